/- Walks: a reader of bytes: numbers and texts. -/
import Derived.Test.YtojppmnmhdgnnaaMCuA
import Derived.Test.YtojppmnmhdgnnaaMOwX
import Derived.Laws.BitsAllLaws
namespace Go.Proofs.Ytojppmnmhdgnnaa
set_option linter.unusedVariables false
set_option linter.unusedSimpArgs false
open Go.RowKit

attribute [local go_sem ↓] Go.wp_at_zero Go.wp_at_succ

/-- The block of a reader. -/
abbrev RdT : List TypeId := [133]
/-- The reader at block p has the bytes l ahead of it; whether it is bad. -/
def Rdr (w : World) (p : Nat) (l : List UInt8) (bad : Bool) : Prop :=
  ∃ A n c, Blk w p 133 [.slice A n c, .bool bad] ∧ OwnX w 0 5 A n c (Bs l) ∧ l.length = n ∧ n ≤ c ∧ c ≤ 9223372036854775807 ∧ ((A = none ∧ c = 0) ∨ ∃ b o, A = some ⟨b, o, none⟩)
/-- The reader is bad, and has nothing. -/
abbrev RdrBad (w : World) (p : Nat) : Prop := Blk w p 133 [.slice none 0 0, .bool true]
theorem RdrBad.rdr {w : World} {p : Nat} (h : RdrBad w p) : Rdr w p [] true := ⟨none, 0, 0, h, OwnX.nil _ _ _, rfl, Nat.le_refl _, by omega, .inl ⟨rfl, rfl⟩⟩
theorem Rdr.below {w w' : World} {p : Nat} {l : List UInt8} {bad : Bool} (h : Rdr w p l bad) (hb : Below w.heap.size w w') : Rdr w' p l bad := by
  obtain ⟨A, n, c, h1, h2, h3⟩ := h
  exact ⟨A, n, c, h1.below hb, h2.below hb, h3⟩
theorem rdr_new (l : List UInt8) (n c : Nat) (A : Option Addr) (w : World) (hl : l.length = n) (hr : Rd w A (Bs l)) (hn : n ≤ 1000000) :
    Calls Try.prog 63 #[.slice A n c] w fun e w' => ∃ p, e = .returned (.pointer (some ⟨p, 0, none⟩)) ∧ Rdr w' p l false ∧ w.heap.size ≤ p ∧ Below w.heap.size w w' := by
  have Hl := Lib.hid hl
  clear hl
  go_enter Try.func63, Try.ntmps63
  go_wp2_with (first | (at_builtin; refine hold ?_) | (at_make; refine hold ?_))
  (with_reducible refine unhold ?_)
  refine wpList_apd rfl _ _ _ rfl E8 w.heap.size none 0 0 [] rfl (Own.nil _ _ _ _) A n c (Bs l) rfl (by rw [List.length_map, Hl.out, Nat.mul_one]) hr (Bs_one l) n (Nat.zero_add _) (Bs l) rfl (by omega) (by omega) (Nat.le_refl _) ?_
  intro A1 c1 w1 ho1 hg1 _
  have hb1 : Below w.heap.size w w1 := (Below.refl _ _).grown hg1 (Nat.le_refl _) (fun k hk => by simp [Value.ownBlock] at hk)
  have hz1 := hb1.size
  have hcap := Own.cap ho1
  go_wp2_with fail
  go_ret
  have hbB : Below w1.heap.size w1 (w1.alloc (.cells #[.slice A1 n c1, .bool false] 133)) := (Below.refl _ _).alloc (Nat.le_refl _) _
  refine ⟨_, rfl, ⟨A1, n, c1, Blk.new w1 _ _, (OwnX.of_own (Own.below ho1 hbB)).lower (Nat.zero_le _), Hl.out, hcap.1, by have := hcap.2; unfold maxLen at this; omega, by
    rcases Own.lies ho1 with ⟨h, _, h', _⟩ | ⟨g, cur, h, _⟩
    · exact .inl ⟨h, h'⟩
    · exact .inr ⟨g, 0, h⟩⟩, hz1, hb1.trans (hbB.mono hz1)⟩

theorem rdr_bad (p : Nat) (l : List UInt8) (bad : Bool) (w : World) (h : Rdr w p l bad) : Calls Try.prog 65 #[.pointer (some ⟨p, 0, none⟩)] w fun e w' => e = .returned (.bool bad) ∧ w = w' := by
  obtain ⟨A, n, c, h1, _⟩ := h
  have k1 := h1.cell 1
  simp only [List.getElem?_cons_zero, List.getElem?_cons_succ] at k1
  clear h1
  go_enter Try.func65, Try.ntmps65
  go_wp2_with fail
  go_ret
  exact ⟨rfl, rfl⟩
theorem rdr_left (p : Nat) (l : List UInt8) (bad : Bool) (w : World) (h : Rdr w p l bad) : Calls Try.prog 66 #[.pointer (some ⟨p, 0, none⟩)] w fun e w' => e = .returned (.int .i64 (l.length : Nat)) ∧ w = w' := by
  obtain ⟨A, n, c, h1, _, rfl, _⟩ := h
  have k0 := h1.cell 0
  simp only [List.getElem?_cons_zero, List.getElem?_cons_succ] at k0
  generalize l.length = n at *
  clear h1
  go_enter Try.func66, Try.ntmps66
  go_wp2_with fail
  go_ret
  exact ⟨rfl, rfl⟩

theorem rdr_fail (p : Nat) (l : List UInt8) (bad : Bool) (w : World) (h : Rdr w p l bad) : Calls Try.prog 91 #[.pointer (some ⟨p, 0, none⟩)] w fun e w' => e = .returned (.tuple #[]) ∧ RdrBad w' p ∧ Keeps RdT p w w' := by
  obtain ⟨A, n, c, h1, _⟩ := h
  have k0 := h1.cell 0
  have k1 := h1.cell 1
  have f0 := h1.frozen 0
  have f1 := h1.frozen 1
  simp only [List.getElem?_cons_zero, List.getElem?_cons_succ] at k0 k1
  have h2 := h1.set_ 0 (.slice none 0 0)
  have h3 := h2.set_ 1 (.bool true)
  simp only [List.set_cons_zero, List.set_cons_succ] at h2 h3
  have hk2 : Keeps RdT p w (w.setCell ⟨p, 0, none⟩ (.slice none 0 0)) := (Keeps.refl _ _ _).setCell h1 (by simp) (Nat.le_refl _) _
  have hk3 : Keeps RdT p w ((w.setCell ⟨p, 0, none⟩ (.slice none 0 0)).setCell ⟨p, 1, none⟩ (.bool true)) := hk2.setCell h2 (by simp) (Nat.le_refl _) _
  have H3 := Lib.hid h3
  have Hk3 := Lib.hid hk3
  clear h1 h2 h3 hk2 hk3
  go_enter Try.func91, Try.ntmps91
  go_wp2_with fail
  go_end0
  exact ⟨rfl, H3.out, Hk3.out⟩

/-- The reader goes on by k bytes. -/
theorem Rdr.skip {w : World} {p b o n c : Nat} {l : List UInt8} {bad : Bool} (h1 : Blk w p 133 [.slice (some ⟨b, o, none⟩) n c, .bool bad]) (h2 : OwnX w 0 5 (some ⟨b, o, none⟩) n c (Bs l)) (hl : l.length = n) (hnc : n ≤ c) (hc : c ≤ 9223372036854775807) {k : Nat} (hk : k ≤ n) (q : Option Addr) (hq : if k = c then q = some ⟨b, o, none⟩ else q = some ⟨b, o + k, none⟩) :
    Rdr (w.setCell ⟨p, 0, none⟩ (.slice q (n - k) (c - k))) p (l.drop k) bad ∧ Keeps RdT p w (w.setCell ⟨p, 0, none⟩ (.slice q (n - k) (c - k))) := by
  have h3 := h1.set_ 0 (.slice q (n - k) (c - k))
  simp only [List.set_cons_zero] at h3
  have hk2 : Keeps RdT p w (w.setCell ⟨p, 0, none⟩ (.slice q (n - k) (c - k))) := (Keeps.refl _ _ _).setCell h1 (by simp) (Nat.le_refl _) _
  refine ⟨⟨q, n - k, c - k, h3, ?_, by rw [List.length_drop, hl], by omega, by omega, .inr (by split at hq <;> exact ⟨_, _, hq⟩)⟩, hk2⟩
  split at hq
  · rename_i hkc
    have hn : n = k := by omega
    subst hq
    have : l.drop k = [] := List.drop_eq_nil_of_le (by omega)
    have h4 := h2.dropAll.keeps (T := RdT) (B := p) (by decide) hk2
    have e1 : n - k = 0 := by omega
    have e2 : c - k = 0 := by omega
    rw [e1, e2] at h4
    rw [this, e1, e2]
    exact h4
  · subst hq
    have := (h2.drop hk).keeps (by decide) hk2
    rw [← List.map_drop] at this
    exact this

theorem Rdr.far {w : World} {p g i : Nat} {l : List UInt8} {bad : Bool} {t : TypeId} {xs : List Value} (h : Rdr w p l bad) (hg : Blk w g t xs) (h1t : t ≠ 133) (h2t : t ≠ 5) (u : Value) : Rdr (w.setCell ⟨g, i, none⟩ u) p l bad := by
  obtain ⟨A, n, c, h1, h2, h3⟩ := h
  have hk : Keeps [t] 0 w (w.setCell ⟨g, i, none⟩ u) := (Keeps.refl _ _ _).setCell hg (by simp) (Nat.zero_le _) u
  exact ⟨A, n, c, h1.keeps (by simp [Ne.symm h1t]) hk, h2.keeps (by simp [Ne.symm h2t]) hk, h3⟩
theorem or_byte {v c : Nat} (hv : v < 72057594037927936) (hc : c < 256) : bits .or .u64 ((v * 256 : Nat) : Int) ((c : Nat) : Int) = ((v * 256 + c : Nat) : Int) := by
  rw [u64_or_nat _ _ (by omega) (by omega)]
  have : v * 256 ||| c = v * 256 + c := by
    rw [show v * 256 = v <<< 8 from by rw [Nat.shiftLeft_eq], ← Nat.shiftLeft_add_eq_or_of_lt (by omega)]
  rw [this]
theorem valB_take {t : List UInt8} {j : Nat} (hj : j < t.length) : valB (t.take (j + 1)) = valB (t.take j) * 256 + t[j].toNat := by
  rw [List.take_succ_eq_append_getElem hj, valB_snoc]
theorem valB_small {t : List UInt8} {j : Nat} (hj : j ≤ 7) : valB (t.take j) < 72057594037927936 := by
  have h := valB_lt (t.take j)
  refine Nat.lt_of_lt_of_le h (Nat.le_trans (Nat.pow_le_pow_right (by decide) (show (t.take j).length ≤ 7 by rw [List.length_take]; omega)) (by decide +kernel))
theorem valB_small8 {t : List UInt8} {j : Nat} (hj : j ≤ 8) : valB (t.take j) < 18446744073709551616 := by
  have h := valB_lt (t.take j)
  refine Nat.lt_of_lt_of_le h (Nat.le_trans (Nat.pow_le_pow_right (by decide) (show (t.take j).length ≤ 8 by rw [List.length_take]; omega)) (by decide +kernel))
end Go.Proofs.Ytojppmnmhdgnnaa
