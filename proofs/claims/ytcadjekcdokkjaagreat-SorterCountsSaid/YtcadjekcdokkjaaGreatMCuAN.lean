/- Numbers and texts that bytes begin with: plain laws, with no program in sight. Walks: a reader of bytes: numbers and texts. The walk of a reader's Num. -/
import Derived.Test.YtcadjekcdokkjaaGreatMOcM
import Derived.Test.YtcadjekcdokkjaaGreatMOwX
import Derived.Laws.BitsAllLaws
import Derived.Test.YtcadjekcdokkjaaGreatMOcLW
namespace Go.Proofs.YtcadjekcdokkjaaGreat
set_option linter.unusedVariables false
set_option linter.unusedSimpArgs false
open Go.RowKit
def valB (l : List UInt8) : Nat := l.foldl (fun n c => n * 256 + c.toNat) 0
theorem valB_acc : ∀ (l : List UInt8) (a : Nat), l.foldl (fun n c => n * 256 + c.toNat) a = a * 256 ^ l.length + valB l
 | [], a => by simp [valB]
 | c :: l, a => by
  have h1 := valB_acc l (a * 256 + c.toNat)
  have h2 := valB_acc l (0 * 256 + c.toNat)
  unfold valB at *
  rw [List.foldl_cons, List.foldl_cons, h1, h2, List.length_cons, Nat.pow_succ, Nat.add_mul, Nat.zero_mul, Nat.zero_add, Nat.mul_assoc, Nat.mul_comm 256, Nat.add_assoc]
theorem valB_cons (c : UInt8) (l : List UInt8) : valB (c :: l) = c.toNat * 256 ^ l.length + valB l := by
 have h := valB_acc l (0 * 256 + c.toNat)
 rw [Nat.zero_mul, Nat.zero_add] at h
 rw [← h]
 unfold valB
 rw [List.foldl_cons, Nat.zero_mul, Nat.zero_add]
theorem valB_snoc (l : List UInt8) (c : UInt8) : valB (l ++ [c]) = valB l * 256 + c.toNat := by simp [valB]
theorem valB_lt : ∀ l : List UInt8, valB l < 256 ^ l.length
 | [] => by simp [valB]
 | c :: l => by
  have h1 := valB_lt l
  have h2 := c.toNat_lt
  rw [valB_cons, List.length_cons, Nat.pow_succ]
  have : (c.toNat + 1) * 256 ^ l.length ≤ 256 * 256 ^ l.length := Nat.mul_le_mul_right _ (by omega)
  rw [Nat.add_mul, Nat.one_mul] at this
  rw [Nat.mul_comm (256 ^ l.length) 256]
  omega
theorem valB_big (n : Nat) : ∀ t : Nat, valB (big n t t) = n % 256 ^ t
 | 0 => by rw [big_zero, Nat.pow_zero, Nat.mod_one]; rfl
 | t + 1 => by
  rw [big_cons, valB_cons, big_len, byteN_toNat, valB_big n t, Nat.pow_succ, Nat.mod_mul, Nat.mul_comm, Nat.add_comm]
theorem lt_lenB : ∀ (f n : Nat), n ≤ f → n < 18446744073709551616 → n < 256 ^ lenB n
 | f, n, hf, hn => by
  by_cases h0 : n = 0
  ·subst h0
   rw [lenB_zero]
   decide
  ·rw [lenB_next h0 hn, Nat.pow_succ]
   cases f with
   | zero => omega
   | succ f =>
    have := lt_lenB f (n / 256) (by omega) (by omega)
    omega
theorem lenB_bits {n : Nat} (h0 : n ≠ 0) (hn : n < 18446744073709551616) : 8 * (lenB n - 1) < Lib.bitLen n := by
 have h1 : lenB n = lenB (n / 256) + 1 := lenB_next h0 hn
 unfold lenB at h1 ⊢
 omega
def takeNum : List UInt8 → Option (Nat × List UInt8)
 | [] => none
 | f :: t =>
  if f.toNat < 248 then some (f.toNat, t)
  else if t.length < f.toNat - 247 then none
  else if valB (t.take (f.toNat - 247)) < 248 ∨ Lib.bitLen (valB (t.take (f.toNat - 247))) ≤ 8 * (f.toNat - 248) then none
  else some (valB (t.take (f.toNat - 247)), t.drop (f.toNat - 247))
theorem takeNum_lt {l u : List UInt8} {m : Nat} (h : takeNum l = some (m, u)) : m < 18446744073709551616 ∧ u.length < l.length := by
 cases l with
 | nil => cases h
 | cons f t =>
  rw [takeNum] at h
  have hf := f.toNat_lt
  split at h
  ·obtain ⟨h1, h2⟩ := Prod.mk.inj (Option.some.inj h)
   subst h1; subst h2
   exact ⟨by omega, by simp⟩
  ·split at h
   ·cases h
   ·split at h
    ·cases h
    ·obtain ⟨h1, h2⟩ := Prod.mk.inj (Option.some.inj h)
     subst h1; subst h2
     refine ⟨?_, by rw [List.length_drop, List.length_cons]; omega⟩
     have := valB_lt (t.take (f.toNat - 247))
     have h8 : (t.take (f.toNat - 247)).length ≤ 8 := by rw [List.length_take]; omega
     exact Nat.lt_of_lt_of_le this (Nat.le_trans (Nat.pow_le_pow_right (by decide) h8) (by decide +kernel))
theorem takeNum_suf {l u : List UInt8} {m : Nat} (h : takeNum l = some (m, u)) : ∃ k, u = l.drop k ∧ k ≤ l.length := by
 cases l with
 | nil => cases h
 | cons f t =>
  rw [takeNum] at h
  split at h
  ·obtain ⟨h1, h2⟩ := Prod.mk.inj (Option.some.inj h)
   exact ⟨1, h2.symm, by simp⟩
  ·split at h
   ·cases h
   ·split at h
    ·cases h
    ·obtain ⟨h1, h2⟩ := Prod.mk.inj (Option.some.inj h)
     exact ⟨f.toNat - 247 + 1, by rw [List.drop_succ_cons]; exact h2.symm, by rw [List.length_cons]; omega⟩
theorem takeNum_put {n : Nat} (hn : n < 18446744073709551616) (U : List UInt8) : takeNum (numB n ++ U) = some (n, U) := by
 unfold numB
 split
 ·rename_i h
  rw [List.cons_append, List.nil_append, takeNum, byteN_toNat, Nat.mod_eq_of_lt (by omega), if_pos h]
 ·rename_i h
  have h8 := lenB_le hn
  have h1 := lenB_pos (by omega) hn
  have e1 : (byteN (247 + lenB n)).toNat = 247 + lenB n := by rw [byteN_toNat, Nat.mod_eq_of_lt (by omega)]
  have e2 : (big n (lenB n) (lenB n) ++ U).take (lenB n) = big n (lenB n) (lenB n) := List.take_left' (big_len ..)
  have e3 : (big n (lenB n) (lenB n) ++ U).drop (lenB n) = U := List.drop_left' (big_len ..)
  have e4 : valB (big n (lenB n) (lenB n)) = n := by rw [valB_big, Nat.mod_eq_of_lt (lt_lenB n n (Nat.le_refl _) hn)]
  have h2 := lenB_bits (n := n) (by omega) hn
  rw [List.cons_append, takeNum, e1, if_neg (by omega), if_neg (by rw [List.length_append, big_len]; omega), show 247 + lenB n - 247 = lenB n from by omega, e2, e3, e4, if_neg]
  omega
theorem takeNum_short {n : Nat} (hn : n < 18446744073709551616) {j : Nat} (hj : j < (numB n).length) : takeNum ((numB n).take j) = none := by
 cases j with
 | zero => rfl
 | succ j =>
  unfold numB at hj ⊢
  split at hj
  ·simp at hj
  ·rename_i h
   have h8 := lenB_le hn
   rw [if_neg h]
   rw [List.length_cons, big_len] at hj
   have e1 : (byteN (247 + lenB n)).toNat = 247 + lenB n := by rw [byteN_toNat, Nat.mod_eq_of_lt (by omega)]
   have h1 := lenB_pos (by omega) hn
   rw [List.take_succ_cons, takeNum, e1, if_neg (by omega), if_pos (by rw [List.length_take, big_len]; omega)]
def unzig (m : Nat) : Int := if m % 2 = 0 then ((m / 2 : Nat) : Int) else -((m / 2 : Nat) : Int) - 1
theorem unzig_zig (n : Int) : unzig (zigN n) = n := by
 unfold unzig zigN
 split <;> split <;> omega
theorem unzig_in {m : Nat} (h : m < 18446744073709551616) : -9223372036854775808 ≤ unzig m ∧ unzig m ≤ 9223372036854775807 := by
 unfold unzig
 split <;> omega
def takeText (l : List UInt8) : Option (List UInt8 × List UInt8) :=
 match takeNum l with
 | none => none
 | some (m, u) => if 1024 < m ∨ u.length < m then none else some (u.take m, u.drop m)
theorem takeText_put {s : List UInt8} (hs : s.length ≤ 1024) (U : List UInt8) : takeText (numB s.length ++ s ++ U) = some (s, U) := by
 unfold takeText
 rw [List.append_assoc, takeNum_put (by omega)]
 dsimp only
 rw [if_neg (by rw [List.length_append]; omega), List.take_left, List.drop_left]
theorem take_le {α : Type} (l m : List α) {j : Nat} (h : j ≤ l.length) : (l ++ m).take j = l.take j := List.take_append_of_le_length h
theorem take_more {α : Type} (l m : List α) {j : Nat} (h : l.length ≤ j) : (l ++ m).take j = l ++ m.take (j - l.length) := by
 rw [List.take_append, List.take_of_length_le h]
theorem takeText_short {s : List UInt8} (hs : s.length ≤ 1024) {j : Nat} (hj : j < (numB s.length ++ s).length) : takeText ((numB s.length ++ s).take j) = none := by
 unfold takeText
 by_cases h : j < (numB s.length).length
 ·rw [take_le _ _ (by omega), takeNum_short (by omega) h]
 ·rw [List.length_append] at hj
  rw [take_more _ _ (by omega), takeNum_put (by omega)]
  dsimp only
  rw [if_pos (by rw [List.length_take]; omega)]
theorem takeText_suf {l s u : List UInt8} (h : takeText l = some (s, u)) : s.length ≤ 1024 ∧ ∃ k, u = l.drop k ∧ k ≤ l.length := by
 unfold takeText at h
 cases e : takeNum l with
 | none => rw [e] at h; cases h
 | some x =>
  obtain ⟨m, t⟩ := x
  rw [e] at h
  dsimp only at h
  split at h
  ·cases h
  ·obtain ⟨h1, h2⟩ := Prod.mk.inj (Option.some.inj h)
   obtain ⟨k, rfl, hk⟩ := takeNum_suf e
   refine ⟨by rw [← h1, List.length_take]; omega, k + m, ?_, ?_⟩
   ·rw [← h2, List.drop_drop]
   ·rw [List.length_drop] at *
    omega
end Go.Proofs.YtcadjekcdokkjaaGreat
namespace Go.Proofs.YtcadjekcdokkjaaGreat
set_option linter.unusedVariables false
set_option linter.unusedSimpArgs false
open Go.RowKit
attribute [local go_sem ↓] Go.wp_at_zero Go.wp_at_succ
abbrev RdT : List TypeId := [178]
def Rdr (w : World) (p : Nat) (l : List UInt8) (bad : Bool) : Prop :=
 ∃ A n c, Blk w p 178 [.slice A n c, .bool bad] ∧ OwnX w 0 5 A n c (Bs l) ∧ l.length = n ∧ n ≤ c ∧ c ≤ 9223372036854775807 ∧ ((A = none ∧ c = 0) ∨ ∃ b o, A = some ⟨b, o, none⟩)
abbrev RdrBad (w : World) (p : Nat) : Prop := Blk w p 178 [.slice none 0 0, .bool true]
theorem RdrBad.rdr {w : World} {p : Nat} (h : RdrBad w p) : Rdr w p [] true := ⟨none, 0, 0, h, OwnX.nil _ _ _, rfl, Nat.le_refl _, by omega, .inl ⟨rfl, rfl⟩⟩
theorem Rdr.below {w w' : World} {p : Nat} {l : List UInt8} {bad : Bool} (h : Rdr w p l bad) (hb : Below w.heap.size w w') : Rdr w' p l bad := by
 obtain ⟨A, n, c, h1, h2, h3⟩ := h
 exact ⟨A, n, c, h1.below hb, h2.below hb, h3⟩
theorem rdr_new (l : List UInt8) (n c : Nat) (A : Option Addr) (w : World) (hl : l.length = n) (hr : Rd w A (Bs l)) (hn : n ≤ 1000000) :
  Calls Tryz.prog 132 #[.slice A n c] w fun e w' => ∃ p, e = .returned (.pointer (some ⟨p, 0, none⟩)) ∧ Rdr w' p l false ∧ w.heap.size ≤ p ∧ Below w.heap.size w w' := by
 have Hl := Lib.hid hl
 clear hl
 go_enter Tryz.func132, Tryz.ntmps132
 go_wp2_with (first | (at_builtin; refine hold ?_) | (at_make; refine hold ?_))
 (with_reducible refine unhold ?_)
 refine wpList_apd rfl _ _ _ rfl E8 w.heap.size none 0 0 [] rfl (Own.nil _ _ _ _) A n c (Bs l) rfl (by rw [List.length_map, Hl.out, Nat.mul_one]) hr (Bs_one l) n (Nat.zero_add _) (Bs l) rfl (by omega) (by omega) (Nat.le_refl _) ?_
 intro A1 c1 w1 ho1 hg1 _
 have hb1 : Below w.heap.size w w1 := (Below.refl _ _).grown hg1 (Nat.le_refl _) (fun k hk => by simp [Value.ownBlock] at hk)
 have hz1 := hb1.size
 have hcap := Own.cap ho1
 go_wp2_with fail
 go_ret
 have hbB : Below w1.heap.size w1 (w1.alloc (.cells #[.slice A1 n c1, .bool false] 178)) := (Below.refl _ _).alloc (Nat.le_refl _) _
 refine ⟨_, rfl, ⟨A1, n, c1, Blk.new w1 _ _, (OwnX.of_own (Own.below ho1 hbB)).lower (Nat.zero_le _), Hl.out, hcap.1, by have := hcap.2; unfold maxLen at this; omega, by
  rcases Own.lies ho1 with ⟨h, _, h', _⟩ | ⟨g, cur, h, _⟩
  ·exact .inl ⟨h, h'⟩
  ·exact .inr ⟨g, 0, h⟩⟩, hz1, hb1.trans (hbB.mono hz1)⟩
theorem rdr_bad (p : Nat) (l : List UInt8) (bad : Bool) (w : World) (h : Rdr w p l bad) : Calls Tryz.prog 134 #[.pointer (some ⟨p, 0, none⟩)] w fun e w' => e = .returned (.bool bad) ∧ w = w' := by
 obtain ⟨A, n, c, h1, _⟩ := h
 have k1 := h1.cell 1
 simp only [List.getElem?_cons_zero, List.getElem?_cons_succ] at k1
 clear h1
 go_enter Tryz.func134, Tryz.ntmps134
 go_wp2_with fail
 go_ret
 exact ⟨rfl, rfl⟩
theorem rdr_left (p : Nat) (l : List UInt8) (bad : Bool) (w : World) (h : Rdr w p l bad) : Calls Tryz.prog 135 #[.pointer (some ⟨p, 0, none⟩)] w fun e w' => e = .returned (.int .i64 (l.length : Nat)) ∧ w = w' := by
 obtain ⟨A, n, c, h1, _, rfl, _⟩ := h
 have k0 := h1.cell 0
 simp only [List.getElem?_cons_zero, List.getElem?_cons_succ] at k0
 generalize l.length = n at *
 clear h1
 go_enter Tryz.func135, Tryz.ntmps135
 go_wp2_with fail
 go_ret
 exact ⟨rfl, rfl⟩
theorem rdr_fail (p : Nat) (l : List UInt8) (bad : Bool) (w : World) (h : Rdr w p l bad) : Calls Tryz.prog 142 #[.pointer (some ⟨p, 0, none⟩)] w fun e w' => e = .returned (.tuple #[]) ∧ RdrBad w' p ∧ Keeps RdT p w w' := by
 obtain ⟨A, n, c, h1, _⟩ := h
 have k0 := h1.cell 0
 have k1 := h1.cell 1
 have f0 := h1.frozen 0
 have f1 := h1.frozen 1
 simp only [List.getElem?_cons_zero, List.getElem?_cons_succ] at k0 k1
 have h2 := h1.set_ 0 (.slice none 0 0)
 have h3 := h2.set_ 1 (.bool true)
 simp only [List.set_cons_zero, List.set_cons_succ] at h2 h3
 have hk2 : Keeps RdT p w (w.setCell ⟨p, 0, none⟩ (.slice none 0 0)) := (Keeps.refl _ _ _).setCell h1 (by simp) (Nat.le_refl _) _
 have hk3 : Keeps RdT p w ((w.setCell ⟨p, 0, none⟩ (.slice none 0 0)).setCell ⟨p, 1, none⟩ (.bool true)) := hk2.setCell h2 (by simp) (Nat.le_refl _) _
 have H3 := Lib.hid h3
 have Hk3 := Lib.hid hk3
 clear h1 h2 h3 hk2 hk3
 go_enter Tryz.func142, Tryz.ntmps142
 go_wp2_with fail
 go_end0
 exact ⟨rfl, H3.out, Hk3.out⟩
theorem Rdr.skip {w : World} {p b o n c : Nat} {l : List UInt8} {bad : Bool} (h1 : Blk w p 178 [.slice (some ⟨b, o, none⟩) n c, .bool bad]) (h2 : OwnX w 0 5 (some ⟨b, o, none⟩) n c (Bs l)) (hl : l.length = n) (hnc : n ≤ c) (hc : c ≤ 9223372036854775807) {k : Nat} (hk : k ≤ n) (q : Option Addr) (hq : if k = c then q = some ⟨b, o, none⟩ else q = some ⟨b, o + k, none⟩) :
  Rdr (w.setCell ⟨p, 0, none⟩ (.slice q (n - k) (c - k))) p (l.drop k) bad ∧ Keeps RdT p w (w.setCell ⟨p, 0, none⟩ (.slice q (n - k) (c - k))) := by
 have h3 := h1.set_ 0 (.slice q (n - k) (c - k))
 simp only [List.set_cons_zero] at h3
 have hk2 : Keeps RdT p w (w.setCell ⟨p, 0, none⟩ (.slice q (n - k) (c - k))) := (Keeps.refl _ _ _).setCell h1 (by simp) (Nat.le_refl _) _
 refine ⟨⟨q, n - k, c - k, h3, ?_, by rw [List.length_drop, hl], by omega, by omega, .inr (by split at hq <;> exact ⟨_, _, hq⟩)⟩, hk2⟩
 split at hq
 ·rename_i hkc
  have hn : n = k := by omega
  subst hq
  have : l.drop k = [] := List.drop_eq_nil_of_le (by omega)
  have h4 := h2.dropAll.keeps (T := RdT) (B := p) (by decide) hk2
  have e1 : n - k = 0 := by omega
  have e2 : c - k = 0 := by omega
  rw [e1, e2] at h4
  rw [this, e1, e2]
  exact h4
 ·subst hq
  have := (h2.drop hk).keeps (by decide) hk2
  rw [← List.map_drop] at this
  exact this
theorem Rdr.far {w : World} {p g i : Nat} {l : List UInt8} {bad : Bool} {t : TypeId} {xs : List Value} (h : Rdr w p l bad) (hg : Blk w g t xs) (h1t : t ≠ 178) (h2t : t ≠ 5) (u : Value) : Rdr (w.setCell ⟨g, i, none⟩ u) p l bad := by
 obtain ⟨A, n, c, h1, h2, h3⟩ := h
 have hk : Keeps [t] 0 w (w.setCell ⟨g, i, none⟩ u) := (Keeps.refl _ _ _).setCell hg (by simp) (Nat.zero_le _) u
 exact ⟨A, n, c, h1.keeps (by simp [Ne.symm h1t]) hk, h2.keeps (by simp [Ne.symm h2t]) hk, h3⟩
theorem or_byte {v c : Nat} (hv : v < 72057594037927936) (hc : c < 256) : bits .or .u64 ((v * 256 : Nat) : Int) ((c : Nat) : Int) = ((v * 256 + c : Nat) : Int) := by
 rw [u64_or_nat _ _ (by omega) (by omega)]
 have : v * 256 ||| c = v * 256 + c := by
  rw [show v * 256 = v <<< 8 from by rw [Nat.shiftLeft_eq], ← Nat.shiftLeft_add_eq_or_of_lt (by omega)]
 rw [this]
theorem valB_take {t : List UInt8} {j : Nat} (hj : j < t.length) : valB (t.take (j + 1)) = valB (t.take j) * 256 + t[j].toNat := by
 rw [List.take_succ_eq_append_getElem hj, valB_snoc]
theorem valB_small {t : List UInt8} {j : Nat} (hj : j ≤ 7) : valB (t.take j) < 72057594037927936 := by
 have h := valB_lt (t.take j)
 refine Nat.lt_of_lt_of_le h (Nat.le_trans (Nat.pow_le_pow_right (by decide) (show (t.take j).length ≤ 7 by rw [List.length_take]; omega)) (by decide +kernel))
theorem valB_small8 {t : List UInt8} {j : Nat} (hj : j ≤ 8) : valB (t.take j) < 18446744073709551616 := by
 have h := valB_lt (t.take j)
 refine Nat.lt_of_lt_of_le h (Nat.le_trans (Nat.pow_le_pow_right (by decide) (show (t.take j).length ≤ 8 by rw [List.length_take]; omega)) (by decide +kernel))
end Go.Proofs.YtcadjekcdokkjaaGreat
namespace Go.Proofs.YtcadjekcdokkjaaGreat
set_option linter.unusedVariables false
set_option linter.unusedSimpArgs false
open Go.RowKit
attribute [local go_sem ↓] Go.wp_at_zero Go.wp_at_succ
def NumOK (p : Nat) (l : List UInt8) (bad : Bool) (w : World) (e : Ending) (w' : World) : Prop :=
 ((takeNum l = none ∧ e = .returned (.int .u64 0) ∧ RdrBad w' p) ∨ ∃ m u, takeNum l = some (m, u) ∧ e = .returned (.int .u64 (m : Nat)) ∧ Rdr w' p u bad) ∧ Keeps RdT p w w'
theorem num_nil (p : Nat) (bad : Bool) (w : World) (h : Rdr w p [] bad) : Calls Tryz.prog 133 #[.pointer (some ⟨p, 0, none⟩)] w fun e w' => NumOK p [] bad w e w' := by
 have hf := Lib.hid (rdr_fail p [] bad w h)
 obtain ⟨A, n, c, h1, _, hl, _⟩ := h
 obtain rfl : 0 = n := hl
 have k0 := h1.cell 0
 simp only [List.getElem?_cons_zero, List.getElem?_cons_succ] at k0
 clear h1
 go_enter Tryz.func133, Tryz.ntmps133
 go_wp2_with fail
 refine hf.out.mono ?_
 rintro e w1 ⟨rfl, hr1, hk1⟩
 go_wp2_with fail
 go_ret
 exact ⟨.inl ⟨rfl, rfl, hr1⟩, hk1⟩
set_option maxRecDepth 100000 in
theorem num_small (p : Nat) (f : UInt8) (t : List UInt8) (bad : Bool) (w : World) (h : Rdr w p (f :: t) bad) (h248 : f.toNat < 248) : Calls Tryz.prog 133 #[.pointer (some ⟨p, 0, none⟩)] w fun e w' => NumOK p (f :: t) bad w e w' := by
 have htn : Hid (takeNum (f :: t) = some (f.toNat, t)) := by show _ = _; rw [takeNum, if_pos h248]
 obtain ⟨A, n, c, h1, h2, hl, hnc, hc, _⟩ := h
 obtain ⟨b, o, rfl, _, _, c0⟩ := h2.rd.get (k := 0) (by simp)
 simp only [List.map_cons, List.getElem_cons_zero, Nat.add_zero, B] at c0
 have hn : 0 < n := by rw [← hl]; simp
 have k0 := h1.cell 0
 have f0 := h1.frozen 0
 simp only [List.getElem?_cons_zero, List.getElem?_cons_succ] at k0
 have hsk := Lib.hid (fun q hq => Rdr.skip h1 h2 hl hnc hc (k := 1) (by omega) q hq)
 rw [List.drop_one, List.tail_cons] at hsk
 generalize f.toNat = F at *
 clear h1 h2 hl
 by_cases hc1 : c = 1
 ·subst hc1
  obtain rfl : n = 1 := by omega
  have hs := hsk.out (some ⟨b, o, none⟩) (by rw [if_pos rfl])
  have Hs := Lib.hid hs
  clear hs hsk
  go_enter Tryz.func133, Tryz.ntmps133
  go_wp2_with fail
  go_ret
  exact ⟨.inr ⟨F, t, htn.out, rfl, Hs.out.1⟩, Hs.out.2⟩
 ·have hs := hsk.out (some ⟨b, o + 1, none⟩) (by rw [if_neg (fun e => hc1 e.symm)])
  have Hs := Lib.hid hs
  clear hs hsk
  go_enter Tryz.func133, Tryz.ntmps133
  go_wp2_with fail
  go_ret
  exact ⟨.inr ⟨F, t, htn.out, rfl, Hs.out.1⟩, Hs.out.2⟩
set_option maxHeartbeats 4000000 in
set_option maxRecDepth 100000 in
theorem num_great (p : Nat) (f : UInt8) (t : List UInt8) (bad : Bool) (w : World) (h : Rdr w p (f :: t) bad) (h248 : ¬ f.toNat < 248) : Calls Tryz.prog 133 #[.pointer (some ⟨p, 0, none⟩)] w fun e w' => NumOK p (f :: t) bad w e w' := by
 have hf8 := f.toNat_lt
 obtain ⟨k, hk, hk1, hk8⟩ : ∃ k : Nat, f.toNat = k + 247 ∧ 1 ≤ k ∧ k ≤ 8 := ⟨f.toNat - 247, by omega, by omega, by omega⟩
 have htn : Hid (takeNum (f :: t) = if t.length < k then none else if valB (t.take k) < 248 ∨ Lib.bitLen (valB (t.take k)) ≤ 8 * (k - 1) then none else some (valB (t.take k), t.drop k)) := by
  show _ = _
  rw [takeNum, if_neg h248, show f.toNat - 247 = k from by omega, show f.toNat - 248 = k - 1 from by omega]
 have hf := Lib.hid (fun w' (h' : Rdr w' p (f :: t) bad) => rdr_fail p (f :: t) bad w' h')
 have Hr := Lib.hid h
 obtain ⟨A, n, c, h1, h2, hl, hnc, hc, _⟩ := h
 obtain ⟨b, o, rfl, _, hrr, c0⟩ := h2.rd.get (k := 0) (by simp)
 simp only [List.map_cons, List.getElem_cons_zero, Nat.add_zero, B] at c0
 rw [hk] at c0
 have hn : t.length + 1 = n := by rw [← hl]; simp
 have Hn := Lib.hid hn
 have k0 := h1.cell 0
 have f0 := h1.frozen 0
 simp only [List.getElem?_cons_zero, List.getElem?_cons_succ] at k0
 have hsk := Lib.hid (fun q (hk' : k + 1 ≤ n) hq => Rdr.skip h1 h2 hl hnc hc (k := k + 1) hk' q hq)
 rw [List.drop_succ_cons] at hsk
 have hcell : Hid (∀ j (hj : j < t.length), w.cell? ⟨b, o + 1 + j, none⟩ = some (.int .u8 (t[j].toNat : Int))) := fun j hj => by
  have := hrr (j + 1) (B t[j]) (by
   show ((f :: t).map B)[j + 1]? = _
   rw [List.getElem?_map, List.getElem?_cons_succ, List.getElem?_eq_getElem hj]
   rfl)
  rw [show o + 1 + j = o + (j + 1) from by omega]
  exact this
 have z1 : (k : Int) + 247 - 248 + 1 = (k : Int) := by omega
 have z2 : ¬ (k : Int) + 247 < 248 := by omega
 have c0 : w.cell? ⟨b, o, none⟩ = some (.int .u8 ((k : Int) + 247)) := by rw [c0]; congr 2
 clear h1 h2 hl hrr h248 hf8 hk hn
 have hnp : 0 < n := by have := Hn.out; omega
 have z3 : ((n : Int) == 0) = false := by rw [beq_eq_false_iff_ne]; omega
 by_cases hlen : n ≤ k
 ·have hno : Hid (takeNum (f :: t) = none) := by show _ = _; rw [htn.out, if_pos (by have := Hn.out; omega)]
  have hlenI : (n : Int) ≤ (k : Int) := by omega
  have hfw := Lib.hid (hf.out w Hr.out)
  clear hf hsk hcell
  go_enter Tryz.func133, Tryz.ntmps133
  go_wp2_with fail
  refine hfw.out.mono ?_
  rintro e w1 ⟨rfl, hr1, hk1⟩
  go_wp2_with fail
  go_ret
  exact ⟨.inl ⟨hno.out, rfl, hr1⟩, hk1⟩
 ·have hv8 := valB_small8 (t := t) hk8
  have htn2 : Hid (takeNum (f :: t) = if valB (t.take k) < 248 ∨ Lib.bitLen (valB (t.take k)) ≤ 8 * (k - 1) then none else some (valB (t.take k), t.drop k)) := by show _ = _; rw [htn.out, if_neg (by have := Hn.out; omega)]
  have hfw := Lib.hid (hf.out w Hr.out)
  have hc2 : 1 < c := by omega
  have hlenI : ¬ (n : Int) ≤ (k : Int) := by omega
  have hkn : k + 1 ≤ n := by omega
  clear htn hf
  go_enter Tryz.func133, Tryz.ntmps133
  go_wp2_with fail
  go_loop [5, 57] (fun v i => ∃ j : Nat, j ≤ k ∧ i = .int .i64 j ∧ v = .int .u64 (valB (t.take j) : Nat)) (fun _ i => k - (intOf i).toNat)
  case atStart => exact ⟨0, by omega, rfl, rfl⟩
  case round =>
   obtain ⟨j, hj, rfl, rfl⟩ := hrel
   by_cases hlt : j < k
   ·have hjt : j < t.length := by have := Hn.out; omega
    have cj := hcell.out j hjt
    have hv := valB_take hjt
    have hs := valB_small (t := t) (j := j) (by omega)
    have h8 := t[j].toNat_lt
    generalize t[j].toNat = C at *
    generalize hV : valB (t.take j) = V at *
    have Hv := Lib.hid hv
    have o1 : bits .or .u64 ((V : Int) * 256) (C : Int) = ((V * 256 + C : Nat) : Int) := by
     have := or_byte hs (show C < 256 by omega)
     rwa [show ((V * 256 : Nat) : Int) = (V : Int) * 256 from by omega] at this
    have o2 : IntKind.u64.wrap ((V : Int) * 256) = (V : Int) * 256 := by rw [IntKind.wrap_u64]; omega
    have o3 : ((V : Int) * 256) % 18446744073709551616 = (V : Int) * 256 := by omega
    clear hv hV
    go_wp2_with fail
    go_round
    case rel => exact ⟨j + 1, by omega, by go_num, by rw [Hv.out]; congr 1⟩
    case measure => simp [intOf]; omega
   ·obtain rfl : j = k := by omega
    have hbit := Lib.bitLen_le (valB (t.take j)) 64 (Nat.le_refl _) hv8
    generalize hV : valB (t.take j) = V at *
    have HV := Lib.hid hV
    clear hV
    by_cases h2 : V < 248
    ·have hno : Hid (takeNum (f :: t) = none) := by show _ = _; rw [htn2.out, if_pos (.inl h2)]
     clear hsk hcell htn2
     go_wp2_with fail
     refine hfw.out.mono ?_
     rintro e w1 ⟨rfl, hr1, hk1⟩
     go_wp2_with fail
     go_ret
     exact ⟨.inl ⟨hno.out, rfl, hr1⟩, hk1⟩
    ·have hlen64 := Lib.hid (len64_any (V : Int) w (by omega) (by omega))
     by_cases h3 : Lib.bitLen V ≤ 8 * (j - 1)
     ·have hno : Hid (takeNum (f :: t) = none) := by show _ = _; rw [htn2.out, if_pos (.inr h3)]
      have h3' : (Lib.bitLen V : Int) ≤ 8 * ((j : Int) - 1) := by omega
      have hlv := hlen64.out
      rw [Int.toNat_natCast] at hlv
      have hlv := Lib.hid hlv
      generalize Lib.bitLen V = BL at *
      clear hsk hcell htn2 hlen64
      go_wp2_with fail
      refine hlv.out.mono ?_
      rintro e w' ⟨rfl, rfl⟩
      go_wp2_with fail
      refine hfw.out.mono ?_
      rintro e w1 ⟨rfl, hr1, hk1⟩
      go_wp2_with fail
      go_ret
      exact ⟨.inl ⟨hno.out, rfl, hr1⟩, hk1⟩
     ·have hyes : Hid (takeNum (f :: t) = some (V, t.drop j)) := by show _ = _; rw [htn2.out, if_neg (by omega)]
      have h3' : ¬ (Lib.bitLen V : Int) ≤ 8 * ((j : Int) - 1) := by omega
      have hlv := hlen64.out
      rw [Int.toNat_natCast] at hlv
      have hlv := Lib.hid hlv
      generalize Lib.bitLen V = BL at *
      by_cases hcj : c = j + 1
      ·subst hcj
       obtain rfl : n = j + 1 := by omega
       have hs := hsk.out (some ⟨b, o, none⟩) (by omega) (by rw [if_pos rfl])
       rw [Nat.sub_self] at hs
       have Hs := Lib.hid hs
       clear hs hsk hcell htn2 hlen64 hfw
       go_wp2_with fail
       refine hlv.out.mono ?_
       rintro e w' ⟨rfl, rfl⟩
       go_wp2_with fail
       go_ret
       exact ⟨.inr ⟨V, _, hyes.out, rfl, Hs.out.1⟩, Hs.out.2⟩
      ·have hs := hsk.out (some ⟨b, o + (j + 1), none⟩) (by omega) (by rw [if_neg (fun e => hcj e.symm)])
       have Hs := Lib.hid hs
       clear hs hsk hcell htn2 hlen64 hfw
       go_wp2_with fail
       refine hlv.out.mono ?_
       rintro e w' ⟨rfl, rfl⟩
       go_wp2_with fail
       go_ret
       exact ⟨.inr ⟨V, _, hyes.out, rfl, Hs.out.1⟩, Hs.out.2⟩
theorem rdr_num (p : Nat) (l : List UInt8) (bad : Bool) (w : World) (h : Rdr w p l bad) : Calls Tryz.prog 133 #[.pointer (some ⟨p, 0, none⟩)] w fun e w' => NumOK p l bad w e w' := by
 cases l with
 | nil => exact num_nil p bad w h
 | cons f t =>
  by_cases hf : f.toNat < 248
  ·exact num_small p f t bad w h hf
  ·exact num_great p f t bad w h hf
end Go.Proofs.YtcadjekcdokkjaaGreat
