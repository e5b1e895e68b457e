/- Walks: a stable sort in place: block by block. Walks: rows in memory of their own, in order. -/
import Derived.Test.YtcadjekcdokkjaaGreatMSqV
namespace Go.Proofs.YtcadjekcdokkjaaGreat
set_option linter.unusedVariables false
set_option linter.unusedSimpArgs false
open Go.RowKit
attribute [local go_sem ↓] Go.wp_at_zero Go.wp_at_succ
namespace Sq
variable {α : Type} {le : α → α → Prop} {d d0 d1 d' : Nat → α} {bs k A n : Nat}
def Bl (le : α → α → Prop) (d : Nat → α) (bs n : Nat) : Prop := ∀ q, Srt le d (q * bs) (min (q * bs + bs) n)
structure Prt (le : α → α → Prop) (d d0 : Nat → α) (bs k A : Nat) : Prop where
 at_ : A = k * bs
 srt : ∀ q, q < k → Srt le d (q * bs) (q * bs + bs)
 out : ∀ i, A ≤ i → d i = d0 i
theorem Prt.start (le : α → α → Prop) (d : Nat → α) (bs : Nat) : Prt le d d bs 0 0 := ⟨by rw [Nat.zero_mul], fun q h => by omega, fun _ _ => rfl⟩
theorem Prt.old (h : Prt le d d0 bs k A) (hs : Sub d d' A n) {q : Nat} (hq : q < k) : Srt le d' (q * bs) (q * bs + bs) := by
 have h1 : (q + 1) * bs ≤ k * bs := Nat.mul_le_mul_right bs hq
 rw [Nat.succ_mul] at h1
 have h2 := h.at_
 exact (h.srt q hq).of_eq fun i _ hi => hs.out i (.inl (by omega))
theorem Prt.step (h : Prt le d d0 bs k A) (hs : Sub d d' A (A + bs)) (ho : Srt le d' A (A + bs)) : Prt le d' d0 bs (k + 1) (A + bs) := by
 have h2 := h.at_
 refine ⟨by rw [Nat.succ_mul, h2], fun q hq => ?_, fun i hi => by rw [hs.out i (.inr hi)]; exact h.out i (by omega)⟩
 by_cases e : q = k
 ·rw [e, ← h2]; exact ho
 ·exact h.old hs (by omega)
theorem Prt.fin (h : Prt le d d0 bs k A) (hA : A ≤ n) (hn : n < A + bs) (hs : Sub d d' A n) (ho : Srt le d' A n) : Bl le d' bs n := fun q => by
 have h2 := h.at_
 by_cases e : q < k
 ·exact (h.old hs e).part (Nat.le_refl _) (by omega)
 ·by_cases e2 : q = k
  ·rw [e2, ← h2]; exact ho.part (Nat.le_refl _) (by omega)
  ·have h1 : (k + 1) * bs ≤ q * bs := Nat.mul_le_mul_right bs (by omega)
   rw [Nat.succ_mul] at h1
   exact fun i j a b c => by omega
theorem Bl.two (h : Bl le d0 bs n) (hp : Prt le d d0 (2 * bs) k A) : Srt le d A (min (A + bs) n) ∧ Srt le d (A + bs) (min (A + 2 * bs) n) := by
 have h2 := hp.at_
 have e1 : (2 * k) * bs = A := by rw [h2, Nat.mul_comm 2 k, Nat.mul_assoc]
 have e2 : (2 * k + 1) * bs = A + bs := by rw [Nat.succ_mul, e1]
 have x1 := h (2 * k)
 have x2 := h (2 * k + 1)
 rw [e1] at x1
 rw [e2] at x2
 exact ⟨x1.of_eq fun i hi _ => hp.out i hi, (x2.part (Nat.le_refl _) (by omega)).of_eq fun i hi _ => hp.out i (by omega)⟩
def Bk (d0 d : Nat → α) (bs n : Nat) : Prop := ∀ q p, q * bs ≤ p → p < q * bs + bs → p < n → ∃ p', q * bs ≤ p' ∧ p' < q * bs + bs ∧ p' < n ∧ d p = d0 p'
theorem Bk.refl (d : Nat → α) (bs n : Nat) : Bk d d bs n := fun _ p h1 h2 h3 => ⟨p, h1, h2, h3, rfl⟩
theorem Bk.step {m : Nat} (h : Bk d0 d bs n) (hA : A = k * bs) (hm : m ≤ A + bs) (hmn : m ≤ n) (hs : Sub d d' A m) : Bk d0 d' bs n := fun q p h1 h2 h3 => by
 by_cases hin : A ≤ p ∧ p < m
 ·obtain ⟨p1, a1, a2, e⟩ := hs.in_ p hin.1 hin.2
  have hqk : q = k := by
   rcases Nat.lt_trichotomy q k with h4 | h4 | h4
   ·have := Nat.mul_le_mul_right bs (show q + 1 ≤ k from h4)
    rw [Nat.succ_mul] at this
    omega
   ·exact h4
   ·have := Nat.mul_le_mul_right bs (show k + 1 ≤ q from h4)
    rw [Nat.succ_mul] at this
    omega
  obtain ⟨p', b1, b2, b3, b4⟩ := h q p1 (by rw [hqk]; omega) (by rw [hqk]; omega) (by omega)
  exact ⟨p', b1, b2, b3, e.trans b4⟩
 ·rw [hs.out p (by omega)]
  exact h q p h1 h2 h3
theorem Bk.double (h : Bk d0 d bs n) : Bk d0 d (2 * bs) n := fun q p h1 h2 h3 => by
 have e : q * (2 * bs) = (2 * q) * bs := by rw [Nat.mul_comm 2 q, Nat.mul_assoc]
 have e2 : (2 * q + 1) * bs = (2 * q) * bs + bs := Nat.succ_mul _ _
 rw [e] at h1 h2 ⊢
 by_cases hp : p < (2 * q) * bs + bs
 ·obtain ⟨p', b1, b2, b3, b4⟩ := h (2 * q) p h1 hp h3
  exact ⟨p', b1, by omega, b3, b4⟩
 ·obtain ⟨p', b1, b2, b3, b4⟩ := h (2 * q + 1) p (by omega) (by omega) h3
  exact ⟨p', by omega, by omega, b3, b4⟩
theorem Bk.two (f : α → Nat) (h : Bk d0 d1 bs n) (hix : ∀ i j, i < j → j < n → f (d0 i) < f (d0 j)) (hp : Prt le d d1 (2 * bs) k A) : ∀ i j, A ≤ i → i < A + bs → A + bs ≤ j → j < A + 2 * bs → j < n → f (d i) < f (d j) := fun i j i1 i2 j1 j2 jn => by
 have h2 := hp.at_
 have e1 : (2 * k) * bs = A := by rw [h2, Nat.mul_comm 2 k, Nat.mul_assoc]
 have e2 : (2 * k + 1) * bs = A + bs := by rw [Nat.succ_mul, e1]
 rw [hp.out i i1, hp.out j (by omega)]
 obtain ⟨i', b1, b2, b3, b4⟩ := h (2 * k) i (by omega) (by omega) (by omega)
 obtain ⟨j', c1, c2, c3, c4⟩ := h (2 * k + 1) j (by omega) (by omega) jn
 rw [b4, c4]
 exact hix i' j' (by omega) c3
end Sq
set_option maxHeartbeats 8000000 in
set_option maxRecDepth 100000 in
theorem stable_c (kb kn kc : Nat) (KA : Option Addr) (ks : List Ky) (B g n c : Nat) (d : Nat → Hr) (w : World) (h : Dat w B g n d) (hK : KeyAt w B kb kn kc KA ks) (hkn : kn ≤ 1000000) (hn : n ≤ 1000000) (hnc : n ≤ c) (hix : ∀ i j, i < j → j < n → (d i).ix < (d j).ix) :
  Calls Tryz.prog 72 #[.slice (some ⟨g, 0, none⟩) n c, .int .i64 n, .func (Fn.func 55) #[] #[.pointer (some ⟨kb, 0, none⟩)]] w fun e w' => ∃ d', e = .returned (.tuple #[]) ∧ Dat w' B g n d' ∧ Sq.Sub d d' 0 n ∧ Sq.Srt (leK ks) d' 0 n ∧ Keeps [23] B w w' := by
 have H := Lib.hid h
 have HK := Lib.hid hK
 have Hix := Lib.hid hix
 clear h hK hix
 go_enter Tryz.func72, Tryz.ntmps72
 go_wp2_with fail
 go_loopw [7, 8] (fun va vb wr => ∃ (k A : Nat) (d' : Nat → Hr), A ≤ n ∧ va = .int .i64 A ∧ vb = .int .i64 ((A + 20 : Nat) : Int) ∧ Hid (Sq.Prt (leK ks) d' d 20 k A) ∧ Hid (Sq.Bk d d' 20 n) ∧ Hid (Sq.Sub d d' 0 n) ∧ Hid (Dat wr B g n d') ∧ Hid (Keeps [23] B w wr)) (fun va _ _ => n - (intOf va).toNat)
 case atStart => exact ⟨0, 0, d, by omega, rfl, rfl, Sq.Prt.start _ _ _, Sq.Bk.refl _ _ _, Sq.Sub.refl _ _ _, H.out, Keeps.refl _ _ _⟩
 case round =>
  obtain ⟨k, A, d', hA, rfl, rfl, Hp, Hbk, Hs, Hd, Hk⟩ := hrel
  by_cases hle : A + 20 ≤ n
  ·have hleI : ((A + 20 : Nat) : Int) ≤ (n : Int) := by omega
   have hins := Lib.hid (insert_c kb kn kc KA ks B g n c d' A (A + 20) wr Hd.out (HK.out.keeps Hk.out) hkn hn hnc (by omega) hle (fun i j i1 i2 i3 => by rw [Hp.out.out i i1, Hp.out.out j (by omega)]; exact Hix.out i j i2 (by omega)))
   go_wp2_with fail
   refine hins.out.mono ?_
   rintro e w5 ⟨d5, rfl, hd5, hs5, ho5, hk5⟩
   have Hbk5 := Lib.hid (Hbk.out.step Hp.out.at_ (by omega) hle hs5)
   have Hp5 := Lib.hid (Hp.out.step hs5 ho5)
   have Hs5 := Lib.hid (Hs.out.trans (hs5.wide (Nat.zero_le _) hle))
   have Hd5 := Lib.hid hd5
   have Hk5 := Lib.hid (Hk.out.trans hk5)
   clear hd5 hs5 ho5 hk5 hins
   go_wp2_with fail
   go_roundw
   case rel => exact ⟨k + 1, A + 20, d5, hle, by go_num, by go_num, Hp5.out, Hbk5.out, Hs5.out, Hd5.out, Hk5.out⟩
   case measure => simp [intOf]; omega
  ·have hleI : ¬ ((A + 20 : Nat) : Int) ≤ (n : Int) := by omega
   have hins := Lib.hid (insert_c kb kn kc KA ks B g n c d' A n wr Hd.out (HK.out.keeps Hk.out) hkn hn hnc hA (Nat.le_refl _) (fun i j i1 i2 i3 => by rw [Hp.out.out i i1, Hp.out.out j (by omega)]; exact Hix.out i j i2 i3))
   go_wp2_with fail
   refine hins.out.mono ?_
   rintro e w5 ⟨d5, rfl, hd5, hs5, ho5, hk5⟩
   have Hbk5 := Lib.hid (Hbk.out.step Hp.out.at_ (by omega) (Nat.le_refl _) hs5)
   have Hb5 := Lib.hid (Hp.out.fin hA (by omega) hs5 ho5)
   have Hs5 := Lib.hid (Hs.out.trans (hs5.wide (Nat.zero_le _) (Nat.le_refl _)))
   have Hd5 := Lib.hid hd5
   have Hk5 := Lib.hid (Hk.out.trans hk5)
   clear hd5 hs5 ho5 hk5 hins Hp Hbk Hs Hd Hk hleI
   go_wp2_with fail
   go_loopw [6] (fun vb wr => ∃ (bs : Nat) (d' : Nat → Hr), 0 < bs ∧ bs ≤ 3000000 ∧ vb = .int .i64 bs ∧ Hid (Sq.Bl (leK ks) d' bs n) ∧ Hid (Sq.Bk d d' bs n) ∧ Hid (Sq.Sub d d' 0 n) ∧ Hid (Dat wr B g n d') ∧ Hid (Keeps [23] B w wr)) (fun vb _ => n - (intOf vb).toNat)
   case atStart => exact ⟨20, d5, by omega, by omega, rfl, Hb5.out, Hbk5.out, Hs5.out, Hd5.out, Hk5.out⟩
   case round =>
    clear Hb5 Hbk5 Hs5 Hd5 Hk5
    obtain ⟨bs, d1, hbs0, hbs, rfl, Hb, Hbb, Hs, Hd, Hk⟩ := hrel
    by_cases hlt : bs < n
    ·go_wp2_with fail
     go_loopw [7, 8] (fun va vb wr => ∃ (k A : Nat) (d' : Nat → Hr), A ≤ n ∧ va = .int .i64 A ∧ vb = .int .i64 ((A + 2 * bs : Nat) : Int) ∧ Hid (Sq.Prt (leK ks) d' d1 (2 * bs) k A) ∧ Hid (Sq.Bk d d' (2 * bs) n) ∧ Hid (Sq.Sub d d' 0 n) ∧ Hid (Dat wr B g n d') ∧ Hid (Keeps [23] B w wr)) (fun va _ _ => n - (intOf va).toNat)
     case atStart => exact ⟨0, 0, d1, by omega, rfl, by go_num, Sq.Prt.start _ _ _, Hbb.out.double, Hs.out, Hd.out, Hk.out⟩
     case round =>
      clear Hs Hd Hk
      obtain ⟨k, A, d', hA, rfl, rfl, Hp, Hbk, Hs, Hd, Hk⟩ := hrel
      have htw := Lib.hid (Hb.out.two Hp.out)
      have htx := Lib.hid (Hbb.out.two Hr.ix Hix.out Hp.out)
      by_cases hle : A + 2 * bs ≤ n
      ·have hleI : ((A + 2 * bs : Nat) : Int) ≤ (n : Int) := by omega
       have hins := Lib.hid (sym_c kb kn kc KA ks B g n c hn hnc hkn _ d' A (A + bs) (A + 2 * bs) wr (Nat.le_refl _) (by omega) (by omega) hle Hd.out (HK.out.keeps Hk.out) (htw.out.1.part (Nat.le_refl _) (by omega)) (htw.out.2.part (Nat.le_refl _) (by omega)) (fun i j i1 i2 j1 j2 => htx.out i j i1 i2 j1 j2 (by omega)))
       go_wp2_with fail
       refine hins.out.mono ?_
       rintro e w5 ⟨d5, rfl, hd5, hs5, ho5, hk5⟩
       have Hbk5 := Lib.hid (Hbk.out.step Hp.out.at_ (by omega) hle hs5)
       have Hp5 := Lib.hid (Hp.out.step hs5 ho5)
       have Hs5 := Lib.hid (Hs.out.trans (hs5.wide (Nat.zero_le _) hle))
       have Hd5 := Lib.hid hd5
       have Hk5 := Lib.hid (Hk.out.trans hk5)
       clear hd5 hs5 ho5 hk5 hins
       go_wp2_with fail
       go_roundw
       case rel => exact ⟨k + 1, A + 2 * bs, d5, hle, by go_num, by go_num, Hp5.out, Hbk5.out, Hs5.out, Hd5.out, Hk5.out⟩
       case measure => simp [intOf]; omega
      ·have hleI : ¬ ((A + 2 * bs : Nat) : Int) ≤ (n : Int) := by omega
       by_cases hm : A + bs < n
       ·have hins := Lib.hid (sym_c kb kn kc KA ks B g n c hn hnc hkn _ d' A (A + bs) n wr (Nat.le_refl _) (by omega) hm (Nat.le_refl _) Hd.out (HK.out.keeps Hk.out) (htw.out.1.part (Nat.le_refl _) (by omega)) (htw.out.2.part (Nat.le_refl _) (by omega)) (fun i j i1 i2 j1 j2 => htx.out i j i1 i2 j1 (by omega) j2))
        have hmI : (A : Int) + (bs : Int) < (n : Int) := by omega
        go_wp2_with fail
        refine hins.out.mono ?_
        rintro e w5 ⟨d5, rfl, hd5, hs5, ho5, hk5⟩
        have Hbk5 := Lib.hid (Hbk.out.step Hp.out.at_ (by omega) (Nat.le_refl _) hs5)
        have Hb5 := Lib.hid (Hp.out.fin hA (by omega) hs5 ho5)
        have Hs5 := Lib.hid (Hs.out.trans (hs5.wide (Nat.zero_le _) (Nat.le_refl _)))
        have Hd5 := Lib.hid hd5
        have Hk5 := Lib.hid (Hk.out.trans hk5)
        clear hd5 hs5 ho5 hk5 hins
        go_wp2_with fail
        go_roundw
        case rel => exact ⟨2 * bs, d5, by omega, by omega, by go_num, Hb5.out, Hbk5.out, Hs5.out, Hd5.out, Hk5.out⟩
        case measure => simp [intOf]; omega
       ·have hmI : ¬ (A : Int) + (bs : Int) < (n : Int) := by omega
        have Hb5 := Lib.hid (Hp.out.fin hA (by omega) (Sq.Sub.refl d' A n) (htw.out.1.part (Nat.le_refl _) (by omega)))
        go_wp2_with fail
        go_roundw
        case rel => exact ⟨2 * bs, d', by omega, by omega, by go_num, Hb5.out, Hbk.out, Hs.out, Hd.out, Hk.out⟩
        case measure => simp [intOf]; omega
    ·have hfin := Hb.out 0
     rw [Nat.zero_mul, Nat.zero_add] at hfin
     have Hfin := Lib.hid (hfin.part (lo' := 0) (hi' := n) (Nat.le_refl _) (by omega))
     clear hfin
     go_wp2_with fail
     go_end0
     first | exact ⟨d1, rfl, Hd.out, Hs.out, Hfin.out, Hk.out⟩ | exact ⟨rfl, d1, Hd.out, Hs.out, Hfin.out, Hk.out⟩
end Go.Proofs.YtcadjekcdokkjaaGreat
namespace Go.Proofs.YtcadjekcdokkjaaGreat
set_option linter.unusedVariables false
set_option linter.unusedSimpArgs false
open Go.RowKit
attribute [local go_sem ↓] Go.wp_at_zero Go.wp_at_succ
theorem qr_nil (w : World) (A : Option Addr) (n c n' c' : Nat) : (binOp .eql 23 (.slice A n c) (.slice none n' c')).run Tryz.prog w = .ok (.bool A.isNone) w := by
 have hu : Tryz.prog.underlying 23 = some (.slice 38) := by kernel_rfl
 exact Lib.run_eql_slice_nil w 23 38 A n c n' c' hu
set_option maxRecDepth 100000 in
theorem cloner_any (r : RowM) (n c : Nat) (A : Option Addr) (w : World) (hn : r.length = n) (hr : Rd w A (rcells r)) (hl : n ≤ 1000000) :
  Calls Tryz.prog 71 #[.slice A n c] w fun e w' => ∃ A' c', e = .returned (.slice A' n c') ∧ Own w' w.heap.size 38 3 A' n c' (rcells r) ∧ Below w.heap.size w w' := by
 have Hn := Lib.hid hn
 clear hn
 cases A with
 | none =>
  have h0 : rcells r = [] := by
   refine Classical.byContradiction fun hne => ?_
   obtain ⟨b, o, h, _⟩ := hr hne
   cases h
  have hl0 := rcells_len r
  rw [h0] at hl0
  obtain rfl : 0 = n := by have := Hn.out; simp only [List.length_nil] at hl0; omega
  have hr0 := Lib.hid h0
  have hq := fun w => qr_nil w none 0 c 0 0
  rw [Option.isNone_none] at hq
  clear h0 hl0
  go_enter Tryz.func71, Tryz.ntmps71
  go_wp2_with fail
  go_ret
  rw [hr0.out]
  exact ⟨none, 0, rfl, Own.nil _ _ _ _, Below.refl _ _⟩
 | some a =>
  have ho1 : Own (w.alloc (.cells #[] 38)) w.heap.size 38 3 (some ⟨w.heap.size, 0, none⟩) 0 0 [] := World.ownsRow_made w #[] 0 (Nat.le_refl _) (by unfold maxLen; omega) rfl
  have hbA : Below w.heap.size w (w.alloc (.cells #[] 38)) := (Below.refl _ _).alloc (Nat.le_refl _) _
  have hq := fun w => qr_nil w (some a) n c 0 0
  rw [Option.isNone_some] at hq
  go_enter Tryz.func71, Tryz.ntmps71
  go_wp2_with (first | (at_builtin; refine hold ?_) | (at_make; refine hold ?_))
  (with_reducible refine unhold ?_)
  refine wpList_apd rfl _ _ _ rfl Eval w.heap.size _ 0 _ [] rfl ho1 _ n _ (rcells r) rfl (by rw [rcells_len, Hn.out]) (hr.below hbA) (rcells_one r) n (Nat.zero_add _) (rcells r) rfl (by omega) (by omega) hbA.size ?_
  intro A2 c2 w2 ho2 hg2 _
  have hb2 := hbA.grown hg2 hbA.size ho1.row_ge
  go_wp2_with fail
  go_ret
  exact ⟨_, _, rfl, ho2, hb2⟩
theorem Dat.put {w : World} {B g n : Nat} {d : Nat → Hr} (h : Dat w B g n d) {i : Nat} {A : Option Addr} {c : Nat} {r : RowM} (ho : Own w B 38 3 A r.length c (rcells r)) (hok : ∀ v ∈ r, v.ok) : Dat (w.setCell ⟨g, i, none⟩ (.slice A r.length c)) B g n (fun p => if p = i then ⟨.slice A r.length c, r, i⟩ else d p) := by
 have hk := h.keep1 i (.slice A r.length c)
 have hb := h.blk.set_ i (.slice A r.length c)
 rw [tab_set] at hb
 refine ⟨h.lo, ?_, fun p hp => ?_⟩
 ·have e : (tab n fun p => if p = i then Value.slice A r.length c else (d p).1) = tab n fun p => (if p = i then (⟨Value.slice A r.length c, r, i⟩ : Hr) else d p).1 := tab_ext fun p _ => by split <;> rfl
  rw [e] at hb
  exact hb
 ·by_cases e : p = i
  ·simp only [e, if_true]
   exact ⟨A, c, rfl, Own.keeps ho (by decide) hk, hok⟩
  ·simp only [e, if_false]
   obtain ⟨A', c', h1, h2, h3⟩ := h.row p hp
   exact ⟨A', c', h1, Own.keeps h2 (by decide) hk, h3⟩
set_option maxHeartbeats 4000000 in
set_option maxRecDepth 100000 in
theorem own_c (rs : List RowM) (hs : List Value) (n c : Nat) (A : Option Addr) (w : World) (hn : rs.length = n) (hA : Rd w A hs) (hR : Rows w hs rs) (hn1 : n ≤ 1000000) (hl : ∀ r ∈ rs, r.length ≤ 1000000) :
  Calls Tryz.prog 53 #[.slice A n c] w fun e w' => ∃ g d, e = .returned (.slice (some ⟨g, 0, none⟩) n n) ∧ Dat w' w.heap.size g n d ∧ (∀ p, p < n → rs[p]? = some (d p).2 ∧ (d p).ix = p) ∧ Below w.heap.size w w' := by
 have Hn := Lib.hid hn
 have HA := Lib.hid hA
 have HR := Lib.hid hR
 have Hl := Lib.hid hl
 clear hn hA hR hl
 go_enter Tryz.func53, Tryz.ntmps53
 go_wp2_with (first | (at_builtin; refine hold ?_) | (at_make; refine hold ?_))
 (with_reducible refine unhold ?_)
 refine wpList_mkn rfl _ _ _ rfl Erow w.heap.size _ _ _ _ n rfl rfl rfl rfl (by omega) (by unfold maxLen; omega) (Nat.le_refl _) ?_
 intro w1 ho1 hb1 hlt1
 rw [Nat.mul_one] at ho1
 have hk := ho1.blk.1
 rw [show (Value.cells (.slice none 0 0)) = #[.slice none 0 0] from rfl, toList_madeCells_one] at hk
 have ht : List.replicate n (Value.slice none 0 0) = tab n fun _ => (⟨.slice none 0 0, [], 0⟩ : Hr).1 := by
  apply List.ext_getElem?
  intro j
  by_cases hj : j < n
  ·rw [tab_get hj, List.getElem?_replicate, if_pos hj]
  ·rw [List.getElem?_eq_none (by rw [List.length_replicate]; omega), List.getElem?_eq_none (by rw [tab_len]; omega)]
 rw [ht] at hk
 have hd1 : Dat w1 w.heap.size w.heap.size n fun _ => ⟨.slice none 0 0, [], 0⟩ := ⟨Nat.le_refl _, hk, fun p _ => ⟨none, 0, rfl, Own.nil _ _ _ _, fun v h => by cases h⟩⟩
 have Hd1 := Lib.hid hd1
 have Hb1 := Lib.hid hb1
 clear ho1 hk hd1 hb1 ht
 go_wp2_with fail
 go_loopw [11] (fun vi wr => ∃ (i : Nat) (d : Nat → Hr), i ≤ n ∧ vi = .int .i64 i ∧ Hid (Dat wr w.heap.size w.heap.size n d) ∧ Hid (∀ p, p < i → rs[p]? = some (d p).2 ∧ (d p).ix = p) ∧ Hid (∀ p, i ≤ p → d p = ⟨.slice none 0 0, [], 0⟩) ∧ Hid (Below w.heap.size w wr)) (fun i _ => n - (intOf i).toNat)
 case atStart => exact ⟨0, _, by omega, rfl, Hd1.out, fun p h => by omega, fun _ _ => rfl, Hb1.out⟩
 case round =>
  clear Hd1 Hb1
  obtain ⟨i, d, hi, rfl, Hd, Hp, He, Hb⟩ := hrel
  have hzr := Hb.out.size
  by_cases hlt : i < n
  ·have hil : i < rs.length := by rw [Hn.out]; exact hlt
   obtain ⟨E, ec, h1, h2, h3, h4, h5⟩ := HR.out.at_ i rs[i] (List.getElem?_eq_getElem hil)
   obtain ⟨b, o, E', d', rfl, ca, _, _, hrx⟩ := head_cell (HA.out.below Hb.out) (HR.out.below Hb.out) hil
   have hrl := Hl.out _ (List.getElem_mem hil)
   have hgi := Lib.hid (List.getElem?_eq_getElem hil)
   have hc := Lib.hid (cloner_any rs[i] _ d' E' wr rfl hrx hrl)
   have Hok := Lib.hid h5
   generalize rs[i] = r at *
   have hput := Lib.hid (fun (w' : World) (hd : Dat w' w.heap.size w.heap.size n d) (A : Option Addr) (c : Nat) (ho : Own w' w.heap.size 38 3 A r.length c (rcells r)) => hd.put (i := i) ho Hok.out)
   generalize hln : r.length = rl at *
   have Hln := Lib.hid hln
   clear hln h1 h2 h3 h4 h5 hrx
   go_wp2_with fail
   refine hc.out.mono ?_
   rintro e w3 ⟨A3, c3, rfl, ho3, hb3⟩
   have hd3 := Hd.out.below hb3
   have kc := hd3.cell hlt
   have kf := hd3.blk.frozen i
   rw [He.out i (Nat.le_refl _)] at kc
   have hput3 := Lib.hid (hput.out w3 hd3 A3 c3 (Own.lower ho3 hzr))
   have Hb3 := Lib.hid (Hb.out.trans (hb3.mono hzr))
   clear hd3 ho3 hb3 hc hput
   go_wp2_with fail
   go_roundw
   case rel =>
    refine ⟨i + 1, _, by omega, by go_num, hput3.out, fun p hp => ?_, fun p hp => ?_, Hb3.out.setCell (Nat.le_refl _) _⟩
    ·by_cases e : p = i
     ·simp only [e, if_true]; exact ⟨hgi.out, by first | trivial | rfl⟩
     ·simp only [e, if_false]; exact Hp.out p (by omega)
    ·have : ¬ p = i := by omega
     simp only [this, if_false]
     exact He.out p (by omega)
   case measure => simp [intOf]; omega
  ·obtain rfl : i = n := by omega
   go_wp2_with fail
   go_ret
   exact ⟨_, d, rfl, Hd.out, Hp.out, Hb.out⟩
theorem Dat.lower {w : World} {B B' g n : Nat} {d : Nat → Hr} (h : Dat w B g n d) (hB : B' ≤ B) : Dat w B' g n d := ⟨Nat.le_trans hB h.lo, h.blk, fun p hp => by
 obtain ⟨A, c, h1, h2, h3⟩ := h.row p hp
 exact ⟨A, c, h1, Own.lower h2 hB, h3⟩⟩
theorem Dat.rows {w : World} {B g n : Nat} {d : Nat → Hr} (h : Dat w B g n d) : Rd w (some ⟨g, 0, none⟩) (tab n fun p => (d p).1) ∧ Rows w (tab n fun p => (d p).1) ((List.range n).map fun p => (d p).2) := by
 refine ⟨Rd.of_blk h.blk, ⟨by rw [tab_len, List.length_map, List.length_range], fun i r hi => ?_⟩⟩
 have hin : i < n := by
  have := (List.getElem?_eq_some_iff.1 hi).1
  rw [List.length_map, List.length_range] at this
  exact this
 rw [List.getElem?_map, List.getElem?_range hin] at hi
 injection hi with hi
 subst hi
 obtain ⟨A, c, h1, h2, h3⟩ := h.row i hin
 have hc := h2.cap
 exact ⟨A, c, by rw [tab_get hin, h1], hc.1, hc.2, h2.rd, h3⟩
set_option maxRecDepth 100000 in
theorem sortstable_c (kb kn kc : Nat) (KA : Option Addr) (ks : List Ky) (B g n c : Nat) (d : Nat → Hr) (w : World) (h : Dat w B g n d) (hK : KeyAt w B kb kn kc KA ks) (hkn : kn ≤ 1000000) (hn : n ≤ 1000000) (hnc : n ≤ c) (hix : ∀ i j, i < j → j < n → (d i).ix < (d j).ix) :
  Calls Tryz.prog 54 #[.slice (some ⟨g, 0, none⟩) n c, .func (Fn.func 55) #[] #[.pointer (some ⟨kb, 0, none⟩)]] w fun e w' => ∃ d', e = .returned (.tuple #[]) ∧ Dat w' B g n d' ∧ Sq.Sub d d' 0 n ∧ Sq.Srt (leK ks) d' 0 n ∧ Keeps [23] B w w' := by
 have hs := Lib.hid (stable_c kb kn kc KA ks B g n c d w h hK hkn hn hnc hix)
 clear h hK
 go_enter Tryz.func54, Tryz.ntmps54
 go_wp2_with fail
 refine hs.out.mono ?_
 rintro e w5 ⟨d5, rfl, hd5, hs5, ho5, hk5⟩
 go_wp2_with fail
 go_end0
 first | exact ⟨d5, rfl, hd5, hs5, ho5, hk5⟩ | exact ⟨rfl, d5, hd5, hs5, ho5, hk5⟩
set_option maxHeartbeats 4000000 in
set_option maxRecDepth 100000 in
theorem sort_k (rs : List RowM) (hs : List Value) (n c : Nat) (A : Option Addr) (KA : Option Addr) (kn kc : Nat) (ks : List Ky) (w : World) (hn : rs.length = n) (hA : Rd w A hs) (hR : Rows w hs rs) (hn1 : n ≤ 1000000) (hl : ∀ r ∈ rs, r.length ≤ 1000000) (hks : ks.length = kn) (hK : Rd w KA (kyc ks)) (hkn : kn ≤ 1000000) :
  Calls Tryz.prog 33 #[.slice A n c, .slice KA kn kc] w fun e w' => ∃ g d, e = .returned (.slice (some ⟨g, 0, none⟩) n n) ∧ Dat w' w.heap.size g n d ∧ ((List.range n).map fun p => (d p).2) = sortR ks rs ∧ Below w.heap.size w w' := by
 have hb1 : Below w.heap.size w (w.alloc (.cells #[.slice KA kn kc] 41)) := (Below.refl _ _).alloc (Nat.le_refl _) _
 have hk1 : KeyAt (w.alloc (.cells #[.slice KA kn kc] 41)) (w.alloc (.cells #[.slice KA kn kc] 41)).heap.size w.heap.size kn kc KA ks := ⟨hks, Blk.new w _ _, Rs.of_old (hK.below hb1)⟩
 have how := Lib.hid (own_c rs hs n c A (w.alloc (.cells #[.slice KA kn kc] 41)) hn (hA.below hb1) (hR.below hb1) hn1 hl)
 have Hn := Lib.hid hn
 have Hk1 := Lib.hid hk1
 have Hb1 := Lib.hid hb1
 clear hn hA hR hl hK hk1 hb1 hks
 go_enter Tryz.func33, Tryz.ntmps33
 go_wp2_with fail
 refine how.out.mono ?_
 rintro e w2 ⟨g, d, rfl, hd2, hp2, hb2⟩
 have hz1 := Hb1.out.size
 have hz2 := hb2.size
 have Hb2 := Lib.hid (Hb1.out.trans (hb2.mono hz1))
 have hinc : ∀ i j, i < j → j < n → (d i).ix < (d j).ix := fun i j h1 h2 => by rw [(hp2 i (by omega)).2, (hp2 j h2).2]; exact h1
 have hst := Lib.hid (sortstable_c w.heap.size kn kc KA ks _ g n n d w2 hd2 (Hk1.out.below hb2) hkn hn1 (Nat.le_refl _) hinc)
 have hrs : ((List.range n).map fun p => (d p).2) = rs := by
  apply List.ext_getElem?
  intro j
  by_cases hj : j < n
  ·rw [List.getElem?_map, List.getElem?_range hj]
   exact (hp2 j hj).1.symm
  ·rw [List.getElem?_eq_none (by rw [List.length_map, List.length_range]; omega), List.getElem?_eq_none (by rw [Hn.out]; omega)]
 have Hrs := Lib.hid hrs
 have Hinc := Lib.hid hinc
 clear hd2 hp2 hb2 how Hk1 hrs hinc
 go_wp2_with fail
 refine hst.out.mono ?_
 rintro e w3 ⟨d3, rfl, hd3, hs3, ho3, hk3⟩
 have Hd3 := Lib.hid (hd3.lower hz1)
 have Hb3 := Lib.hid (Hb2.out.trans ((hk3.below hz2).mono hz1))
 have Hm3 : Hid (((List.range n).map fun p => (d3 p).2) = sortR ks rs) := by
  show _ = _
  have h1 := Sq.place_sort (leH_ord ks) Hr.ix hs3 ho3 Hinc.out
  have h2 := congrArg (List.map Hr.row) h1
  rw [Sq.sort_map (le' := leRow ks) (fun _ _ => rfl), List.map_map, List.map_map] at h2
  have h3 : (List.range n).map (Hr.row ∘ d) = rs := Hrs.out
  rw [h3] at h2
  exact h2
 clear hd3 hs3 ho3 hk3 hst
 go_wp2_with fail
 go_ret
 exact ⟨g, d3, rfl, Hd3.out, Hm3.out, Hb3.out⟩
end Go.Proofs.YtcadjekcdokkjaaGreat
