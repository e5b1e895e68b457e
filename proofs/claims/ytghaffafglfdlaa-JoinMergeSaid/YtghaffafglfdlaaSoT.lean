/- Walks: a stable sort in place: block by block. -/
import Derived.Test.YtghaffafglfdlaaSoV
namespace Go.Proofs.Ytghaffafglfdlaa
open Go.RowKit

attribute [local go_sem ↓] Go.wp_at_zero Go.wp_at_succ

namespace So
variable {α : Type} {le : α → α → Prop} {d d0 d' : Nat → α} {bs k A n : Nat}
/-- Block by block in order. -/
def Bl (le : α → α → Prop) (d : Nat → α) (bs n : Nat) : Prop := ∀ q, Srt le d (q * bs) (min (q * bs + bs) n)
/-- The first k blocks are in order, and from there on all is as it was. -/
structure Prt (le : α → α → Prop) (d d0 : Nat → α) (bs k A : Nat) : Prop where
  at_ : A = k * bs
  srt : ∀ q, q < k → Srt le d (q * bs) (q * bs + bs)
  out : ∀ i, A ≤ i → d i = d0 i
theorem Prt.start (le : α → α → Prop) (d : Nat → α) (bs : Nat) : Prt le d d bs 0 0 := ⟨by rw [Nat.zero_mul], fun q h => by omega, fun _ _ => rfl⟩
theorem Prt.old (h : Prt le d d0 bs k A) (hs : Sub d d' A n) {q : Nat} (hq : q < k) : Srt le d' (q * bs) (q * bs + bs) := by
  have h1 : (q + 1) * bs ≤ k * bs := Nat.mul_le_mul_right bs hq
  rw [Nat.succ_mul] at h1
  have h2 := h.at_
  exact (h.srt q hq).of_eq fun i _ hi => hs.out i (.inl (by omega))
theorem Prt.step (h : Prt le d d0 bs k A) (hs : Sub d d' A (A + bs)) (ho : Srt le d' A (A + bs)) : Prt le d' d0 bs (k + 1) (A + bs) := by
  have h2 := h.at_
  refine ⟨by rw [Nat.succ_mul, h2], fun q hq => ?_, fun i hi => by rw [hs.out i (.inr hi)]; exact h.out i (by omega)⟩
  by_cases e : q = k
  · rw [e, ← h2]; exact ho
  · exact h.old hs (by omega)
theorem Prt.fin (h : Prt le d d0 bs k A) (hA : A ≤ n) (hn : n < A + bs) (hs : Sub d d' A n) (ho : Srt le d' A n) : Bl le d' bs n := fun q => by
  have h2 := h.at_
  by_cases e : q < k
  · exact (h.old hs e).part (Nat.le_refl _) (by omega)
  · by_cases e2 : q = k
    · rw [e2, ← h2]; exact ho.part (Nat.le_refl _) (by omega)
    · have h1 : (k + 1) * bs ≤ q * bs := Nat.mul_le_mul_right bs (by omega)
      rw [Nat.succ_mul] at h1
      exact fun i j a b c => by omega
theorem Bl.two (h : Bl le d0 bs n) (hp : Prt le d d0 (2 * bs) k A) : Srt le d A (min (A + bs) n) ∧ Srt le d (A + bs) (min (A + 2 * bs) n) := by
  have h2 := hp.at_
  have e1 : (2 * k) * bs = A := by rw [h2, Nat.mul_comm 2 k, Nat.mul_assoc]
  have e2 : (2 * k + 1) * bs = A + bs := by rw [Nat.succ_mul, e1]
  have x1 := h (2 * k)
  have x2 := h (2 * k + 1)
  rw [e1] at x1
  rw [e2] at x2
  exact ⟨x1.of_eq fun i hi _ => hp.out i hi, (x2.part (Nat.le_refl _) (by omega)).of_eq fun i hi _ => hp.out i (by omega)⟩
end So

set_option maxHeartbeats 8000000 in
set_option maxRecDepth 100000 in
theorem stable_c (kb g2 kc : Nat) (col : Int) (B g n c : Nat) (d : Nat → Hr) (w : World) (h : Dat w B g n d) (hK : KeyAt w kb g2 kc col) (hn : n ≤ 1000000) (hnc : n ≤ c) :
    Calls Try.prog 56 #[.slice (some ⟨g, 0, none⟩) n c, .int .i64 n, .func (Fn.func 43) #[] #[.pointer (some ⟨kb, 0, none⟩)]] w fun e w' => ∃ d', e = .returned (.tuple #[]) ∧ Dat w' B g n d' ∧ So.Sub d d' 0 n ∧ So.Srt (leR col) d' 0 n ∧ Keeps [28] B w w' := by
  have H := Lib.hid h
  have HK := Lib.hid hK
  clear h hK
  go_enter Try.func56, Try.ntmps56
  go_wp2_with fail
  go_loopw [7, 8] (fun va vb wr => ∃ (k A : Nat) (d' : Nat → Hr), A ≤ n ∧ va = .int .i64 A ∧ vb = .int .i64 ((A + 20 : Nat) : Int) ∧ Hid (So.Prt (leR col) d' d 20 k A) ∧ Hid (So.Sub d d' 0 n) ∧ Hid (Dat wr B g n d') ∧ Hid (Keeps [28] B w wr)) (fun va _ _ => n - (intOf va).toNat)
  case atStart => exact ⟨0, 0, d, by omega, rfl, rfl, So.Prt.start _ _ _, So.Sub.refl _ _ _, H.out, Keeps.refl _ _ _⟩
  case round =>
    obtain ⟨k, A, d', hA, rfl, rfl, Hp, Hs, Hd, Hk⟩ := hrel
    by_cases hle : A + 20 ≤ n
    · have hleI : ((A + 20 : Nat) : Int) ≤ (n : Int) := by omega
      have hins := Lib.hid (insert_c kb g2 kc col B g n c d' A (A + 20) wr Hd.out (HK.out.keeps Hk.out) hn hnc (by omega) hle)
      go_wp2_with fail
      refine hins.out.mono ?_
      rintro e w5 ⟨d5, rfl, hd5, hs5, ho5, hk5⟩
      have Hp5 := Lib.hid (Hp.out.step hs5 ho5)
      have Hs5 := Lib.hid (Hs.out.trans (hs5.wide (Nat.zero_le _) hle))
      have Hd5 := Lib.hid hd5
      have Hk5 := Lib.hid (Hk.out.trans hk5)
      clear hd5 hs5 ho5 hk5 hins
      go_wp2_with fail
      go_roundw
      case rel => exact ⟨k + 1, A + 20, d5, hle, by go_num, by go_num, Hp5.out, Hs5.out, Hd5.out, Hk5.out⟩
      case measure => simp [intOf]; omega
    · have hleI : ¬ ((A + 20 : Nat) : Int) ≤ (n : Int) := by omega
      have hins := Lib.hid (insert_c kb g2 kc col B g n c d' A n wr Hd.out (HK.out.keeps Hk.out) hn hnc hA (Nat.le_refl _))
      go_wp2_with fail
      refine hins.out.mono ?_
      rintro e w5 ⟨d5, rfl, hd5, hs5, ho5, hk5⟩
      have Hb5 := Lib.hid (Hp.out.fin hA (by omega) hs5 ho5)
      have Hs5 := Lib.hid (Hs.out.trans (hs5.wide (Nat.zero_le _) (Nat.le_refl _)))
      have Hd5 := Lib.hid hd5
      have Hk5 := Lib.hid (Hk.out.trans hk5)
      clear hd5 hs5 ho5 hk5 hins Hp Hs Hd Hk hleI
      go_wp2_with fail
      go_loopw [6] (fun vb wr => ∃ (bs : Nat) (d' : Nat → Hr), 0 < bs ∧ bs ≤ 3000000 ∧ vb = .int .i64 bs ∧ Hid (So.Bl (leR col) d' bs n) ∧ Hid (So.Sub d d' 0 n) ∧ Hid (Dat wr B g n d') ∧ Hid (Keeps [28] B w wr)) (fun vb _ => n - (intOf vb).toNat)
      case atStart => exact ⟨20, d5, by omega, by omega, rfl, Hb5.out, Hs5.out, Hd5.out, Hk5.out⟩
      case round =>
        clear Hb5 Hs5 Hd5 Hk5
        obtain ⟨bs, d1, hbs0, hbs, rfl, Hb, Hs, Hd, Hk⟩ := hrel
        by_cases hlt : bs < n
        · go_wp2_with fail
          go_loopw [7, 8] (fun va vb wr => ∃ (k A : Nat) (d' : Nat → Hr), A ≤ n ∧ va = .int .i64 A ∧ vb = .int .i64 ((A + 2 * bs : Nat) : Int) ∧ Hid (So.Prt (leR col) d' d1 (2 * bs) k A) ∧ Hid (So.Sub d d' 0 n) ∧ Hid (Dat wr B g n d') ∧ Hid (Keeps [28] B w wr)) (fun va _ _ => n - (intOf va).toNat)
          case atStart => exact ⟨0, 0, d1, by omega, rfl, by go_num, So.Prt.start _ _ _, Hs.out, Hd.out, Hk.out⟩
          case round =>
            clear Hs Hd Hk
            obtain ⟨k, A, d', hA, rfl, rfl, Hp, Hs, Hd, Hk⟩ := hrel
            have htw := Lib.hid (Hb.out.two Hp.out)
            by_cases hle : A + 2 * bs ≤ n
            · have hleI : ((A + 2 * bs : Nat) : Int) ≤ (n : Int) := by omega
              have hins := Lib.hid (sym_c kb g2 kc col B g n c hn hnc _ d' A (A + bs) (A + 2 * bs) wr (Nat.le_refl _) (by omega) (by omega) hle Hd.out (HK.out.keeps Hk.out) (htw.out.1.part (Nat.le_refl _) (by omega)) (htw.out.2.part (Nat.le_refl _) (by omega)))
              go_wp2_with fail
              refine hins.out.mono ?_
              rintro e w5 ⟨d5, rfl, hd5, hs5, ho5, hk5⟩
              have Hp5 := Lib.hid (Hp.out.step hs5 ho5)
              have Hs5 := Lib.hid (Hs.out.trans (hs5.wide (Nat.zero_le _) hle))
              have Hd5 := Lib.hid hd5
              have Hk5 := Lib.hid (Hk.out.trans hk5)
              clear hd5 hs5 ho5 hk5 hins
              go_wp2_with fail
              go_roundw
              case rel => exact ⟨k + 1, A + 2 * bs, d5, hle, by go_num, by go_num, Hp5.out, Hs5.out, Hd5.out, Hk5.out⟩
              case measure => simp [intOf]; omega
            · have hleI : ¬ ((A + 2 * bs : Nat) : Int) ≤ (n : Int) := by omega
              by_cases hm : A + bs < n
              · have hins := Lib.hid (sym_c kb g2 kc col B g n c hn hnc _ d' A (A + bs) n wr (Nat.le_refl _) (by omega) hm (Nat.le_refl _) Hd.out (HK.out.keeps Hk.out) (htw.out.1.part (Nat.le_refl _) (by omega)) (htw.out.2.part (Nat.le_refl _) (by omega)))
                have hmI : (A : Int) + (bs : Int) < (n : Int) := by omega
                go_wp2_with fail
                refine hins.out.mono ?_
                rintro e w5 ⟨d5, rfl, hd5, hs5, ho5, hk5⟩
                have Hb5 := Lib.hid (Hp.out.fin hA (by omega) hs5 ho5)
                have Hs5 := Lib.hid (Hs.out.trans (hs5.wide (Nat.zero_le _) (Nat.le_refl _)))
                have Hd5 := Lib.hid hd5
                have Hk5 := Lib.hid (Hk.out.trans hk5)
                clear hd5 hs5 ho5 hk5 hins
                go_wp2_with fail
                go_roundw
                case rel => exact ⟨2 * bs, d5, by omega, by omega, by go_num, Hb5.out, Hs5.out, Hd5.out, Hk5.out⟩
                case measure => simp [intOf]; omega
              · have hmI : ¬ (A : Int) + (bs : Int) < (n : Int) := by omega
                have Hb5 := Lib.hid (Hp.out.fin hA (by omega) (So.Sub.refl d' A n) (htw.out.1.part (Nat.le_refl _) (by omega)))
                go_wp2_with fail
                go_roundw
                case rel => exact ⟨2 * bs, d', by omega, by omega, by go_num, Hb5.out, Hs.out, Hd.out, Hk.out⟩
                case measure => simp [intOf]; omega
        · have hfin := Hb.out 0
          rw [Nat.zero_mul, Nat.zero_add] at hfin
          have Hfin := Lib.hid (hfin.part (lo' := 0) (hi' := n) (Nat.le_refl _) (by omega))
          clear hfin
          go_wp2_with fail
          go_end0
          first | exact ⟨d1, rfl, Hd.out, Hs.out, Hfin.out, Hk.out⟩ | exact ⟨rfl, d1, Hd.out, Hs.out, Hfin.out, Hk.out⟩
end Go.Proofs.Ytghaffafglfdlaa
