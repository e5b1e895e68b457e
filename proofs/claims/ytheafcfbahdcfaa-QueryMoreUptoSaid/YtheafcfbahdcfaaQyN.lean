/- The walk of query.named: whether a text is a table's name. -/
import Derived.Test.YtheafcfbahdcfaaQyF
import Derived.Test.YtheafcfbahdcfaaAkL
namespace Go.Proofs.Ytheafcfbahdcfaa
open Go.RowKit

attribute [local go_sem ↓] Go.wp_at_zero Go.wp_at_succ

def nameR (r : Nat) : Bool := decide (97 ≤ r ∧ r ≤ 122) || decide (48 ≤ r ∧ r ≤ 57) || decide (r = 95)
theorem dec_name {l : List UInt8} (h : l ≠ []) : nameR (dec l).1 = nameB (l.getD 0 0) ∧ (nameR (dec l).1 = true → (dec l).2 = 1) := by
  obtain ⟨b, t, rfl⟩ := List.exists_cons_of_ne_nil h
  have hb : b.toNat < 256 := b.toNat_lt
  have e : dec (b :: t) = Lib.decodeN (b :: t).length b.toNat ((b :: t).getD 1 0).toNat ((b :: t).getD 2 0).toNat ((b :: t).getD 3 0).toNat := rfl
  by_cases h1 : b.toNat < 128
  · have e2 : dec (b :: t) = (b.toNat, 1) := by rw [e]; unfold Lib.decodeN; rw [if_pos h1]
    rw [e2]
    exact ⟨rfl, fun _ => rfl⟩
  · have hr : 128 ≤ (dec (b :: t)).1 := by
      rw [e]
      unfold Lib.decodeN
      rw [if_neg h1]
      repeat' split
      all_goals simp only
      all_goals omega
    have f1 : nameR (dec (b :: t)).1 = false := by
      unfold nameR
      rw [decide_eq_false (by omega), decide_eq_false (by omega), decide_eq_false (by omega)]
      rfl
    have f2 : nameB b = false := by
      unfold nameB
      rw [decide_eq_false (by omega), decide_eq_false (by omega), decide_eq_false (by omega)]
      rfl
    rw [f1]
    exact ⟨f2.symm, fun h => by cases h⟩
theorem names_step {s : List UInt8} {p : Nat} (hp : p < s.length) : (s.take (p + 1)).all nameB = ((s.take p).all nameB && nameB ((s.drop p).getD 0 0)) := by
  rw [List.take_succ_eq_append_getElem hp, List.all_append]
  simp [List.getD, List.getElem?_drop, hp]

set_option maxHeartbeats 4000000 in
set_option maxRecDepth 100000 in
theorem named_any (s : List UInt8) (w : World) (hs : s.length ≤ 1000000) :
    Calls Try.prog 13 #[.string (St8 s)] w fun e w' => e = .returned (.bool (nameOk s)) ∧ Below w.heap.size w w' := by
  have hz := St8_size s
  have Hz := Lib.hid hz
  obtain ⟨R, hRR⟩ : ∃ R, R = nameOk s := ⟨_, rfl⟩
  rw [← hRR]
  have HRR := Lib.hid hRR
  clear hz hRR
  have Hb0 := Lib.hid ((Below.refl w.heap.size w).alloc (Nat.le_refl _) (.stringIter (St8 s) 0))
  have Hit0 := Lib.hid (World.iter_heap w (St8 s) 0)
  go_enter Try.func13, Try.ntmps13
  go_wp2_with fail
  go_loopw [4] (fun _ wr => ∃ p : Nat, p ≤ s.length ∧ Hid ((s.take p).all nameB = true) ∧ Hid (wr.heap[w.heap.size]? = some (.stringIter (St8 s) p)) ∧ Hid (Below w.heap.size w wr)) (fun _ wr => s.length - wr.iterPos w.heap.size)
  case atStart => exact ⟨0, by omega, rfl, Hit0, Hb0⟩
  case round =>
    clear Hb0 Hit0
    obtain ⟨p, hps, Hall, Hit, Hb⟩ := hrel
    by_cases hp : p < s.length
    · have hnx := fun ty => Lib.run_next_any_at (P := Try.prog) wr w.heap.size (St8 s) p ty Hit.out (by rw [Hz.out]; exact hp)
      rw [dec_at] at hnx
      have hne : s.drop p ≠ [] := by
        intro e
        rw [List.drop_eq_nil_iff] at e
        omega
      have hdb := dec_bounds _ hne
      have hdr := dec_rune (s.drop p)
      obtain ⟨hn1, hn2⟩ := dec_name hne
      rw [List.length_drop] at hdb
      have hst := names_step hp
      rw [Hall.out, Bool.true_and, ← hn1] at hst
      have hbad : nameR (dec (s.drop p)).1 = false → R = false := by
        intro h
        rw [hn1] at h
        rw [HRR.out]
        unfold nameOk
        have : s.all nameB = false := by
          rw [List.all_eq_false]
          refine ⟨s[p], List.getElem_mem hp, ?_⟩
          rw [show (s.drop p).getD 0 0 = s[p] from by simp [List.getD, List.getElem?_drop, hp]] at h
          rw [h]; decide
        rw [this]; rfl
      clear hn1
      generalize dec (s.drop p) = D at *
      obtain ⟨dr, dw⟩ := D
      dsimp only at hnx hdb hdr hn2 hst hbad
      have hit2 := Lib.iterAt_heap wr w.heap.size (St8 s) p (p + dw) Hit.out
      have hb2 := Lib.below_iterAt Hb.out (Nat.le_refl _) (St8 s) (p + dw)
      have hpos := iterPos_at Hit.out
      have hpos2 := iterPos_at hit2
      clear hne
      generalize wr.iterAt w.heap.size (St8 s) (p + dw) = wi at *
      have Hit2 := Lib.hid hit2
      have Hb2 := Lib.hid hb2
      clear hb2 hit2 Hb Hit
      have hg : Hid (nameR dr = true → dw = 1 ∧ (s.take (p + 1)).all nameB = true) := fun h => ⟨hn2 h, by rw [hst]; exact h⟩
      have Hbad := Lib.hid hbad
      clear hn2 hst hbad
      by_cases a1 : (dr : Int) < 97
      · by_cases a3 : (dr : Int) < 48
        · have a5 : ¬ (dr : Int) = 95 := by omega
          have hn : nameR dr = false := by unfold nameR; simp; omega
          have HR := Lib.hid (Hbad.out hn)
          clear hn hg Hbad
          go_wp2_with fail
          go_ret
          exact ⟨by rw [HR.out]; rfl, Hb2.out⟩
        · by_cases a4 : 57 < (dr : Int)
          · by_cases a5 : (dr : Int) = 95
            · obtain rfl : dr = 95 := by omega
              have hn : nameR 95 = true := rfl
              obtain ⟨rfl, hall2⟩ := hg.out hn
              have Hall2 := Lib.hid hall2
              clear hn hall2 hg Hbad
              go_wp2_with fail
              go_roundw
              case rel => exact ⟨p + 1, by omega, Hall2, Hit2, Hb2⟩
              case measure => rw [hpos, hpos2]; omega
            · skip
              have hn : nameR dr = false := by unfold nameR; simp; omega
              have HR := Lib.hid (Hbad.out hn)
              clear hn hg Hbad
              go_wp2_with fail
              go_ret
              exact ⟨by rw [HR.out]; rfl, Hb2.out⟩
          · skip
            have hn : nameR dr = true := by unfold nameR; simp; omega
            obtain ⟨rfl, hall2⟩ := hg.out hn
            have Hall2 := Lib.hid hall2
            clear hn hall2 hg Hbad
            go_wp2_with fail
            go_roundw
            case rel => exact ⟨p + 1, by omega, Hall2, Hit2, Hb2⟩
            case measure => rw [hpos, hpos2]; omega
      · by_cases a2 : 122 < (dr : Int)
        · have a3 : ¬ (dr : Int) < 48 := by omega
          have a4 : 57 < (dr : Int) := by omega
          have a5 : ¬ (dr : Int) = 95 := by omega
          have hn : nameR dr = false := by unfold nameR; simp; omega
          have HR := Lib.hid (Hbad.out hn)
          clear hn hg Hbad
          go_wp2_with fail
          go_ret
          exact ⟨by rw [HR.out]; rfl, Hb2.out⟩
        · skip
          have hn : nameR dr = true := by unfold nameR; simp; omega
          obtain ⟨rfl, hall2⟩ := hg.out hn
          have Hall2 := Lib.hid hall2
          clear hn hall2 hg Hbad
          go_wp2_with fail
          go_roundw
          case rel => exact ⟨p + 1, by omega, Hall2, Hit2, Hb2⟩
          case measure => rw [hpos, hpos2]; omega
    · have hnx := fun ty => Lib.run_next_end_at (P := Try.prog) wr w.heap.size (St8 s) p ty Hit.out (by rw [Hz.out]; exact hp)
      obtain rfl : p = s.length := by omega
      have hzI := Hz.out
      have hall := Hall.out
      rw [List.take_length] at hall
      have hr : R = decide (1 ≤ s.length ∧ s.length ≤ 20) := by
        rw [HRR.out]; unfold nameOk; rw [hall, Bool.true_and]
      have HR := Lib.hid hr
      clear hall hr HRR Hall
      by_cases c1 : 1 ≤ (s.length : Int)
      · by_cases c2 : (s.length : Int) ≤ 20
        · go_wp2_with fail
          go_ret
          exact ⟨by rw [HR.out, decide_eq_true (by omega)]; rfl, Hb.out⟩
        · go_wp2_with fail
          go_ret
          exact ⟨by rw [HR.out, decide_eq_false (by omega)]; rfl, Hb.out⟩
      · go_wp2_with fail
        go_ret
        exact ⟨by rw [HR.out, decide_eq_false (by omega)]; rfl, Hb.out⟩
end Go.Proofs.Ytheafcfbahdcfaa
