/- Walks: what runs are, and the numbers that their bytes tell: the program's. (Printed by gen_tkr.py.) Walks: the numbers that runs' bytes tell: the program's. (Printed by gen_tks.py.) -/
import Derived.Test.YtojppmnmhdgnnaaGreatMTkMN
import Derived.Test.YtojppmnmhdgnnaaGreatMCuNT
import Derived.Test.YtojppmnmhdgnnaaGreatMCoAB
import Derived.Test.YtojppmnmhdgnnaaGreatMDwO
namespace Go.Proofs.YtojppmnmhdgnnaaGreat
set_option linter.unusedVariables false
set_option linter.unusedSimpArgs false
open Go.RowKit

attribute [local go_sem ↓] Go.wp_at_zero Go.wp_at_succ

set_option maxRecDepth 100000 in
theorem small_any (x : Int) (k : Nat) (w : World) : Calls Tryz.prog 86 #[.agg #[.int .i64 x, .int .i64 (k : Int)]] w fun e w' => e = .returned (.bool (decide (k < 1))) ∧ Below w.heap.size w w' := by
  have hb0 : Hid (Below w.heap.size w (w.alloc (.cells #[.int .i64 x, .int .i64 (k : Int)] 69))) := (Below.refl _ _).alloc (Nat.le_refl _) _
  by_cases h : k < 1
  · obtain rfl : k = 0 := by omega
    go_enter Tryz.func86, Tryz.ntmps86
    go_wp2_with fail
    go_ret
    exact ⟨rfl, hb0.out⟩
  · have hI : ¬ (k : Int) < 1 := by omega
    have hd : decide (k < 1) = false := decide_eq_false h
    rw [hd]
    have hdI : decide ((k : Int) < 1) = false := decide_eq_false hI
    clear hd h
    go_enter Tryz.func86, Tryz.ntmps86
    go_wp2_with fail
    go_ret
    exact ⟨by first | rfl | exact congrArg (fun b => Ending.returned (.bool b)) hdI, hb0.out⟩

set_option maxHeartbeats 4000000 in
set_option maxRecDepth 100000 in
theorem runi_any (l : List (Int × Nat)) (L : Option Addr) (n c : Nat) (w : World) (hl : l.length = n) (hL : Rd w L (runc l)) (hn : n ≤ 1000000) :
    Calls Tryz.prog 101 #[.slice L n c, .func (Fn.func 86) #[] #[]] w fun e w' => (∃ i : Int, e = .returned (.int .i64 i) ∧ (0 ≤ i ↔ l.all (fun r => decide (1 ≤ r.2)) = false)) ∧ Below w.heap.size w w' := by
  have Hl := Lib.hid hl
  have HL := Lib.hid hL
  have Hr := Lib.hid (fun x k w' => small_any x k w')
  obtain ⟨R, hRR⟩ : ∃ R, R = l.all (fun r => decide (1 ≤ r.2)) := ⟨_, rfl⟩
  rw [← hRR]
  have HRR := Lib.hid hRR
  clear hl hL hRR
  go_enter Tryz.func101, Tryz.ntmps101
  go_wp2_with fail
  go_loopw [8] (fun vi wr => ∃ j : Nat, vi = .int .i64 j ∧ j ≤ n ∧ Hid (∀ r ∈ l.take j, 1 ≤ r.2) ∧ Hid (Below w.heap.size w wr)) (fun vi _ => n - (intOf vi).toNat)
  case atStart => exact ⟨0, rfl, by omega, by (show ∀ k ∈ ([] : List (Int × Nat)), _); simp, Below.refl _ _⟩
  case round =>
    obtain ⟨j, rfl, hj, Hall, Hb⟩ := hrel
    by_cases hjn : j < n
    · have hjI : (j : Int) < (n : Int) := by omega
      have hjI0 : (0 : Int) ≤ (j : Int) := by omega
      have hjl : j < l.length := by rw [Hl.out]; exact hjn
      obtain ⟨b, o, hLe, c0, c1⟩ := (HL.out.below Hb.out).run hjl
      have hts := List.take_succ_eq_append_getElem hjl
      have Hin := Lib.hid (List.getElem_mem hjl)
      have Hts := Lib.hid hts
      clear hts
      subst hLe
      generalize l[j] = x at *
      obtain ⟨x, k⟩ := x
      dsimp only at c0 c1
      have hx := Hr.out x k wr
      clear hjl
      by_cases hR : k < 1
      · rw [decide_eq_true hR] at hx
        have Hx := Lib.hid hx
        have HR : Hid (R = false) := by
          show _ = _
          rw [HRR.out]
          exact List.all_eq_false.2 ⟨_, Hin.out, by rw [decide_eq_false (show ¬ 1 ≤ k by omega)]; decide⟩
        clear hx
        go_wp2_with fail
        refine Hx.out.mono ?_
        rintro e w1 ⟨rfl, hb1⟩
        have Hb1 := Lib.hid (Hb.out.trans (hb1.mono Hb.out.size))
        go_wp2_with fail
        go_ret
        exact ⟨⟨_, rfl, fun _ => HR.out, fun _ => hjI0⟩, Hb1.out⟩
      · rw [decide_eq_false hR] at hx
        have Hx := Lib.hid hx
        have HR : Hid (∀ r ∈ l.take (j + 1), 1 ≤ r.2) := Lib.hid fun r hr => by
          rw [Hts.out, List.mem_append, List.mem_singleton] at hr
          rcases hr with hr | rfl
          · exact Hall.out r hr
          · show 1 ≤ k; omega
        clear hx hR
        go_wp2_with fail
        refine Hx.out.mono ?_
        rintro e w1 ⟨rfl, hb1⟩
        have Hb1 := Lib.hid (Hb.out.trans (hb1.mono Hb.out.size))
        go_wp2_with fail
        go_roundw
        case rel => exact ⟨j + 1, by go_num, by omega, HR, Hb1⟩
        case measure => simp [intOf]; omega
    · have HR : Hid (R = true) := by
        show _ = _
        rw [HRR.out]
        refine List.all_eq_true.2 fun r hr => decide_eq_true (Hall.out r ?_)
        rw [List.take_of_length_le (by rw [Hl.out]; omega)]
        exact hr
      go_wp2_with fail
      go_ret
      exact ⟨⟨-1, rfl, fun h => absurd h (by decide), fun h => absurd (HR.out.symm.trans h) (by decide)⟩, Hb.out⟩

set_option maxRecDepth 100000 in
theorem runcf_any (l : List (Int × Nat)) (L : Option Addr) (n c : Nat) (w : World) (hl : l.length = n) (hL : Rd w L (runc l)) (hn : n ≤ 1000000) :
    Calls Tryz.prog 85 #[.slice L n c, .func (Fn.func 86) #[] #[]] w fun e w' => e = .returned (.bool (!l.all (fun r => decide (1 ≤ r.2)))) ∧ Below w.heap.size w w' := by
  have hi := Lib.hid (runi_any l L n c w hl hL hn)
  obtain ⟨R, hR⟩ : ∃ R, R = l.all (fun r => decide (1 ≤ r.2)) := ⟨_, rfl⟩
  rw [← hR] at hi ⊢
  clear hl hL hR
  go_enter Tryz.func85, Tryz.ntmps85
  go_wp2_with fail
  refine hi.out.mono ?_
  rintro e w1 ⟨⟨i, rfl, h1⟩, hb1⟩
  have Hb1 := Lib.hid hb1
  cases R
  · have h0 : 0 ≤ i := h1.2 rfl
    clear h1
    go_wp2_with fail
    go_ret
    exact ⟨rfl, Hb1.out⟩
  · have h0 : ¬ 0 ≤ i := fun h => absurd (h1.1 h) (by decide)
    have hd := Lib.hid (decide_eq_false h0)
    clear h1
    go_wp2_with fail
    go_ret
    exact ⟨by first | rfl | exact congrArg (fun b => Ending.returned (.bool b)) hd.out, Hb1.out⟩

theorem sumR_snoc (l : List (Int × Nat)) (r : Int × Nat) : sumR (l ++ [r]) = sumR l + r.2 := by simp [sumR]
theorem sumR_app (a b : List (Int × Nat)) : sumR (a ++ b) = sumR a + sumR b := by simp [sumR]
theorem sumR_take_le (l : List (Int × Nat)) (j : Nat) : sumR (l.take j) ≤ sumR l := by
  have := sumR_app (l.take j) (l.drop j)
  rw [List.take_append_drop] at this
  omega
/-- How sum ends. -/
def SumOK (l : List (Int × Nat)) (w : World) (e : Ending) (w' : World) : Prop :=
  ((sumOk l = true ∧ e = .returned (.tuple #[.int .i64 ((sumR l : Nat) : Int), .int .i64 0])) ∨ (sumOk l = false ∧ ∃ E : Int, E ≠ 0 ∧ e = .returned (.tuple #[.int .i64 0, .int .i64 E]))) ∧ Below w.heap.size w w'

set_option maxHeartbeats 4000000 in
set_option maxRecDepth 100000 in
theorem sum_any (l : List (Int × Nat)) (L : Option Addr) (n c : Nat) (w : World) (hl : l.length = n) (hL : Rd w L (runc l)) (hn : n ≤ 1000000) (hm : ∀ r ∈ l, r.2 ≤ 4097) :
    Calls Tryz.prog 63 #[.slice L n c] w fun e w' => SumOK l w e w' := by
  have Hcf := Lib.hid (runcf_any l L n c w hl hL hn)
  have Hl := Lib.hid hl
  have HL := Lib.hid hL
  have Hm := Lib.hid hm
  clear hl hL hm
  by_cases hall : l.all (fun r => decide (1 ≤ r.2)) = true
  · rw [hall] at Hcf
    have Hall := Lib.hid hall
    clear hall
    go_enter Tryz.func63, Tryz.ntmps63
    go_wp2_with fail
    refine Hcf.out.mono ?_
    rintro e w1 ⟨rfl, hb1⟩
    have Hb1 := Lib.hid hb1
    clear hb1 Hcf
    go_wp2_with fail
    go_loopw [4, 11] (fun vs vi wr => ∃ (j s : Nat), vs = .int .i64 (s : Int) ∧ vi = .int .i64 j ∧ j ≤ n ∧ s ≤ 4096 ∧ Hid (s = sumR (l.take j)) ∧ Hid (Below w.heap.size w wr)) (fun _ vi _ => n - (intOf vi).toNat)
    case atStart => exact ⟨0, 0, rfl, rfl, by omega, by omega, rfl, Hb1⟩
    case round =>
      obtain ⟨j, s, rfl, rfl, hj, hs, Hs, Hb⟩ := hrel
      by_cases hjn : j < n
      · have hjI : (j : Int) < (n : Int) := by omega
        have hjI0 : (0 : Int) ≤ (j : Int) := by omega
        have hjl : j < l.length := by rw [Hl.out]; exact hjn
        obtain ⟨b, o, hLe, c0, c1⟩ := (HL.out.below Hb.out).run hjl
        have hts := List.take_succ_eq_append_getElem hjl
        have hmk := Hm.out _ (List.getElem_mem hjl)
        have hle := sumR_take_le l (j + 1)
        rw [hts, sumR_snoc, ← Hs.out] at hle
        have Hs1 : Hid (s + (l[j]).2 = sumR (l.take (j + 1))) := by show _ = _; rw [hts, sumR_snoc, ← Hs.out]
        subst hLe
        generalize l[j] = x at *
        obtain ⟨x, k⟩ := x
        dsimp only at c0 c1 hmk hle Hs1
        have Hba : Hid (Below w.heap.size w (wr.alloc (.cells #[.int .i64 x, .int .i64 (k : Int)] 69))) := Hb.out.alloc Hb.out.size _
        have hw1 : IntKind.i64.wrap (4096 - (s : Int)) = 4096 - (s : Int) := by rw [IntKind.wrap_i64]; omega
        clear hts hjl
        by_cases hk : 4096 - (s : Int) < (k : Int)
        · have Hbad : Hid (sumOk l = false) := by
            show _ = _
            unfold sumOk
            rw [Bool.and_eq_false_iff]
            exact .inr (decide_eq_false (by omega))
          clear hle Hs1
          go_wp2_with fail
          go_ret2
          exact ⟨.inr ⟨Hbad.out, 3, by decide, rfl⟩, Hba.out⟩
        · clear hle
          go_wp2_with fail
          go_roundw
          case rel => exact ⟨j + 1, s + k, by go_num, by go_num, by omega, by omega, Hs1, Hba⟩
          case measure => simp [intOf]; omega
      · obtain rfl : j = n := by omega
        have Hsf : Hid (sumR l = s) := by
          show _ = _
          rw [Hs.out, List.take_of_length_le (by rw [Hl.out]; exact Nat.le_refl _)]
        have Hgood : Hid (sumOk l = true) := by
          show _ = _
          unfold sumOk
          rw [Hall.out, Hsf.out, decide_eq_true hs]
          rfl
        go_wp2_with fail
        go_ret2
        exact ⟨.inl ⟨Hgood.out, by rw [Hsf.out]; rfl⟩, Hb.out⟩
  · have hall2 : l.all (fun r => decide (1 ≤ r.2)) = false := Bool.eq_false_iff.2 hall
    rw [hall2] at Hcf
    have Hbad : Hid (sumOk l = false) := by
      show _ = _
      unfold sumOk
      rw [hall2]
      rfl
    clear hall hall2
    go_enter Tryz.func63, Tryz.ntmps63
    go_wp2_with fail
    refine Hcf.out.mono ?_
    rintro e w1 ⟨rfl, hb1⟩
    have Hb1 := Lib.hid hb1
    go_wp2_with fail
    go_ret2
    exact ⟨.inr ⟨Hbad.out, 1, by decide, rfl⟩, Hb1.out⟩

theorem chain_iff : ∀ l : List (Int × Nat), chainR l = true ↔ ∀ i (h : i + 1 < l.length), (l[i]).1 ≠ (l[i + 1]).1
  | [] => by simp [chainR]
  | [a] => by simp [chainR]
  | a :: b :: l => by
    rw [chainR, Bool.and_eq_true, decide_eq_true_iff, chain_iff (b :: l)]
    constructor
    · rintro ⟨h1, h2⟩ i hi
      cases i with
      | zero => exact h1
      | succ i => exact h2 i (by simpa using hi)
    · intro h
      exact ⟨h 0 (by simp), fun i hi => h (i + 1) (by simpa using hi)⟩

set_option maxHeartbeats 4000000 in
set_option maxRecDepth 100000 in
theorem rright_any (l : List (Int × Nat)) (L : Option Addr) (n c : Nat) (w : World) (hl : l.length = n) (hL : Rd w L (runc l)) (hn : n ≤ 1000000) (hm : ∀ r ∈ l, r.2 ≤ 4097) :
    Calls Tryz.prog 36 #[.slice L n c] w fun e w' => e = .returned (.bool (rightR l)) ∧ Below w.heap.size w w' := by
  have Hsm := Lib.hid (fun d => sum_any l L n c (w.drewN d) hl (hL.drewN d) hn hm)
  have Hl := Lib.hid hl
  have HL := Lib.hid hL
  obtain ⟨R, hR⟩ : ∃ R, R = rightR l := ⟨_, rfl⟩
  rw [← hR]
  have HR := Lib.hid hR
  clear hl hL hm hR
  go_enter Tryz.func36, Tryz.ntmps36
  go_wp2_with fail
  go_loopw [8] (fun vi wr => ∃ (j d : Nat), vi = .int .i64 j ∧ j ≤ n ∧ wr = w.drewN d ∧ Hid (∀ i (h : i + 1 < l.length), i + 1 < j → (l[i]).1 ≠ (l[i + 1]).1)) (fun vi _ => n - (intOf vi).toNat)
  case atStart => exact ⟨0, 0, rfl, by omega, rfl, fun i _ h => by omega⟩
  case round =>
    obtain ⟨j, d, rfl, hj, rfl, Hall⟩ := hrel
    by_cases hjn : j < n
    · have hjI : (j : Int) < (n : Int) := by omega
      have hjI0 : (0 : Int) ≤ (j : Int) := by omega
      have hjl : j < l.length := by rw [Hl.out]; exact hjn
      obtain ⟨b, o, hLe, c0, c1⟩ := HL.out.run hjl
      by_cases hj0 : j = 0
      · subst hj0
        have HN : Hid (∀ i (h : i + 1 < l.length), i + 1 < 0 + 1 → (l[i]).1 ≠ (l[i + 1]).1) := fun i _ h => by omega
        have e0 : decide ((0 : Int) < 0) = false := by decide
        subst hLe
        clear Hall
        go_wp2_with fail
        go_quiet (fail)
        go_wp2_with fail
        go_roundw
        case rel => exact ⟨1, _, by go_num, by omega, rfl, HN⟩
        case measure => simp [intOf]; omega
      · obtain ⟨jj, hjj⟩ : ∃ jj, j = jj + 1 := ⟨j - 1, by omega⟩
        have hjj1 : jj < l.length := by omega
        obtain ⟨b1, o1, hLe1, d0, d1⟩ := HL.out.run hjj1
        subst hLe
        obtain ⟨rfl, rfl⟩ : b = b1 ∧ o = o1 := by
          have h9 := Option.some.inj hLe1
          injection h9 with h91 h92
          exact ⟨h91, h92⟩
        have hjw : IntKind.i64.wrap ((j : Int) - 1) = (jj : Int) := by rw [IntKind.wrap_i64]; omega
        have hjp : decide (0 < (j : Int)) = true := decide_eq_true (by omega)
        have hjp2 : decide (0 < j) = true := decide_eq_true (by omega)
        have hj1 : (jj : Int) < (n : Int) := by omega
        have hj2 : (0 : Int) ≤ (jj : Int) := by omega
        have Hbad : Hid ((l[j]).1 = (l[jj]).1 → R = false) := Lib.hid fun h => by
          rw [HR.out]
          unfold rightR
          rw [Bool.and_eq_false_iff]
          refine .inl (Bool.eq_false_iff.2 fun h2 => ?_)
          have h3 := (chain_iff l).1 h2 jj (by omega)
          subst hjj
          exact h3 h.symm
        have Hnx : Hid ((l[j]).1 ≠ (l[jj]).1 → ∀ i (h : i + 1 < l.length), i + 1 < j + 1 → (l[i]).1 ≠ (l[i + 1]).1) := Lib.hid fun h i hi hij => by
          by_cases e : i = jj
          · subst e
            subst hjj
            exact fun h2 => h h2.symm
          · exact Hall.out i hi (by omega)
        generalize l[j] = x at *
        generalize l[jj] = y at *
        obtain ⟨x, k⟩ := x
        obtain ⟨y, k2⟩ := y
        dsimp only at c0 c1 d0 d1 Hbad Hnx
        clear hLe1 hjj hjj1 hjl hj0 Hall
        by_cases hxy : x = y
        · subst hxy
          have HRf := Lib.hid (Hbad.out rfl)
          clear Hbad Hnx
          go_wp2_with fail
          go_quiet (fail)
          go_wp2_with fail
          go_ret
          exact ⟨by rw [HRf.out]; rfl, by first | exact below_drewN' (Below.refl _ _) _ | exact below_drewN' (below_drewN' (Below.refl _ _) _) _⟩
        · have e1 : (x == y) = false := by rw [beq_eq_false_iff_ne]; exact hxy
          have HN := Lib.hid (Hnx.out hxy)
          clear Hbad Hnx hxy
          go_wp2_with fail
          go_quiet (fail)
          go_wp2_with fail
          go_roundw
          case rel => exact ⟨j + 1, _, by go_num, by omega, rfl, HN⟩
          case measure => simp [intOf]; omega
    · obtain rfl : j = n := by omega
      have hch : chainR l = true := (chain_iff l).2 fun i hi => Hall.out i hi (by have := Hl.out; omega)
      have HRs : Hid (R = sumOk l) := by
        show _ = _
        rw [HR.out]
        unfold rightR
        rw [hch, Bool.true_and]
      clear hch
      go_wp2_with fail
      refine (Hsm.out _).mono ?_
      rintro e w1 ⟨⟨hs, rfl⟩ | ⟨hs, E, hE, rfl⟩, hb1⟩
      · have HRt : Hid (R = true) := HRs.out.trans hs
        have Hb1 : Hid (Below w.heap.size w w1) := (below_drewN' (Below.refl w.heap.size w) d).trans hb1
        clear hs hb1
        go_wp2_with fail
        go_ret
        exact ⟨by rw [HRt.out]; rfl, Hb1.out⟩
      · have HRt : Hid (R = false) := HRs.out.trans hs
        have Hb1 : Hid (Below w.heap.size w w1) := (below_drewN' (Below.refl w.heap.size w) d).trans hb1
        have e1 : (E == 0) = false := by rw [beq_eq_false_iff_ne]; exact hE
        clear hs hb1 hE
        go_wp2_with fail
        go_ret
        exact ⟨by rw [HRt.out]; rfl, Hb1.out⟩
end Go.Proofs.YtojppmnmhdgnnaaGreat
namespace Go.Proofs.YtojppmnmhdgnnaaGreat
set_option linter.unusedVariables false
set_option linter.unusedSimpArgs false
open Go.RowKit

attribute [local go_sem ↓] Go.wp_at_zero Go.wp_at_succ

theorem rdr_end (p : Nat) (l : List UInt8) (bad : Bool) (w : World) (h : Rdr w p l bad) : Calls Tryz.prog 35 #[.pointer (some ⟨p, 0, none⟩)] w fun e w' => ((bad = false ∧ l = [] ∧ e = .returned (.int .i64 0)) ∨ (¬ (bad = false ∧ l = []) ∧ e = .returned (.int .i64 6))) ∧ w = w' := by
  have hb := Lib.hid (rdr_bad p l bad w h)
  have hl := Lib.hid (rdr_left p l bad w h)
  clear h
  cases bad with
  | true =>
    go_enter Tryz.func35, Tryz.ntmps35
    go_wp2_with fail
    refine hb.out.mono ?_
    rintro e w1 ⟨rfl, rfl⟩
    go_wp2_with fail
    go_ret
    exact ⟨.inr ⟨(fun h => by cases h.1), rfl⟩, rfl⟩
  | false =>
    by_cases h0 : l = []
    · subst h0
      go_enter Tryz.func35, Tryz.ntmps35
      go_wp2_with fail
      refine hb.out.mono ?_
      rintro e w1 ⟨rfl, rfl⟩
      go_wp2_with fail
      refine hl.out.mono ?_
      rintro e w1 ⟨rfl, rfl⟩
      go_wp2_with fail
      go_ret
      exact ⟨.inl ⟨by first | trivial | rfl, by first | trivial | rfl, rfl⟩, rfl⟩
    · have hp : 0 < l.length := List.length_pos_iff.2 h0
      have H0 := Lib.hid h0
      clear h0
      generalize l.length = n at *
      have hpI : 0 < (n : Int) := by omega
      go_enter Tryz.func35, Tryz.ntmps35
      go_wp2_with fail
      refine hb.out.mono ?_
      rintro e w1 ⟨rfl, rfl⟩
      go_wp2_with fail
      refine hl.out.mono ?_
      rintro e w1 ⟨rfl, rfl⟩
      go_wp2_with fail
      go_ret
      exact ⟨.inr ⟨fun h => H0.out h.2, rfl⟩, rfl⟩

theorem flatR_app (a b : List (Int × Nat)) : flatR (a ++ b) = flatR a ++ flatR b := by simp [flatR]
set_option maxHeartbeats 8000000 in
set_option maxRecDepth 100000 in
theorem flat_any (l : List (Int × Nat)) (L : Option Addr) (n c : Nat) (w : World) (hl : l.length = n) (hL : Rd w L (runc l)) (hn : n ≤ 1000000) (hm : ∀ r ∈ l, r.2 ≤ 4097) (hs : sumOk l = true) :
    Calls Tryz.prog 37 #[.slice L n c] w fun e w' => (∃ A d, e = .returned (.tuple #[.slice A (flatR l).length d, .int .i64 0]) ∧ Rd w' A (icl (flatR l))) ∧ Below w.heap.size w w' := by
  have Hsm := Lib.hid (sum_any l L n c w hl hL hn hm)
  have Hl := Lib.hid hl
  have HL := Lib.hid hL
  have Hs := Lib.hid hs
  have hT : sumR l ≤ 4096 := by
    unfold sumOk at hs
    rw [Bool.and_eq_true] at hs
    exact of_decide_eq_true hs.2
  obtain ⟨T, hTe⟩ : ∃ T, sumR l = T := ⟨_, rfl⟩
  have hlen := flatR_len l
  rw [hTe] at hT hlen
  have HT := Lib.hid hTe
  have Hlen := Lib.hid hlen
  clear hl hL hm hs hTe hlen
  go_enter Tryz.func37, Tryz.ntmps37
  go_wp2_with fail
  refine Hsm.out.mono ?_
  rintro e w1 ⟨⟨-, he⟩ | ⟨hs, -⟩, hb1⟩
  · rw [HT.out] at he
    subst he
    have Hb1 := Lib.hid hb1
    have hz1 := hb1.size
    clear hb1 Hsm
    go_wp2_with (first | (at_builtin; refine hold ?_) | (at_make; refine hold ?_))
    (with_reducible refine unhold ?_)
    refine wpList_mk0 rfl _ _ _ rfl Eint' w.heap.size _ _ _ T rfl rfl rfl (by omega) (by unfold maxLen; omega) hz1 ?_
    intro w2 ho2 hb2 _
    have Hb2 := Lib.hid (Hb1.out.trans (hb2.mono Hb1.out.size))
    have Ho2 : Hid (Own w2 w.heap.size 3 1 (some ⟨w1.heap.size, 0, none⟩) 0 T (icl (flatR (l.take 0)))) := ho2
    clear ho2 hb2 hz1
    go_wp2_with fail
    go_loopw [6, 21] (fun vo vi wr => ∃ (j m : Nat) (A : Option Addr) (d : Nat), vo = .slice A m d ∧ vi = .int .i64 j ∧ j ≤ n ∧ m ≤ 4096 ∧ Hid (m = sumR (l.take j)) ∧ Hid (Own wr w.heap.size 3 1 A m d (icl (flatR (l.take j)))) ∧ Hid (Below w.heap.size w wr)) (fun _ vi _ => n - (intOf vi).toNat)
    case atStart => exact ⟨0, 0, _, _, rfl, rfl, by omega, by omega, rfl, Ho2, Hb2⟩
    case round =>
      obtain ⟨j, m, A, d, rfl, rfl, hj, hm, Hm, Ho, Hb⟩ := hrel
      by_cases hjn : j < n
      · have hjI : (j : Int) < (n : Int) := by omega
        have hjI0 : (0 : Int) ≤ (j : Int) := by omega
        have hjl : j < l.length := by rw [Hl.out]; exact hjn
        obtain ⟨b, o, hLe, c0, c1⟩ := (HL.out.below Hb.out).run hjl
        have hts := List.take_succ_eq_append_getElem hjl
        have hle := sumR_take_le l (j + 1)
        rw [hts, sumR_snoc, ← Hm.out, HT.out] at hle
        have Hm1 : Hid (m + (l[j]).2 = sumR (l.take (j + 1))) := by show _ = _; rw [hts, sumR_snoc, ← Hm.out]
        have Hfl : Hid (∀ i, i ≤ (l[j]).2 → flatR (l.take j) ++ List.replicate i (l[j]).1 = flatR (l.take j) ++ List.replicate i (l[j]).1) := fun _ _ => rfl
        have Hfe : Hid (flatR (l.take j) ++ List.replicate (l[j]).2 (l[j]).1 = flatR (l.take (j + 1))) := by
          show _ = _
          rw [hts, flatR_app]
          congr 1
          show _ = List.flatMap _ [_]
          simp
        subst hLe
        generalize l[j] = x at *
        obtain ⟨x, k⟩ := x
        dsimp only at c0 c1 hle Hm1 Hfl Hfe
        have hba : Below wr.heap.size wr (wr.alloc (.cells #[.int .i64 x, .int .i64 (k : Int)] 69)) := (Below.refl _ _).alloc (Nat.le_refl _) _
        have Hjb := Lib.hid (Blk.new wr 69 #[.int .i64 x, .int .i64 (k : Int)])
        have Hba := Lib.hid (Hb.out.trans (hba.mono Hb.out.size))
        have Hoa := Lib.hid (Ho.out.below hba)
        obtain ⟨gj, hgj⟩ : ∃ g, g = wr.heap.size := ⟨_, rfl⟩
        have Hgj := Lib.hid hgj
        clear hts hjl hba Ho Hb hgj
        generalize hwo : wr = wo at *
        clear hwo
        go_wp2_with fail
        go_loopw [6, 27] (fun vo vi wr => ∃ (i : Nat) (A : Option Addr) (d : Nat), vo = .slice A (m + i) d ∧ vi = .int .i64 i ∧ i ≤ k ∧ Hid (Own wr w.heap.size 3 1 A (m + i) d (icl (flatR (l.take j) ++ List.replicate i x))) ∧ Hid (Below w.heap.size w wr) ∧ Hid (Blk wr wo.heap.size 69 [.int .i64 x, .int .i64 (k : Int)])) (fun _ vi _ => k - (intOf vi).toNat)
        case atStart => exact ⟨0, A, d, rfl, rfl, by omega, (by show Own _ _ _ _ _ _ _ _; rw [List.replicate_zero, List.append_nil]; exact Hoa.out), Hba, Hjb⟩
        case round =>
          obtain ⟨i, A9, d9, rfl, rfl, hi, Hoi, Hbi, Hji⟩ := hrel
          by_cases hik : i < k
          · have hiI : (i : Int) < (k : Int) := by omega
            have hiI0 : (0 : Int) ≤ (i : Int) := by omega
            have j0 := Hji.out.cell 0
            simp only [List.getElem?_cons_zero] at j0
            have hbX : Below wr.heap.size wr (wr.alloc (.cells #[.int .i64 x] 3)) := (Below.refl _ _).alloc (Nat.le_refl _) _
            have ho3 := Own.below Hoi.out hbX
            have hj3 := Hji.out.below hbX
            have hb3 := Hbi.out.trans (hbX.mono Hbi.out.size)
            have hz3 := hb3.size
            have hnew := (Blk.new wr 3 #[.int .i64 x]).range
            have Hys : Hid (icl (flatR (l.take j) ++ List.replicate i x) ++ [.int .i64 x] = icl (flatR (l.take j) ++ List.replicate (i + 1) x)) := by
              show _ = _
              rw [List.replicate_succ', ← List.append_assoc]
              exact (icl_append _ [x]).symm
            clear hbX Hoi Hbi Hji
            go_wp2_with (first | (at_builtin; refine hold ?_) | (at_make; refine hold ?_))
            (with_reducible refine unhold ?_)
            refine wpList_apd rfl _ _ _ rfl Eint' w.heap.size _ (m + i) _ _ rfl ho3 _ 1 _ [.int .i64 x] rfl rfl (fun _ => ⟨_, _, rfl, hnew⟩) (by simp [Value.oneCell']) (m + i + 1) rfl _ Hys.out (by omega) (by omega) hz3 ?_
            intro A5 d5 w9 ho9 hg9 _
            have Hb9 := Lib.hid (hb3.grown hg9 hz3 ho3.row_ge)
            have Hj9 : Hid (Blk w9 wo.heap.size 69 [.int .i64 x, .int .i64 (k : Int)]) := hj3.keeps (by decide) (ho3.apd_keeps hg9)
            have Ho9 := Lib.hid ho9
            clear ho9 hg9 ho3 hb3 hnew hz3 hj3
            go_wp2_with fail
            go_roundw
            case rel => exact ⟨i + 1, A5, d5, by rfl, by go_num, by omega, Ho9, Hb9, Hj9⟩
            case measure => simp [intOf]; omega
          · obtain rfl : i = k := by omega
            have Ho9 : Hid (Own wr w.heap.size 3 1 A9 (m + i) d9 (icl (flatR (l.take (j + 1))))) := by
              show Own _ _ _ _ _ _ _ _
              rw [← Hfe.out]
              exact Hoi.out
            go_wp2_with fail
            go_roundw
            case rel => exact ⟨j + 1, m + i, A9, d9, rfl, by go_num, by omega, by omega, Hm1, Ho9, Hbi⟩
            case measure => simp [intOf]; omega
      · obtain rfl : j = n := by omega
        have htk : l.take j = l := List.take_of_length_le (by rw [Hl.out]; exact Nat.le_refl _)
        have Hml : Hid ((flatR l).length = m) := by
          show _ = _
          rw [Hm.out, htk, flatR_len]
        have HrF : Hid (Rd wr A (icl (flatR l))) := by
          have := Ho.out.rd
          rwa [htk] at this
        clear htk
        go_wp2_with fail
        go_ret2
        exact ⟨⟨A, d, by rw [Hml.out]; rfl, HrF.out⟩, Hb.out⟩
  · rw [Hs.out] at hs
    cases hs

/-- How numbers are taken from bytes: exactly as the plain words say; or an error, and nothing. -/
def DecOK (M : Option (List Int)) (w : World) (e : Ending) (w' : World) : Prop :=
  ((M = none ∧ ∃ E : Int, E ≠ 0 ∧ e = .returned (.tuple #[.slice none 0 0, .int .i64 E])) ∨ ∃ l A d, M = some l ∧ e = .returned (.tuple #[.slice A l.length d, .int .i64 0]) ∧ Rd w' A (icl l)) ∧ Below w.heap.size w w'

set_option maxHeartbeats 16000000 in
set_option maxRecDepth 100000 in
theorem rtake_any (b : List UInt8) (n c : Nat) (A : Option Addr) (w : World) (hl : b.length = n) (hr : Rd w A (Bs b)) (hn : n ≤ 500000) :
    Calls Tryz.prog 14 #[.slice A n c] w fun e w' => DecOK (runsTakeM b) w e w' := by
  have hnw := Lib.hid (rdr_new b n c A w hl hr (by omega))
  have Hl := Lib.hid hl
  clear hl hr
  go_enter Tryz.func14, Tryz.ntmps14
  go_wp2_with fail
  refine hnw.out.mono ?_
  rintro e w1 ⟨p, rfl, hrd1, hp1, hb1⟩
  have Hb1 := Lib.hid hb1
  have hpz := hrd1.lt
  have hnu := Lib.hid (rdr_num p b false w1 hrd1)
  clear hnw hb1 hrd1
  go_wp2_with fail
  refine hnu.out.mono ?_
  rintro e w2 ⟨he, hk⟩
  have Hb2 := Lib.hid (Hb1.out.trans (keeps_below hk hp1 (Nat.le_of_lt hpz)))
  obtain ⟨N, u, bad0, rfl, hNl, hul, HR, Hbt, Hbf⟩ : ∃ (N : Nat) (u : List UInt8) (bad0 : Bool), e = .returned (.int .u64 (N : Int)) ∧ N < 18446744073709551616 ∧ u.length ≤ n ∧ Hid (Rdr w2 p u bad0) ∧ Hid (bad0 = true → runsTakeM b = none) ∧ Hid (bad0 = false → takeNum b = some (N, u)) := by
    rcases he with ⟨ht, rfl, hrd⟩ | ⟨N, u, ht, rfl, hrd⟩
    · exact ⟨0, [], true, rfl, by decide, Nat.zero_le _, hrd.rdr, (fun _ => by unfold runsTakeM; rw [ht]), (fun h => by cases h)⟩
    · obtain ⟨h1, h2⟩ := takeNum_lt ht
      exact ⟨N, u, false, rfl, h1, by have := Hl.out; omega, hrd, (fun h => by cases h), fun _ => ht⟩
  clear he hk hnu
  have hp1' : w.heap.size ≤ p := hp1
  go_wp2_with fail
  go_loopw [5, 6] (fun v5 v6 wr => ∃ (m k cc : Nat) (A' : Option Addr) (x : List (Int × Nat)) (pc : List UInt8) (bad : Bool), v5 = .slice A' k cc ∧ v6 = .int .u64 (m : Int) ∧ m < 18446744073709551616 ∧ k + pc.length ≤ n + 1 ∧ Hid (Rdr wr p pc bad) ∧ Hid (Own wr w.heap.size 69 2 A' k cc (runc x)) ∧ Hid (Below w.heap.size w wr) ∧ Hid (bad = true → runsTakeM b = none) ∧ Hid (bad = false → takeNum b = some (N, u) ∧ k + pc.length ≤ n ∧ runsRd N u = (runsRd m pc).map fun y => (x ++ y.1, y.2)) ∧ Hid (∀ r ∈ x, r.2 ≤ 4097)) (fun _ v6 _ => (intOf v6).toNat)
  case atStart => exact ⟨N, 0, 0, none, [], u, bad0, rfl, rfl, hNl, by omega, HR, Own.nil _ _ _ _, Hb2, Hbt, (fun h => ⟨Hbf.out h, by omega, by simp⟩), (fun _ h => by cases h)⟩
  case round =>
    obtain ⟨m, k, cc, A', x, pc, bad, rfl, rfl, hm64, hkp, HR, Ho, Hb, Hbt, Hbf, Hin⟩ := hrel
    have Hbd := Lib.hid (rdr_bad p pc bad wr HR.out)
    have Hkx : Hid (x.length = k) := by
      show _ = _
      have := Ho.out.1
      rw [runc_len] at this
      omega
    by_cases hm0 : m = 0
    · subst hm0
      have Hen := Lib.hid (rdr_end p pc bad wr HR.out)
      go_wp2_with fail
      refine Hen.out.mono ?_
      rintro e w3 ⟨⟨rfl, rfl, rfl⟩ | ⟨hne, rfl⟩, rfl⟩
      · obtain ⟨htn, hkp2, hrr⟩ := Hbf.out rfl
        have hrr2 : runsRd N u = some (x, []) := by rw [hrr]; show some (x ++ [], []) = _; rw [List.append_nil]
        have HM : Hid (runsTakeM b = if rightR x = true then some (flatR x) else none) := by
          show _ = _
          unfold runsTakeM
          rw [htn]
          dsimp only
          rw [hrr2]
          show (if _ ∧ _ then _ else _) = _
          by_cases h : rightR x = true
          · rw [if_pos h, if_pos ⟨rfl, h⟩]
          · rw [if_neg h, if_neg (fun h2 => h h2.2)]
        have Hrg := Lib.hid (fun w' (hw : Below wr.heap.size wr w') => rright_any x A' k cc w' Hkx.out (Ho.out.rd.below hw) (by omega) Hin.out)
        have Hfl := Lib.hid (fun w' (hw : Below wr.heap.size wr w') (h : sumOk x = true) => flat_any x A' k cc w' Hkx.out (Ho.out.rd.below hw) (by omega) Hin.out h)
        clear hrr hrr2 htn
        by_cases hrx : rightR x = true
        · rw [hrx] at Hrg
          have hM := HM.out
          rw [if_pos hrx] at hM
          have hso : sumOk x = true := by
            unfold rightR at hrx
            rw [Bool.and_eq_true] at hrx
            exact hrx.2
          have HM2 := Lib.hid hM
          have Hso := Lib.hid hso
          clear hM hso hrx HM
          go_wp2_with fail
          refine (Hrg.out wr (Below.refl _ _)).mono ?_
          rintro e w4 ⟨rfl, hb4⟩
          have Hb4 := Lib.hid hb4
          clear hb4
          go_wp2_with fail
          refine (Hfl.out w4 Hb4.out Hso.out).mono ?_
          rintro e w5 ⟨⟨A5, d5, rfl, hr5⟩, hb5⟩
          have Hb5 := Lib.hid (Hb.out.trans ((Hb4.out.trans (hb5.mono Hb4.out.size)).mono Hb.out.size))
          have Hr5 := Lib.hid hr5
          clear hb5 hr5
          go_wp2_with fail
          go_ret2
          exact ⟨.inr ⟨flatR x, A5, d5, HM2.out, rfl, Hr5.out⟩, Hb5.out⟩
        · have hrx2 : rightR x = false := Bool.eq_false_iff.2 hrx
          rw [hrx2] at Hrg
          have hM := HM.out
          rw [if_neg hrx] at hM
          have HM2 := Lib.hid hM
          clear hM hrx HM hrx2
          go_wp2_with fail
          refine (Hrg.out wr (Below.refl _ _)).mono ?_
          rintro e w4 ⟨rfl, hb4⟩
          have Hb4 := Lib.hid (Hb.out.trans (hb4.mono Hb.out.size))
          go_wp2_with fail
          go_ret2
          exact ⟨.inl ⟨HM2.out, 6, by decide, rfl⟩, Hb4.out⟩
      · have Hno : Hid (runsTakeM b = none) := by
          show _ = _
          cases bad with
          | true => exact Hbt.out rfl
          | false =>
            obtain ⟨htn, -, hrr⟩ := Hbf.out rfl
            have hrr2 : runsRd N u = some (x, pc) := by rw [hrr]; show some (x ++ [], pc) = _; rw [List.append_nil]
            unfold runsTakeM
            rw [htn]
            dsimp only
            rw [hrr2]
            show (if _ ∧ _ then _ else _) = _
            exact if_neg (fun h => hne ⟨rfl, h.1⟩)
        clear Hbt Hbf hne
        go_wp2_with fail
        go_ret2
        exact ⟨.inl ⟨Hno.out, 6, by decide, rfl⟩, Hb.out⟩
    · have hmI : 0 < (m : Int) := by omega
      cases bad with
      | true =>
        have Hen := Lib.hid (rdr_end p pc true wr HR.out)
        have Hno := Lib.hid (Hbt.out rfl)
        go_wp2_with fail
        refine Hbd.out.mono ?_
        rintro e w3 ⟨rfl, rfl⟩
        go_wp2_with fail
        refine Hen.out.mono ?_
        rintro e w3 ⟨⟨h, _⟩ | ⟨-, rfl⟩, rfl⟩
        · cases h
        · go_wp2_with fail
          go_ret2
          exact ⟨.inl ⟨Hno.out, 6, by decide, rfl⟩, Hb.out⟩
      | false =>
        obtain ⟨htn, hkp2, hrr⟩ := Hbf.out rfl
        obtain ⟨m1, hm1⟩ : ∃ m1, m = m1 + 1 := ⟨m - 1, by omega⟩
        have Hrr : Hid (runsRd N u = (match takeNum pc with | none => none | some (a, v) => match takeNum v with | none => none | some (c, t) => ((runsRd (m - 1) t).map fun y => ((unzig a, min c 4097) :: y.1, y.2)).map fun y => (x ++ y.1, y.2))) := by
          show _ = _
          rw [hrr, hm1, runsRd]
          cases takeNum pc with
          | none => rfl
          | some z =>
            obtain ⟨a, v⟩ := z
            dsimp only
            cases takeNum v with
            | none => rfl
            | some z => rfl
        have Hno : Hid (runsRd N u = none → runsTakeM b = none) := Lib.hid fun h => by
          unfold runsTakeM
          rw [htn]
          dsimp only
          rw [h]
          rfl
        have Htn := Lib.hid htn
        have hin := Lib.hid (rdr_int p pc false wr HR.out)
        have hpr := HR.out.lt
        clear Hbt Hbf htn hrr HR hm1
        go_wp2_with fail
        refine Hbd.out.mono ?_
        rintro e w3 ⟨rfl, rfl⟩
        go_wp2_with fail
        refine hin.out.mono ?_
        rintro e w4 ⟨⟨ht4, rfl, hrd4⟩ | ⟨a, v, ht4, rfl, hrd4⟩, hk4⟩
        · have Ho4 := Lib.hid (Own.keeps Ho.out (by decide) hk4)
          have Hb4 := Lib.hid (Hb.out.trans (keeps_below hk4 hp1' (Nat.le_of_lt hpr)))
          have Hn4 : Hid (runsTakeM b = none) := Hno.out (by rw [Hrr.out, ht4])
          have hnu := Lib.hid (rdr_num p [] true w4 hrd4.rdr)
          have hp4 := hrd4.rdr.lt
          clear hin Hbd Ho Hb ht4 hrd4 hk4 Hrr Hno
          go_wp2_with fail
          refine hnu.out.mono ?_
          rintro e wA ⟨⟨-, rfl, hrd5⟩ | ⟨_, _, ht5, -, -⟩, hk5⟩
          · have HoA := Lib.hid (Own.keeps Ho4.out (by decide) hk5)
            have HbA := Lib.hid (Hb4.out.trans (keeps_below hk5 hp1' (Nat.le_of_lt hp4)))
            have HrA : Hid (Rdr wA p [] true) := hrd5.rdr
            have Hin8 : Hid (∀ r ∈ x ++ [((0 : Int), 0)], r.2 ≤ 4097) := Lib.hid fun r hr => by
              rw [List.mem_append, List.mem_singleton] at hr
              rcases hr with hr | rfl
              · exact Hin.out r hr
              · exact Nat.zero_le _
            clear hnu Ho4 Hb4 hrd5 hk5
            have hba : Below wA.heap.size wA (wA.alloc (.cells #[.int .i64 0, .int .i64 0] 69)) := (Below.refl _ _).alloc (Nat.le_refl _) _
            have hnew := (Blk.new wA 69 #[.int .i64 0, .int .i64 0]).range
            have ho7 := Own.below HoA.out hba
            have hr7 := HrA.out.below hba
            have hb7 := HbA.out.trans (hba.mono HbA.out.size)
            have hz7 := hb7.size
            clear hba HoA HrA HbA
            go_wp2_with (first | (at_builtin; refine hold ?_) | (at_make; refine hold ?_))
            (with_reducible refine unhold ?_)
            refine wpList_apd rfl _ _ _ rfl Erun w.heap.size _ k _ (runc x) rfl ho7 _ 1 _ [.int .i64 0, .int .i64 0] rfl rfl (fun _ => ⟨_, _, rfl, hnew⟩) (by simp [Value.oneCell']) (k + 1) rfl _ rfl (by omega) (by omega) hz7 ?_
            intro A8 c8 w8 ho8 hg8 _
            have e8 : runc x ++ [.int .i64 0, .int .i64 0] = runc (x ++ [(0, (0 : Nat))]) := by rw [runc_append]; rfl
            rw [e8] at ho8
            have Hr8 : Hid (Rdr w8 p [] true) := hr7.keeps (by decide) (by decide) (ho7.apd_keeps hg8)
            have Ho8 := Lib.hid ho8
            have Hb8 := Lib.hid (hb7.grown hg8 hz7 ho7.row_ge)
            clear ho8 hg8 ho7 hr7 hb7 hnew e8 hz7
            go_wp2_with fail
            go_roundw
            case rel => exact ⟨m - 1, k + 1, c8, A8, x ++ [(0, (0 : Nat))], [], true, rfl, by go_num, by omega, (by (try simp only [List.length_nil]); omega), Hr8, Ho8, Hb8, (fun _ => Hn4.out), (fun h => by cases h), Hin8⟩
            case measure => simp only [intOf, Int.toNat_natCast]; omega
          · cases ht5
        · have Ho4 := Lib.hid (Own.keeps Ho.out (by decide) hk4)
          have Hb4 := Lib.hid (Hb.out.trans (keeps_below hk4 hp1' (Nat.le_of_lt hpr)))
          have hnu := Lib.hid (rdr_num p v false w4 hrd4)
          have hp4 := hrd4.lt
          have hvl := (takeNum_lt ht4).2
          have Hrr2 : Hid (runsRd N u = (match takeNum v with | none => none | some (c, t) => ((runsRd (m - 1) t).map fun y => ((unzig a, min c 4097) :: y.1, y.2)).map fun y => (x ++ y.1, y.2))) := by
            show _ = _
            rw [Hrr.out, ht4]
          clear hin Hbd Ho Hb ht4 hrd4 hk4 Hrr
          go_wp2_with fail
          refine hnu.out.mono ?_
          rintro e wA ⟨⟨ht5, rfl, hrd5⟩ | ⟨c9, t9, ht5, rfl, hrd5⟩, hk5⟩
          · have HoA := Lib.hid (Own.keeps Ho4.out (by decide) hk5)
            have HbA := Lib.hid (Hb4.out.trans (keeps_below hk5 hp1' (Nat.le_of_lt hp4)))
            have HrA : Hid (Rdr wA p [] true) := hrd5.rdr
            have Hn4 : Hid (runsTakeM b = none) := Hno.out (by rw [Hrr2.out, ht5])
            have Hin8 : Hid (∀ r ∈ x ++ [(unzig a, 0)], r.2 ≤ 4097) := Lib.hid fun r hr => by
              rw [List.mem_append, List.mem_singleton] at hr
              rcases hr with hr | rfl
              · exact Hin.out r hr
              · exact Nat.zero_le _
            clear hnu Ho4 Hb4 hrd5 hk5 ht5
            generalize unzig a = za at *
            have hba : Below wA.heap.size wA (wA.alloc (.cells #[.int .i64 za, .int .i64 0] 69)) := (Below.refl _ _).alloc (Nat.le_refl _) _
            have hnew := (Blk.new wA 69 #[.int .i64 za, .int .i64 0]).range
            have ho7 := Own.below HoA.out hba
            have hr7 := HrA.out.below hba
            have hb7 := HbA.out.trans (hba.mono HbA.out.size)
            have hz7 := hb7.size
            clear hba HoA HrA HbA
            go_wp2_with (first | (at_builtin; refine hold ?_) | (at_make; refine hold ?_))
            (with_reducible refine unhold ?_)
            refine wpList_apd rfl _ _ _ rfl Erun w.heap.size _ k _ (runc x) rfl ho7 _ 1 _ [.int .i64 za, .int .i64 0] rfl rfl (fun _ => ⟨_, _, rfl, hnew⟩) (by simp [Value.oneCell']) (k + 1) rfl _ rfl (by omega) (by omega) hz7 ?_
            intro A8 c8 w8 ho8 hg8 _
            have e8 : runc x ++ [.int .i64 za, .int .i64 0] = runc (x ++ [(za, (0 : Nat))]) := by rw [runc_append]; rfl
            rw [e8] at ho8
            have Hr8 : Hid (Rdr w8 p [] true) := hr7.keeps (by decide) (by decide) (ho7.apd_keeps hg8)
            have Ho8 := Lib.hid ho8
            have Hb8 := Lib.hid (hb7.grown hg8 hz7 ho7.row_ge)
            clear ho8 hg8 ho7 hr7 hb7 hnew e8 hz7
            go_wp2_with fail
            go_roundw
            case rel => exact ⟨m - 1, k + 1, c8, A8, x ++ [(za, (0 : Nat))], [], true, rfl, by go_num, by omega, (by (try simp only [List.length_nil]); omega), Hr8, Ho8, Hb8, (fun _ => Hn4.out), (fun h => by cases h), Hin8⟩
            case measure => simp only [intOf, Int.toNat_natCast]; omega
          · have HoA := Lib.hid (Own.keeps Ho4.out (by decide) hk5)
            have HbA := Lib.hid (Hb4.out.trans (keeps_below hk5 hp1' (Nat.le_of_lt hp4)))
            have HrA : Hid (Rdr wA p t9 false) := hrd5
            have htl := (takeNum_lt ht5).2
            obtain ⟨mm, hmm⟩ : ∃ mm, min c9 4097 = mm := ⟨_, rfl⟩
            have hmmI : min (c9 : Int) 4097 = (mm : Int) := by omega
            have hmm4 : mm ≤ 4097 := by omega
            have hmw : IntKind.i64.wrap (mm : Int) = (mm : Int) := by rw [IntKind.wrap_i64]; omega
            have Hrr3 : Hid (runsRd N u = (runsRd (m - 1) t9).map fun y => (x ++ [(unzig a, mm)] ++ y.1, y.2)) := by
              show _ = _
              rw [Hrr2.out, ht5]
              dsimp only
              rw [hmm, Option.map_map]
              congr 1
              funext y
              show (x ++ (_ :: y.1), y.2) = _
              rw [List.append_assoc]
              rfl
            have Hin8 : Hid (∀ r ∈ x ++ [(unzig a, mm)], r.2 ≤ 4097) := Lib.hid fun r hr => by
              rw [List.mem_append, List.mem_singleton] at hr
              rcases hr with hr | rfl
              · exact Hin.out r hr
              · exact hmm4
            clear hnu Ho4 Hb4 hrd5 hk5 ht5 hmm Hrr2
            generalize unzig a = za at *
            have hba : Below wA.heap.size wA (wA.alloc (.cells #[.int .i64 za, .int .i64 (mm : Int)] 69)) := (Below.refl _ _).alloc (Nat.le_refl _) _
            have hnew := (Blk.new wA 69 #[.int .i64 za, .int .i64 (mm : Int)]).range
            have ho7 := Own.below HoA.out hba
            have hr7 := HrA.out.below hba
            have hb7 := HbA.out.trans (hba.mono HbA.out.size)
            have hz7 := hb7.size
            clear hba HoA HrA HbA
            go_wp2_with (first | (at_builtin; refine hold ?_) | (at_make; refine hold ?_))
            (with_reducible refine unhold ?_)
            refine wpList_apd rfl _ _ _ rfl Erun w.heap.size _ k _ (runc x) rfl ho7 _ 1 _ [.int .i64 za, .int .i64 (mm : Int)] rfl rfl (fun _ => ⟨_, _, rfl, hnew⟩) (by simp [Value.oneCell']) (k + 1) rfl _ rfl (by omega) (by omega) hz7 ?_
            intro A8 c8 w8 ho8 hg8 _
            have e8 : runc x ++ [.int .i64 za, .int .i64 (mm : Int)] = runc (x ++ [(za, mm)]) := by rw [runc_append]; rfl
            rw [e8] at ho8
            have Hr8 : Hid (Rdr w8 p t9 false) := hr7.keeps (by decide) (by decide) (ho7.apd_keeps hg8)
            have Ho8 := Lib.hid ho8
            have Hb8 := Lib.hid (hb7.grown hg8 hz7 ho7.row_ge)
            clear ho8 hg8 ho7 hr7 hb7 hnew e8 hz7
            go_wp2_with fail
            go_roundw
            case rel => exact ⟨m - 1, k + 1, c8, A8, x ++ [(za, mm)], t9, false, rfl, by go_num, by omega, (by (try simp only [List.length_nil]); omega), Hr8, Ho8, Hb8, (fun h => by cases h), (fun _ => ⟨Htn.out, by omega, Hrr3.out⟩), Hin8⟩
            case measure => simp only [intOf, Int.toNat_natCast]; omega
end Go.Proofs.YtojppmnmhdgnnaaGreat
