/- Walks: the reference's reader of bytes: Zag, Int, End. Walks: the numbers that runs' bytes tell: the reference's. (Printed by gen_uab.py.) -/
import Derived.Test.YtojppmnmhdgnnaaGreatMStRd
import Derived.Test.YtojppmnmhdgnnaaGreatMTkUW
import Derived.Test.YtojppmnmhdgnnaaGreatMTkMN
import Derived.Test.YtojppmnmhdgnnaaGreatMUPQ
import Derived.Test.YtojppmnmhdgnnaaGreatMCoAB
import Derived.Test.YtojppmnmhdgnnaaGreatMTkRS
import Derived.Test.YtojppmnmhdgnnaaGreatMDwQ
namespace Go.Proofs.YtojppmnmhdgnnaaGreat
set_option linter.unusedVariables false
set_option linter.unusedSimpArgs false
open Go.RowKit

attribute [local go_sem ↓] Go.wp_at_zero Go.wp_at_succ

theorem rzag_any (m : Nat) (w : World) (hm : m < 18446744073709551616) : Calls Tryz.prog 73 #[.int .u64 (m : Nat)] w fun e w' => e = .returned (.int .i64 (unzig m)) ∧ w = w' := by
  have hu : Hid (unzig m = if m % 2 = 0 then ((m / 2 : Nat) : Int) else -((m / 2 : Nat) : Int) - 1) := rfl
  have d1 : (m : Int) / 2 = ((m / 2 : Nat) : Int) := by omega
  have d3 : (m : Int).tdiv 2 = ((m / 2 : Nat) : Int) := by rw [Int.tdiv_eq_ediv_of_nonneg (by omega)]; omega
  have d6 : IntKind.u64.wrap ((m / 2 : Nat) : Int) = ((m / 2 : Nat) : Int) := by rw [IntKind.wrap_u64]; omega
  have d2 : IntKind.i64.wrap ((m / 2 : Nat) : Int) = ((m / 2 : Nat) : Int) := by rw [IntKind.wrap_i64]; omega
  have d7 : IntKind.i64.wrap (-((m / 2 : Nat) : Int)) = -((m / 2 : Nat) : Int) := by rw [IntKind.wrap_i64]; omega
  have d8 : IntKind.i64.wrap (-((m / 2 : Nat) : Int) - 1) = -((m / 2 : Nat) : Int) - 1 := by rw [IntKind.wrap_i64]; omega
  have d9 : wrap64 (-((m / 2 : Nat) : Int) - 1) = -((m / 2 : Nat) : Int) - 1 := by unfold wrap64; omega
  have d10 : wrap64 (-((m / 2 : Nat) : Int)) = -((m / 2 : Nat) : Int) := by unfold wrap64; omega
  by_cases h2 : m % 2 = 0
  · have hu2 : Hid (unzig m = ((m / 2 : Nat) : Int)) := by show _ = _; rw [hu.out, if_pos h2]
    have d5 : (m : Int) % 2 = 0 := by omega
    have d4 : (m : Int).tmod 2 = 0 := by rw [Int.tmod_eq_emod_of_nonneg (by omega)]; omega
    generalize m / 2 = H at *
    clear hu h2
    go_enter Tryz.func73, Tryz.ntmps73
    go_wp2_with fail
    go_ret
    exact ⟨by rw [hu2.out]; rfl, rfl⟩
  · have h3 : m % 2 = 1 := by omega
    have hu2 : Hid (unzig m = -((m / 2 : Nat) : Int) - 1) := by show _ = _; rw [hu.out, if_neg h2]
    have d5 : (m : Int) % 2 = 1 := by omega
    have d4 : (m : Int).tmod 2 = 1 := by rw [Int.tmod_eq_emod_of_nonneg (by omega)]; omega
    generalize m / 2 = H at *
    clear hu h2 h3
    go_enter Tryz.func73, Tryz.ntmps73
    go_wp2_with fail
    go_ret
    exact ⟨by rw [hu2.out]; rfl, rfl⟩
/-- How Int ends. -/
def RIntOK (p : Nat) (l : List UInt8) (bad : Bool) (w : World) (e : Ending) (w' : World) : Prop :=
  ((takeNum l = none ∧ e = .returned (.int .i64 0) ∧ RRdrBad w' p) ∨ ∃ m u, takeNum l = some (m, u) ∧ e = .returned (.int .i64 (unzig m)) ∧ RRdr w' p u bad) ∧ Keeps RRdT p w w'
theorem rrdr_int (p : Nat) (l : List UInt8) (bad : Bool) (w : World) (h : RRdr w p l bad) : Calls Tryz.prog 47 #[.pointer (some ⟨p, 0, none⟩)] w fun e w' => RIntOK p l bad w e w' := by
  have hn := Lib.hid (rrdr_num p l bad w h)
  clear h
  go_enter Tryz.func47, Tryz.ntmps47
  go_wp2_with fail
  refine hn.out.mono ?_
  rintro e w1 ⟨⟨ht, rfl, hr⟩ | ⟨m, u, ht, rfl, hr⟩, hk⟩
  · have Ht := Lib.hid ht
    have hz := Lib.hid (rzag_any 0 w1 (by omega))
    clear ht
    go_wp2_with fail
    refine hz.out.mono ?_
    rintro e w2 ⟨rfl, rfl⟩
    go_wp2_with fail
    go_ret
    exact ⟨.inl ⟨Ht.out, rfl, hr⟩, hk⟩
  · have Ht := Lib.hid ht
    have hz := Lib.hid (rzag_any m w1 (takeNum_lt ht).1)
    clear ht
    go_wp2_with fail
    refine hz.out.mono ?_
    rintro e w2 ⟨rfl, rfl⟩
    go_wp2_with fail
    go_ret
    exact ⟨.inr ⟨m, u, Ht.out, rfl, hr⟩, hk⟩
theorem rrdr_end (p : Nat) (l : List UInt8) (bad : Bool) (w : World) (h : RRdr w p l bad) : Calls Tryz.prog 49 #[.pointer (some ⟨p, 0, none⟩)] w fun e w' => ((bad = false ∧ l = [] ∧ e = .returned (.int .i64 0)) ∨ (¬ (bad = false ∧ l = []) ∧ e = .returned (.int .i64 6))) ∧ ∃ q, w' = w.drewN q := by
  obtain ⟨A, n, c, h1, _, hl, _⟩ := h
  have k0 := h1.cell 0
  have k1 := h1.cell 1
  simp only [List.getElem?_cons_zero, List.getElem?_cons_succ] at k0 k1
  clear h1
  cases bad with
  | true =>
    go_enter Tryz.func49, Tryz.ntmps49
    go_wp2_with fail
    go_ret
    exact ⟨.inr ⟨(fun h => by cases h.1), rfl⟩, 0, rfl⟩
  | false =>
    by_cases h0 : n = 0
    · have hl0 : Hid (l = []) := List.eq_nil_of_length_eq_zero (hl.trans h0)
      subst h0
      clear hl
      go_enter Tryz.func49, Tryz.ntmps49
      go_wp2_with fail
      go_ret
      exact ⟨.inl ⟨by first | trivial | rfl, hl0.out, rfl⟩, 0, rfl⟩
    · have hl0 : Hid (¬ l = []) := fun e => h0 (by rw [← hl, e]; rfl)
      have hnI : (0 : Int) < (n : Int) := by omega
      have e1 : decide ((0 : Int) < (n : Int)) = true := decide_eq_true hnI
      clear hl h0
      go_enter Tryz.func49, Tryz.ntmps49
      go_wp2_with fail
      go_ret
      exact ⟨.inr ⟨fun h => hl0.out h.2, rfl⟩, 0, rfl⟩
end Go.Proofs.YtojppmnmhdgnnaaGreat
namespace Go.Proofs.YtojppmnmhdgnnaaGreat
set_option linter.unusedVariables false
set_option linter.unusedSimpArgs false
open Go.RowKit

attribute [local go_sem ↓] Go.wp_at_zero Go.wp_at_succ

/-- How the reference takes numbers from bytes: what was put so, or an error, and nothing. -/
def RDecOK (enc : List Int → Option (List UInt8)) (b : List UInt8) (w : World) (e : Ending) (w' : World) : Prop :=
  (((∀ m, NumL m → enc m ≠ some b) ∧ ∃ E : Int, E ≠ 0 ∧ e = .returned (.tuple #[.slice none 0 0, .int .i64 E])) ∨ ∃ l A d, NumL l ∧ enc l = some b ∧ e = .returned (.tuple #[.slice A l.length d, .int .i64 0]) ∧ Rd w' A (icl l)) ∧ Below w.heap.size w w'
theorem sumR_at {l : List (Int × Nat)} {j : Nat} (h : j < l.length) : sumR (l.take (j + 1)) = sumR (l.take j) + (l[j]).2 := by
  rw [List.take_succ_eq_append_getElem h, sumR_snoc]

set_option maxHeartbeats 8000000 in
set_option maxRecDepth 100000 in
theorem rflat_any (l : List (Int × Nat)) (L : Option Addr) (n c : Nat) (w : World) (hl : l.length = n) (hL : Rd w L (runc l)) (hn : n ≤ 1000000) (hm : ∀ r ∈ l, r.2 ≤ 4097) :
    Calls Tryz.prog 48 #[.slice L n c] w fun e w' => ((sumOk l = false ∧ ∃ E : Int, E ≠ 0 ∧ e = .returned (.tuple #[.slice none 0 0, .int .i64 E])) ∨ sumOk l = true ∧ ∃ A d, e = .returned (.tuple #[.slice A (flatR l).length d, .int .i64 0]) ∧ Rd w' A (icl (flatR l))) ∧ Below w.heap.size w w' := by
  have Hl := Lib.hid hl
  have HL := Lib.hid hL
  have Hm := Lib.hid hm
  clear hl hL hm
  go_enter Tryz.func48, Tryz.ntmps48
  go_wp2_with fail
  go_loop [4] (fun vi => ∃ j : Nat, vi = .int .i64 j ∧ j ≤ n ∧ Hid (∀ i (hi : i < l.length), i < j → 1 ≤ (l[i]).2)) (fun vi => n - (intOf vi).toNat)
  case atStart => exact ⟨0, rfl, by omega, fun i _ h => absurd h (Nat.not_lt_zero _)⟩
  case round =>
    obtain ⟨j, rfl, hj, Hal⟩ := hrel
    by_cases hjn : j < n
    · have hjI : (j : Int) < (n : Int) := by omega
      have hjI0 : (0 : Int) ≤ (j : Int) := by omega
      have hjl : j < l.length := by rw [Hl.out]; exact hjn
      obtain ⟨b, o, hLe, c0, c1⟩ := HL.out.run hjl
      subst hLe
      obtain ⟨k, hk⟩ : ∃ k, (l[j]).2 = k := ⟨_, rfl⟩
      rw [hk] at c1
      by_cases hk1 : k < 1
      · have hbad : Hid (sumOk l = false) := by
          show _ = _
          cases hs : sumOk l
          · rfl
          · have := ((sumOk_iff l).1 hs).1 _ (List.getElem_mem hjl)
            omega
        have hkI : (k : Int) < 1 := by omega
        clear hk c0 hjl
        go_wp2_with fail
        go_ret2
        exact ⟨.inl ⟨hbad.out, 1, by decide, rfl⟩, Below.refl _ _⟩
      · have hkI : ¬ (k : Int) < 1 := by omega
        have hal : Hid (∀ i (hi : i < l.length), i < j + 1 → 1 ≤ (l[i]).2) := fun i hi hij => by
          by_cases e : i < j
          · exact Hal.out i hi e
          · obtain rfl : i = j := by omega
            omega
        clear hk c0 hjl Hal
        go_wp2_with fail
        go_round
        case rel => exact ⟨j + 1, by go_num, by omega, hal⟩
        case measure => simp [intOf]; omega
    · obtain rfl : j = n := by omega
      have hjI : ¬ (j : Int) < (j : Int) := by omega
      have H1 : Hid (∀ r ∈ l, 1 ≤ r.2) := Lib.hid fun r hr => by
        obtain ⟨i, hi, rfl⟩ := List.mem_iff_getElem.1 hr
        exact Hal.out i hi (by rw [← Hl.out]; exact hi)
      clear Hal
      go_wp2_with fail
      go_loopw [5, 6] (fun vo vi wr => ∃ (i m : Nat) (A : Option Addr) (d : Nat), vo = .slice A m d ∧ vi = .int .i64 i ∧ i ≤ j ∧ m ≤ 4096 ∧ Hid (m = sumR (l.take i)) ∧ Hid (Own wr w.heap.size 3 1 A m d (icl (flatR (l.take i)))) ∧ Hid (Below w.heap.size w wr)) (fun _ vi _ => j - (intOf vi).toNat)
      case atStart => exact ⟨0, 0, none, 0, rfl, rfl, by omega, by omega, rfl, Own.nil _ _ _ _, Below.refl _ _⟩
      case round =>
        obtain ⟨i, m, A, d, rfl, rfl, hi, hm, Hm0, Ho, Hb⟩ := hrel
        by_cases hin : i < j
        · have hiI : (i : Int) < (j : Int) := by omega
          have hiI0 : (0 : Int) ≤ (i : Int) := by omega
          have hil : i < l.length := by rw [Hl.out]; exact hin
          obtain ⟨b, o, hLe, c0, c1⟩ := HL.out.run hil
          have hmk := Hm.out _ (List.getElem_mem hil)
          have hs := sumR_at hil
          have hle := sumR_take_le l (i + 1)
          rw [← Hm0.out] at hs
          have Hfe : Hid (flatR (l.take i) ++ List.replicate (l[i]).2 (l[i]).1 = flatR (l.take (i + 1))) := by
            show _ = _
            rw [List.take_succ_eq_append_getElem hil, flatR_app]
            congr 1
            show _ = List.flatMap _ [_]
            simp
          subst hLe
          generalize l[i] = x at *
          obtain ⟨x, k⟩ := x
          dsimp only at c0 c1 hmk hs Hfe
          rw [hs] at hle
          have Hs := Lib.hid hs
          have c1w := cell_keep Hb.out c1
          have hwm : IntKind.i64.wrap (4096 - (m : Int)) = 4096 - (m : Int) := by rw [IntKind.wrap_i64]; omega
          have hwm2 : wrap64 (4096 - (m : Int)) = 4096 - (m : Int) := by unfold wrap64; omega
          clear hs hil
          by_cases hk : 4096 - (m : Int) < (k : Int)
          · have Hbad : Hid (sumOk l = false) := by
              show _ = _
              cases h9 : sumOk l
              · rfl
              · have := ((sumOk_iff l).1 h9).2
                omega
            clear hle
            go_wp2_with fail
            go_ret2
            exact ⟨.inl ⟨Hbad.out, 3, by decide, rfl⟩, Hb.out⟩
          · have hmk2 : m + k ≤ 4096 := by omega
            clear hle hwm hwm2
            generalize wr = wo at *
            go_wp2_with fail
            go_loopw [5, 7] (fun vo vk wr => ∃ (q : Nat) (A : Option Addr) (d : Nat), vo = .slice A (m + q) d ∧ vk = .int .i64 q ∧ q ≤ k ∧ Hid (Own wr w.heap.size 3 1 A (m + q) d (icl (flatR (l.take i) ++ List.replicate q x))) ∧ Hid (Below w.heap.size w wr)) (fun _ vk _ => k - (intOf vk).toNat)
            case atStart => exact ⟨0, A, d, rfl, rfl, by omega, (by show Own _ _ _ _ _ _ _ _; rw [List.replicate_zero, List.append_nil]; exact Ho.out), Hb⟩
            case round =>
              obtain ⟨q, A9, d9, rfl, rfl, hq, Hoq, Hbq⟩ := hrel
              have d1 := cell_keep Hbq.out c1
              by_cases hqk : q < k
              · have hqI : (q : Int) < (k : Int) := by omega
                have d0 := cell_keep Hbq.out c0
                have hbX : Below wr.heap.size wr (wr.alloc (.cells #[.int .i64 x] 3)) := (Below.refl _ _).alloc (Nat.le_refl _) _
                have ho3 := Own.below Hoq.out hbX
                have hb3 := Hbq.out.trans (hbX.mono Hbq.out.size)
                have hz3 := hb3.size
                have hnew := (Blk.new wr 3 #[.int .i64 x]).range
                have Hys : Hid (icl (flatR (l.take i) ++ List.replicate q x) ++ [.int .i64 x] = icl (flatR (l.take i) ++ List.replicate (q + 1) x)) := by
                  show _ = _
                  rw [List.replicate_succ', ← List.append_assoc]
                  exact (icl_append _ [x]).symm
                clear hbX Hoq Hbq
                go_wp2_with (first | (at_builtin; refine hold ?_) | (at_make; refine hold ?_))
                (with_reducible refine unhold ?_)
                refine wpList_apd rfl _ _ _ rfl Eint' w.heap.size _ (m + q) _ _ rfl ho3 _ 1 _ [.int .i64 x] rfl rfl (fun _ => ⟨_, _, rfl, hnew⟩) (by simp [Value.oneCell']) (m + q + 1) rfl _ Hys.out (by omega) (by omega) hz3 ?_
                intro A5 d5 w9 ho9 hg9 _
                have Hb9 := Lib.hid (hb3.grown hg9 hz3 ho3.row_ge)
                have Ho9 := Lib.hid ho9
                clear ho9 hg9 ho3 hb3 hnew hz3
                go_wp2_with fail
                go_roundw
                case rel => exact ⟨q + 1, A5, d5, by rfl, by go_num, by omega, Ho9, Hb9⟩
                case measure => simp [intOf]; omega
              · obtain rfl : q = k := by omega
                have hqI : ¬ (q : Int) < (q : Int) := by omega
                have Ho9 : Hid (Own wr w.heap.size 3 1 A9 (m + q) d9 (icl (flatR (l.take (i + 1))))) := by
                  show Own _ _ _ _ _ _ _ _
                  rw [← Hfe.out]
                  exact Hoq.out
                have Hs2 : Hid (m + q = sumR (l.take (i + 1))) := Hs.out.symm
                go_wp2_with fail
                go_roundw
                case rel => exact ⟨i + 1, m + q, A9, d9, rfl, by go_num, by omega, by omega, Hs2, Ho9, Hbq⟩
                case measure => simp [intOf]; omega
        · obtain rfl : i = j := by omega
          have hiI : ¬ (i : Int) < (i : Int) := by omega
          have htk : l.take i = l := List.take_of_length_le (by rw [Hl.out]; exact Nat.le_refl _)
          have Hml : Hid ((flatR l).length = m) := by
            show _ = _
            rw [Hm0.out, htk, flatR_len]
          have HrF : Hid (Rd wr A (icl (flatR l))) := by
            have := Ho.out.rd
            rwa [htk] at this
          have Hgood : Hid (sumOk l = true) := by
            show _ = _
            refine (sumOk_iff l).2 ⟨H1.out, ?_⟩
            have := Hm0.out
            rw [htk] at this
            omega
          clear htk
          go_wp2_with fail
          go_ret2
          exact ⟨.inr ⟨Hgood.out, A, ⟨d, by rw [Hml.out]; rfl⟩, HrF.out⟩, Hb.out⟩


/-- The reference's reader over a copy of bytes. -/
theorem rrdr_made {w w1 : World} {A1 : Option Addr} {n c1 : Nat} {b : List UInt8} (ho1 : Own w1 w.heap.size 5 1 A1 n c1 (Bs b)) (hl : b.length = n) :
    RRdr (w1.alloc (.cells #[.slice A1 n c1, .bool false] 51)) w1.heap.size b false := by
  have hcap := Own.cap ho1
  have hbB : Below w1.heap.size w1 (w1.alloc (.cells #[.slice A1 n c1, .bool false] 51)) := (Below.refl _ _).alloc (Nat.le_refl _) _
  refine ⟨A1, n, c1, Blk.new w1 _ _, (OwnX.of_own (Own.below ho1 hbB)).lower (Nat.zero_le _), hl, hcap.1, by have := hcap.2; unfold maxLen at this; omega, ?_⟩
  rcases Own.lies ho1 with ⟨h, _, h', _⟩ | ⟨g, cur, h, _⟩
  · exact .inl ⟨h, h'⟩
  · exact .inr ⟨g, 0, h⟩

set_option maxHeartbeats 16000000 in
set_option maxRecDepth 100000 in
theorem rruntake_any (b : List UInt8) (n c : Nat) (A : Option Addr) (w : World) (hl : b.length = n) (hr : Rd w A (Bs b)) (hn : n ≤ 500000) :
    Calls Tryz.prog 22 #[.slice A n c] w fun e w' => RDecOK (fun l => some (runsB l)) b w e w' := by
  have Hl := Lib.hid hl
  have Hr := Lib.hid hr
  have ho9 : Own (w.alloc (.cells #[] 5)) w.heap.size 5 1 (some ⟨w.heap.size, 0, none⟩) 0 0 [] := World.ownsRow_made w #[] 0 (Nat.le_refl _) (by unfold maxLen; omega) rfl
  have hb9 : Below w.heap.size w (w.alloc (.cells #[] 5)) := (Below.refl _ _).alloc (Nat.le_refl _) _
  clear hl hr
  go_enter Tryz.func22, Tryz.ntmps22
  go_wp2_with (first | (at_builtin; refine hold ?_) | (at_make; refine hold ?_))
  (with_reducible refine unhold ?_)
  refine wpList_apd rfl _ _ _ rfl E8 w.heap.size _ 0 _ [] rfl ho9 _ n _ (Bs b) rfl (by rw [List.length_map, Hl.out, Nat.mul_one]) (Hr.out.below hb9) (Bs_one b) n (Nat.zero_add _) (Bs b) rfl (by omega) (by omega) hb9.size ?_
  intro A1 c1 w1 ho1 hg1 _
  have hb1 : Below w.heap.size w w1 := hb9.grown hg1 hb9.size ho9.row_ge
  have hz1 := hb1.size
  have hrd1 := rrdr_made ho1 Hl.out
  have hbB : Below w1.heap.size w1 (w1.alloc (.cells #[.slice A1 n c1, .bool false] 51)) := (Below.refl _ _).alloc (Nat.le_refl _) _
  have Hb1 := Lib.hid (hb1.trans (hbB.mono hz1))
  have hpz := hrd1.lt
  have hnu := Lib.hid (rrdr_num w1.heap.size b false _ hrd1)
  clear hb1 hbB hrd1 ho1 hb9 ho9 hg1
  go_wp2_with fail
  refine hnu.out.mono ?_
  clear hnu
  generalize (w1.alloc (.cells #[.slice A1 n c1, .bool false] 51)) = wn at *
  generalize w1.heap.size = p at *
  intro e w2 hnum
  -- both ways of the first number in one form
  obtain ⟨N, u, bad, hN64, rfl, hrd, hrc, hsz, hk⟩ : ∃ (N : Nat) (u : List UInt8) (bad : Bool), N < 18446744073709551616 ∧ e = .returned (.int .u64 (N : Nat)) ∧ RRdr w2 p u bad ∧ RunC b [] N u bad ∧ (bad = false → 0 + u.length ≤ n) ∧ Keeps RRdT p wn w2 := by
    obtain ⟨⟨ht, rfl, hrd⟩ | ⟨m, u, ht, rfl, hrd⟩, hk⟩ := hnum
    · exact ⟨0, [], true, by decide, rfl, hrd.rdr, runC_none ht _ _ _ _, (fun h => by cases h), hk⟩
    · exact ⟨m, u, false, (takeNum_lt ht).1, rfl, hrd, runC_some ht, (fun _ => by have := (takeNum_lt ht).2; rw [Hl.out] at this; omega), hk⟩
  have Hb2 := Lib.hid (Hb1.out.trans (keeps_below hk hz1 (Nat.le_of_lt hpz)))
  have Hrd2 := Lib.hid hrd
  have Hrc2 := Lib.hid hrc
  have Hsz2 := Lib.hid hsz
  clear hnum hrd hrc hsz hk hpz
  go_wp2_with fail
  go_loopw [5, 6] (fun vx vn wr => ∃ (m k cc : Nat) (A' : Option Addr) (x : List (Int × Nat)) (pc : List UInt8) (bad : Bool), vn = .int .u64 (m : Nat) ∧ vx = .slice A' k cc ∧ m < 18446744073709551616 ∧ k ≤ n + 1 ∧ Hid (bad = false → k + pc.length ≤ n) ∧ Hid (x.length = k) ∧ Hid (RRdr wr p pc bad) ∧ Hid (Own wr w.heap.size 69 2 A' k cc (runc x)) ∧ Hid (Below w.heap.size w wr) ∧ Hid (∀ r ∈ x, (-9223372036854775808 ≤ r.1 ∧ r.1 ≤ 9223372036854775807) ∧ r.2 ≤ 4096) ∧ Hid (RunC b x m pc bad)) (fun _ vn _ => (intOf vn).toNat)
  case atStart => exact ⟨N, 0, 0, none, [], u, bad, rfl, rfl, hN64, by omega, Hsz2, rfl, Hrd2, Own.nil _ _ _ _, Hb2, (fun r hr => by cases hr), Hrc2⟩
  case round =>
    clear Hrd2 Hrc2 Hsz2 Hb2
    obtain ⟨m, k, cc, A', x, pc, bad, rfl, rfl, hm64, hkn, Hsz, Hxl, Hrd, Ho, Hb, Hin, Hrc⟩ := hrel
    have f1 : wr.cell? ⟨p, 1, none⟩ = some (.bool bad) := by
      obtain ⟨_, _, _, hB, _⟩ := Hrd.out
      have := hB.cell 1
      simpa only [List.getElem?_cons_zero, List.getElem?_cons_succ] using this
    have HnoC : Hid (¬ (0 < m ∧ bad = false) → ∀ l, NumL l → runsB l = b → bad = false ∧ pc = [] ∧ x = runsM l) := Lib.hid fun h l hl' e' => by
      obtain ⟨h1, -⟩ := Hrc.out l hl' e'
      obtain rfl : m = 0 := by
        by_cases h2 : 0 < m
        · exact absurd ⟨h2, h1⟩ h
        · omega
      exact Hrc.out.done hl' e'
    have hend := Lib.hid (fun w' (hb' : Below wr.heap.size wr w') => rrdr_end p pc bad w' (Hrd.out.below hb'))
    have hfl := Lib.hid (rflat_any x A' k cc wr Hxl.out Ho.out.rd (by omega) (fun r hr => by have := (Hin.out r hr).2; omega))
    by_cases hm0 : 0 < m
    · have hmI : (0 : Int) < (m : Int) := by omega
      have e1 : decide ((0 : Int) < (m : Int)) = true := decide_eq_true hmI
      have hmw : IntKind.u64.wrap ((m : Int) - 1) = ((m - 1 : Nat) : Int) := by rw [IntKind.wrap_u64]; omega
      cases bad
      · have hin := Lib.hid (rrdr_int p pc false wr Hrd.out)
        have hpr := Hrd.out.lt
        have hsz := Hsz.out rfl
        clear Hrd Hsz HnoC hend hfl
        go_wp2_with fail
        refine hin.out.mono ?_
        clear hin
        intro e w4 hint
        obtain ⟨a, v, bad4, rfl, hrd4, hai, hP, hk4⟩ : ∃ (a : Int) (v : List UInt8) (bad4 : Bool), e = .returned (.int .i64 a) ∧ RRdr w4 p v bad4 ∧ (-9223372036854775808 ≤ a ∧ a ≤ 9223372036854775807) ∧ ((takeNum pc = none ∧ bad4 = true ∧ v = []) ∨ ∃ a0, takeNum pc = some (a0, v) ∧ a = unzig a0 ∧ bad4 = false ∧ v.length < pc.length) ∧ Keeps RRdT p wr w4 := by
          obtain ⟨⟨ht, rfl, hrd⟩ | ⟨m', u', ht, rfl, hrd⟩, hk⟩ := hint
          · exact ⟨0, [], true, rfl, hrd.rdr, ⟨by decide, by decide⟩, .inl ⟨ht, rfl, rfl⟩, hk⟩
          · exact ⟨unzig m', u', false, rfl, hrd, unzig_in (takeNum_lt ht).1, .inr ⟨m', ht, rfl, rfl, (takeNum_lt ht).2⟩, hk⟩
        have Ho4 := Own.keeps Ho.out (by decide) hk4
        have Hb4 := Hb.out.trans (keeps_below hk4 hz1 (Nat.le_of_lt hpr))
        have hbB4 : Below w4.heap.size w4 (w4.alloc (.cells #[.int .i64 a, .int .i64 0] 69)) := (Below.refl _ _).alloc (Nat.le_refl _) _
        have hbox := Blk.new w4 69 #[.int .i64 a, .int .i64 0]
        have hp4 := hrd4.lt
        have hnu4 := Lib.hid (rrdr_num p v bad4 _ (hrd4.below hbB4))
        have HP := Lib.hid hP
        have Hbox := Lib.hid hbox
        have HbB4 := Lib.hid hbB4
        have HO4 := Lib.hid Ho4
        have HB4 := Lib.hid Hb4
        clear hint hP hrd4 hk4 hbox hbB4 Ho4 Hb4 Ho Hb
        go_wp2_with fail
        refine hnu4.out.mono ?_
        clear hnu4
        intro e w5 hnum5
        obtain ⟨cN, t, bad5, rfl, hrd5, hQ1, hQ2, hk5⟩ : ∃ (cN : Nat) (t : List UInt8) (bad5 : Bool), e = .returned (.int .u64 (cN : Nat)) ∧ RRdr w5 p t bad5 ∧ (4096 < cN → ∀ l, NumL l → runsB l ≠ b) ∧ (RunC b (x ++ [(a, cN)]) (m - 1) t bad5 ∧ (bad5 = false → k + 1 + t.length ≤ n)) ∧ Keeps RRdT p (w4.alloc (.cells #[.int .i64 a, .int .i64 0] 69)) w5 := by
          obtain ⟨⟨ht5, rfl, hrd⟩ | ⟨c', t, ht5, rfl, hrd⟩, hk⟩ := hnum5
          · refine ⟨0, [], true, rfl, hrd.rdr, (fun h => by omega), ⟨?_, (fun h => by cases h)⟩, hk⟩
            rcases HP.out with ⟨ht, -, -⟩ | ⟨a0, ht, -, -, -⟩
            · exact Hrc.out.no1 hm0 ht
            · exact Hrc.out.no2 hm0 ht ht5
          · rcases HP.out with ⟨ht, hb4, hv⟩ | ⟨a0, ht, ha0, hb4, hvl⟩
            · rw [hv] at ht5
              cases ht5
            · refine ⟨c', t, bad4, rfl, hrd, (fun h => Hrc.out.no3 hm0 ht ht5 h), ⟨?_, (fun _ => ?_)⟩, hk⟩
              · rw [ha0, hb4]
                exact Hrc.out.next hm0 ht ht5
              · have := (takeNum_lt ht5).2
                omega
        have box5 := Hbox.out.keeps (by decide) hk5
        have K1 : Keeps RRdT p w4 w5 := (Keeps.of_below HbB4.out).trans hk5
        by_cases hc4 : 4096 < cN
        · have Hno := Lib.hid (hQ1 hc4)
          have hcI : (4096 : Int) < (cN : Int) := by omega
          have HbE := Lib.hid (HB4.out.trans (keeps_below K1 hz1 (Nat.le_of_lt hp4)))
          clear hnum5 hrd5 hQ1 hQ2 hk5 box5 K1 HP Hrc Hin Hxl HO4 HB4
          go_wp2_with fail
          go_ret2
          exact ⟨.inl ⟨fun l hl' e' => Hno.out l hl' (Option.some.inj e'), 6, by decide, rfl⟩, HbE.out⟩
        · have hcI : ¬ (4096 : Int) < (cN : Int) := by omega
          have hcw : IntKind.i64.wrap (cN : Int) = (cN : Int) := by rw [IntKind.wrap_i64]; omega
          have b0 := box5.cell 0
          have b1 := box5.cell 1
          have fz := box5.frozen 1
          simp only [List.getElem?_cons_zero, List.getElem?_cons_succ] at b0 b1
          have box6 := box5.set_ 1 (.int .i64 (cN : Int))
          simp only [List.set_cons_zero, List.set_cons_succ] at box6
          have K2 : Keeps [69] w4.heap.size w5 (w5.setCell ⟨w4.heap.size, 1, none⟩ (.int .i64 (cN : Int))) := (Keeps.refl _ _ _).setCell box5 (by simp) (Nat.le_refl _) _
          have K3 := K1.then_young K2 (Nat.le_refl _)
          have ho6 := Own.keeps HO4.out (by decide) K3
          have hb6 := HB4.out.trans (keeps_below K3 hz1 (Nat.le_of_lt hp4))
          have hr6 := hrd5.keeps (by decide) (by decide) K2
          have g0 := box6.cell 0
          have g1 := box6.cell 1
          simp only [List.getElem?_cons_zero, List.getElem?_cons_succ] at g0 g1
          have Hin8 : Hid (∀ r ∈ x ++ [(a, cN)], (-9223372036854775808 ≤ r.1 ∧ r.1 ≤ 9223372036854775807) ∧ r.2 ≤ 4096) := Lib.hid fun r hr => by
            rw [List.mem_append, List.mem_singleton] at hr
            rcases hr with hr | rfl
            · exact Hin.out r hr
            · exact ⟨hai, by omega⟩
          have Hxl8 : Hid ((x ++ [(a, cN)]).length = k + 1) := by show _ = _; rw [List.length_append, Hxl.out]; rfl
          have Hrc8 := Lib.hid hQ2.1
          have Hsz8 := Lib.hid hQ2.2
          have Ho6 := Lib.hid ho6
          have Hb6 := Lib.hid hb6
          have Hr6 := Lib.hid hr6
          clear hnum5 hrd5 hQ1 hQ2 hk5 K1 K2 K3 HP Hrc Hin Hxl HO4 HB4 ho6 hb6 hr6 box5 box6 Hbox HbB4
          have hbX : Below (w5.setCell ⟨w4.heap.size, 1, none⟩ (.int .i64 (cN : Int))).heap.size (w5.setCell ⟨w4.heap.size, 1, none⟩ (.int .i64 (cN : Int))) ((w5.setCell ⟨w4.heap.size, 1, none⟩ (.int .i64 (cN : Int))).alloc (.cells #[.int .i64 a, .int .i64 (cN : Int)] 69)) := (Below.refl _ _).alloc (Nat.le_refl _) _
          have ho7 := Own.below Ho6.out hbX
          have hr7 := Hr6.out.below hbX
          have hb7 := Hb6.out.trans (hbX.mono Hb6.out.size)
          have hz7 := hb7.size
          have hnew := (Blk.new (w5.setCell ⟨w4.heap.size, 1, none⟩ (.int .i64 (cN : Int))) 69 #[.int .i64 a, .int .i64 (cN : Int)]).range
          rw [show (w5.setCell ⟨w4.heap.size, 1, none⟩ (.int .i64 (cN : Int))).heap.size = w5.heap.size by simp [World.setCell]] at hnew
          clear hbX Ho6 Hb6 Hr6
          go_wp2_with (first | (at_builtin; refine hold ?_) | (at_make; refine hold ?_))
          (with_reducible refine unhold ?_)
          refine wpList_apd rfl _ _ _ rfl Erun w.heap.size _ k _ (runc x) rfl ho7 _ 1 _ [.int .i64 a, .int .i64 (cN : Int)] rfl rfl (fun _ => ⟨_, _, rfl, hnew⟩) (by simp [Value.oneCell']) (k + 1) rfl _ (by rw [runc_append]; rfl : runc x ++ [.int .i64 a, .int .i64 (cN : Int)] = runc (x ++ [(a, cN)])) (by omega) (by omega) hz7 ?_
          intro A8 c8 w8 ho8 hg8 _
          have Hr8 : Hid (RRdr w8 p t bad5) := hr7.keeps (by decide) (by decide) (ho7.apd_keeps hg8)
          have Ho8 := Lib.hid ho8
          have Hb8 := Lib.hid (hb7.grown hg8 hz7 ho7.row_ge)
          clear ho8 hg8 ho7 hr7 hb7 hnew hz7
          go_wp2_with fail
          go_roundw
          case rel => exact ⟨m - 1, k + 1, c8, A8, x ++ [(a, cN)], t, bad5, by go_num, rfl, by omega, by omega, Hsz8, Hxl8, Hr8, Ho8, Hb8, Hin8, Hrc8⟩
          case measure => simp only [intOf, Int.toNat_natCast]; omega
      · have HnoD := Lib.hid (HnoC.out (fun h => by cases h.2))
        clear HnoC Hsz Hrc
        go_wp2_with fail
        refine hfl.out.mono ?_
        rintro e w5 ⟨⟨hsk, E, hE, rfl⟩ | ⟨hsk, FA, fd, rfl, hrF⟩, hb5⟩
        · have Hno : Hid (∀ l, NumL l → some (runsB l) ≠ some b) := Lib.hid fun l hl' e' => by
            have h9 := (HnoD.out l hl' (Option.some.inj e')).2.2
            rw [h9, runs_good hl'] at hsk
            cases hsk
          have hen := Lib.hid (hend.out w5 hb5)
          have Hb5 := Lib.hid (Hb.out.trans (hb5.mono Hb.out.size))
          have hE1 : (E == 0) = false := by rw [beq_eq_false_iff_ne]; exact hE
          have hE2 : (E != 0) = true := by simpa using hE
          clear hfl hsk hb5 hend HnoD
          go_wp2_with fail
          refine hen.out.mono ?_
          rintro e w6 ⟨⟨-, -, rfl⟩ | ⟨-, rfl⟩, q6, rfl⟩
          · go_wp2_with fail
            go_ret2
            exact ⟨.inl ⟨Hno.out, 6, by decide, rfl⟩, (by first | exact Hb5.out | exact below_drewN' Hb5.out _)⟩
          · go_wp2_with fail
            go_ret2
            exact ⟨.inl ⟨Hno.out, 6, by decide, rfl⟩, (by first | exact Hb5.out | exact below_drewN' Hb5.out _)⟩
        · have hFl : NumL (flatR x) := ⟨by rw [flatR_len]; exact ((sumOk_iff x).1 hsk).2, flatR_in fun r hr => (Hin.out r hr).1⟩
          have HFl := Lib.hid hFl
          have hen := Lib.hid (hend.out w5 hb5)
          have hb5' := Hb.out.trans (hb5.mono Hb.out.size)
          have Hb5 := Lib.hid hb5'
          obtain ⟨fn, hfn⟩ : ∃ fn, (flatR x).length = fn := ⟨_, rfl⟩
          have hpu := Lib.hid (fun q => rrunsput_any (flatR x) fn fd FA (w5.drewN q) hfn (hrF.drewN q) (by rw [← hfn]; exact hFl.1) hFl.2)
          have HrF := Lib.hid hrF
          have Hfn := Lib.hid hfn
          rw [hfn]
          clear hfl hsk hb5 hb5' hend hFl hfn hrF
          go_wp2_with fail
          refine hen.out.mono ?_
          rintro e w6 ⟨⟨hbf, hpc, rfl⟩ | ⟨hbp, rfl⟩, q6, rfl⟩
          · cases hbf
          · have Hno : Hid (∀ l, NumL l → some (runsB l) ≠ some b) := Lib.hid fun l hl' e' => by
              have h9 := HnoD.out l hl' (Option.some.inj e')
              exact hbp ⟨h9.1, h9.2.1⟩
            clear hen hbp HnoD hpu
            go_wp2_with fail
            go_ret2
            exact ⟨.inl ⟨Hno.out, 6, by decide, rfl⟩, (by first | exact Hb5.out | exact below_drewN' Hb5.out _)⟩
    · have HnoD := Lib.hid (HnoC.out (fun h => hm0 h.1))
      have hmI : ¬ (0 : Int) < (m : Int) := by omega
      obtain rfl : m = 0 := by omega
      clear HnoC Hsz Hrc
      go_wp2_with fail
      refine hfl.out.mono ?_
      rintro e w5 ⟨⟨hsk, E, hE, rfl⟩ | ⟨hsk, FA, fd, rfl, hrF⟩, hb5⟩
      · have Hno : Hid (∀ l, NumL l → some (runsB l) ≠ some b) := Lib.hid fun l hl' e' => by
          have h9 := (HnoD.out l hl' (Option.some.inj e')).2.2
          rw [h9, runs_good hl'] at hsk
          cases hsk
        have hen := Lib.hid (hend.out w5 hb5)
        have Hb5 := Lib.hid (Hb.out.trans (hb5.mono Hb.out.size))
        have hE1 : (E == 0) = false := by rw [beq_eq_false_iff_ne]; exact hE
        have hE2 : (E != 0) = true := by simpa using hE
        clear hfl hsk hb5 hend HnoD
        go_wp2_with fail
        refine hen.out.mono ?_
        rintro e w6 ⟨⟨-, -, rfl⟩ | ⟨-, rfl⟩, q6, rfl⟩
        · go_wp2_with fail
          go_ret2
          exact ⟨.inl ⟨Hno.out, 6, by decide, rfl⟩, (by first | exact Hb5.out | exact below_drewN' Hb5.out _)⟩
        · go_wp2_with fail
          go_ret2
          exact ⟨.inl ⟨Hno.out, 6, by decide, rfl⟩, (by first | exact Hb5.out | exact below_drewN' Hb5.out _)⟩
      · have hFl : NumL (flatR x) := ⟨by rw [flatR_len]; exact ((sumOk_iff x).1 hsk).2, flatR_in fun r hr => (Hin.out r hr).1⟩
        have HFl := Lib.hid hFl
        have hen := Lib.hid (hend.out w5 hb5)
        have hb5' := Hb.out.trans (hb5.mono Hb.out.size)
        have Hb5 := Lib.hid hb5'
        obtain ⟨fn, hfn⟩ : ∃ fn, (flatR x).length = fn := ⟨_, rfl⟩
        have hpu := Lib.hid (fun q => rrunsput_any (flatR x) fn fd FA (w5.drewN q) hfn (hrF.drewN q) (by rw [← hfn]; exact hFl.1) hFl.2)
        have HrF := Lib.hid hrF
        have Hfn := Lib.hid hfn
        rw [hfn]
        clear hfl hsk hb5 hb5' hend hFl hfn hrF
        go_wp2_with fail
        refine hen.out.mono ?_
        rintro e w6 ⟨⟨hbf, hpc, rfl⟩ | ⟨hbp, rfl⟩, q6, rfl⟩
        · clear hen
          go_wp2_with fail
          refine (hpu.out q6).mono ?_
          rintro e w7 ⟨⟨A6, c6, rfl, ho6⟩, hb6⟩
          have hb6' := (below_drewN' Hb5.out q6).trans (hb6.mono Hb5.out.size)
          have Hb6 := Lib.hid hb6'
          obtain ⟨z, hz⟩ : ∃ z, runsB (flatR x) = z := ⟨_, rfl⟩
          rw [hz] at ho6 ⊢
          have hcv1 := fun d => run_str (w7.drewN d) A6 z z.length c6 rfl (ho6.rd.drewN d)
          have hcv1' := run_str w7 A6 z z.length c6 rfl ho6.rd
          have hcv2 := fun d => run_str (w7.drewN d) A b n c Hl.out ((Hr.out.below hb6').drewN d)
          have hcv2' := run_str w7 A b n c Hl.out (Hr.out.below hb6')
          have hcq := St8_cmp z b
          have HoX := Lib.hid ((HrF.out.drewN q6).below hb6)
          obtain ⟨ZL, hZL⟩ : ∃ ZL, z.length = ZL := ⟨_, rfl⟩
          rw [hZL] at hcv1 hcv1'
          rw [hZL]
          clear hpu ho6 hb6 hb6' hZL
          by_cases heq : z = b
          · rw [decide_eq_true heq] at hcq
            have Hyes : Hid (some (runsB (flatR x)) = some b) := by show _ = _; rw [hz, heq]
            clear heq hz HnoD
            go_wp2_with fail
            try (go_quiet (fail); go_wp2_with fail)
            go_ret2
            refine ⟨.inr ⟨flatR x, FA, fd, HFl.out, Hyes.out, ?_, (by first | exact HoX.out | exact HoX.out.drewN _)⟩, (by first | exact Hb6.out | exact below_drewN' Hb6.out _)⟩
            rw [Hfn.out]
            rfl
          · rw [decide_eq_false heq] at hcq
            have hcn1 : (!((St8 z).toList == (St8 b).toList)) = true := by rw [hcq]; rfl
            have hcn2 : ((St8 z).toList != (St8 b).toList) = true := by rw [bne, hcq]; rfl
            have Hno : Hid (∀ l, NumL l → some (runsB l) ≠ some b) := Lib.hid fun l hl' e' => by
              have h9 := (HnoD.out l hl' (Option.some.inj e')).2.2
              rw [h9, flat_runs, Option.some.inj e'] at hz
              exact heq hz.symm
            clear heq hz HnoD
            go_wp2_with fail
            try (go_quiet (fail); go_wp2_with fail)
            go_ret2
            exact ⟨.inl ⟨Hno.out, 6, by decide, rfl⟩, (by first | exact Hb6.out | exact below_drewN' Hb6.out _)⟩
        · have Hno : Hid (∀ l, NumL l → some (runsB l) ≠ some b) := Lib.hid fun l hl' e' => by
            have h9 := HnoD.out l hl' (Option.some.inj e')
            exact hbp ⟨h9.1, h9.2.1⟩
          clear hen hbp HnoD hpu
          go_wp2_with fail
          go_ret2
          exact ⟨.inl ⟨Hno.out, 6, by decide, rfl⟩, (by first | exact Hb5.out | exact below_drewN' Hb5.out _)⟩
end Go.Proofs.YtojppmnmhdgnnaaGreat
