/- Walks: numbers bit by bit, taken: the reference's. Walks: the numbers that steps' bytes tell: the reference's. (Printed by gen_uae.py.) Walks: numbers by how much they are more than the least, taken: the reference's. (Printed by gen_uad.py.) -/
import Derived.Test.YtojppmnmhdgnnaaGreatMUAB
import Derived.Test.YtojppmnmhdgnnaaGreatMCoFG
import Derived.Test.YtojppmnmhdgnnaaGreatMTkUW
import Derived.Test.YtojppmnmhdgnnaaGreatMCoDE
import Derived.Test.YtojppmnmhdgnnaaGreatMCoHI
namespace Go.Proofs.YtojppmnmhdgnnaaGreat
set_option linter.unusedVariables false
set_option linter.unusedSimpArgs false
open Go.RowKit

attribute [local go_sem ↓] Go.wp_at_zero Go.wp_at_succ

theorem unpackM_succ (b : List UInt8) (i w : Nat) : unpackM b (i + 1) w = unpackM b i w ++ [unV b w i w] := by
  unfold unpackM
  rw [List.range_succ, List.map_append]
  rfl
theorem bit_half (O r : Nat) : (O / 2 ^ r) % 2 = if O.testBit r = true then 1 else 0 := by
  rw [Nat.testBit_eq_decide_div_mod_eq]
  by_cases h : O / 2 ^ r % 2 = 1
  · rw [decide_eq_true h, if_pos rfl, h]
  · rw [decide_eq_false h, if_neg (by decide)]
    omega
/-- How the reference's Unpack ends. -/
def RUnpOK (b : List UInt8) (many wd : Nat) (w : World) (e : Ending) (w' : World) : Prop :=
  ((¬ (b.length = bytesN many wd ∧ packB (unpackM b many wd) wd = b) ∧ e = .returned (.tuple #[.slice none 0 0, .int .i64 6])) ∨
    ((b.length = bytesN many wd ∧ packB (unpackM b many wd) wd = b) ∧ ∃ A d, e = .returned (.tuple #[.slice A many d, .int .i64 0]) ∧ Rd w' A (ucl (unpackM b many wd)))) ∧ Below w.heap.size w w'

set_option maxHeartbeats 16000000 in
set_option maxRecDepth 100000 in
theorem runpack_any (b : List UInt8) (many wd n c : Nat) (A : Option Addr) (w : World) (hl : b.length = n) (hr : Rd w A (Bs b)) (hm : many ≤ 4096) (hwd : wd ≤ 64) :
    Calls Tryz.prog 76 #[.slice A n c, .int .i64 (many : Int), .int .i64 (wd : Int)] w fun e w' => RUnpOK b many wd w e w' := by
  have hby := Lib.hid (fun w' => rbytes_any many wd w' hm hwd)
  have Hl := Lib.hid hl
  have Hr := Lib.hid hr
  obtain ⟨N, hN⟩ : ∃ N, bytesN many wd = N := ⟨_, rfl⟩
  have hN2 : N ≤ 32768 ∧ many * wd ≤ 8 * N := by
    have h1 : many * wd ≤ 4096 * 64 := Nat.mul_le_mul hm hwd
    unfold bytesN at hN
    omega
  have HN := Lib.hid hN
  rw [hN] at hby
  clear hl hr hN
  go_enter Tryz.func76, Tryz.ntmps76
  go_wp2_with fail
  refine (hby.out _).mono ?_
  rintro e w0 ⟨rfl, rfl⟩
  clear hby
  by_cases hnN : n = N
  · subst hnN
    have e1 : ((n : Int) != (n : Int)) = false := by simp
    have hw0 : IntKind.i64.wrap ((wd : Int) - 1) = (wd : Int) - 1 := by rw [IntKind.wrap_i64]; omega
    have hw02 : wrap64 ((wd : Int) - 1) = (wd : Int) - 1 := by unfold wrap64; omega
    go_wp2_with fail
    go_loopw [10, 11] (fun vl vi wr => ∃ (i d : Nat) (A' : Option Addr), vl = .slice A' i d ∧ vi = .int .i64 i ∧ i ≤ many ∧ Hid (Own wr w.heap.size 52 1 A' i d (ucl (unpackM b i wd))) ∧ Hid (Below w.heap.size w wr)) (fun _ vi _ => many - (intOf vi).toNat)
    case atStart => exact ⟨0, 0, none, rfl, rfl, by omega, Own.nil _ _ _ _, Below.refl _ _⟩
    case round =>
      obtain ⟨i, d, A', rfl, rfl, hi, Ho, Hb⟩ := hrel
      by_cases hin : i < many
      · have hiI : (i : Int) < (many : Int) := by omega
        have hiI0 : (0 : Int) ≤ (i : Int) := by omega
        generalize wr = wo at *
        go_wp2_with fail
        go_loopw [12, 13] (fun vx vk wr => ∃ (x j : Nat) (v : Int), vx = .int .u64 (x : Nat) ∧ vk = .int .i64 v ∧ j ≤ wd ∧ Hid (v = (j : Int) - 1) ∧ x < 2 ^ (wd - j) ∧ Hid (x = bitsV (fun q => bitB b (i * wd + j + q)) (wd - j)) ∧ Hid (Below wo.heap.size wo wr)) (fun _ vk _ => (intOf vk + 1).toNat)
        case atStart => exact ⟨0, wd, _, rfl, rfl, by omega, rfl, Nat.two_pow_pos _, by show _ = _; rw [Nat.sub_self]; rfl, Below.refl _ _⟩
        case round =>
          obtain ⟨x, j, v, rfl, rfl, hj, Hv, hx, Hx, Hbk⟩ := hrel
          by_cases hj0 : 0 < j
          · obtain ⟨j1, rfl⟩ : ∃ j1, j = j1 + 1 := ⟨j - 1, by omega⟩
            obtain rfl : v = (j1 : Int) := by have := Hv.out; omega
            have hvI : (0 : Int) ≤ (j1 : Int) := by omega
            obtain ⟨a0, ha0⟩ : ∃ a0, i * wd = a0 := ⟨_, rfl⟩
            have hmul : a0 + wd ≤ many * wd := by
              have := Nat.mul_le_mul_right wd (show i + 1 ≤ many from hin)
              rw [Nat.add_mul, Nat.one_mul] at this
              omega
            have hmI : (i : Int) * (wd : Int) = (a0 : Int) := by rw [← ha0]; exact (Int.natCast_mul i wd).symm
            obtain ⟨a, ha⟩ : ∃ a, a0 + j1 = a := ⟨_, rfl⟩
            have haI : (a0 : Int) + (j1 : Int) = (a : Int) := by omega
            obtain ⟨q, hq⟩ : ∃ q, a / 8 = q := ⟨_, rfl⟩
            obtain ⟨r, hr8⟩ : ∃ r, a % 8 = r := ⟨_, rfl⟩
            have hr : r < 8 := by omega
            have hqn : q < n := by omega
            have m1 : IntKind.i64.wrap (a0 : Int) = (a0 : Int) := by rw [IntKind.wrap_i64]; omega
            have m2 : IntKind.i64.wrap (a : Int) = (a : Int) := by rw [IntKind.wrap_i64]; omega
            have e2 : (a : Int) / 8 = (q : Int) := by omega
            have e3 : (a : Int) % 8 = (r : Int) := by omega
            have e4 : (a : Int).tdiv 8 = (q : Int) := by rw [Int.tdiv_eq_ediv_of_nonneg (by omega)]; omega
            have e5 : (a : Int).tmod 8 = (r : Int) := by rw [Int.tmod_eq_emod_of_nonneg (by omega)]; omega
            have e6 : IntKind.i64.wrap (q : Int) = (q : Int) := by rw [IntKind.wrap_i64]; omega
            have e7 : IntKind.i64.wrap (r : Int) = (r : Int) := by rw [IntKind.wrap_i64]; omega
            obtain ⟨bb, bo, hAe, bq⟩ := u8c_get ((Hr.out.below Hb.out).below Hbk.out) (show q < b.length by rw [Hl.out]; exact hqn)
            have hbk := unV_back b wd i j1 (by omega)
            have hbt : bitB b (i * wd + j1) = (b.getD q 0).toNat.testBit r := by
              unfold bitB
              rw [ha0, ha, hq, hr8]
            rw [hbt, ← Hx.out] at hbk
            have hO := (b.getD q 0).toNat_lt
            have hbh := bit_half (b.getD q 0).toNat r
            rw [← hbh] at hbk
            subst hAe
            generalize (b.getD q 0).toNat = O at *
            obtain ⟨z, hz⟩ : ∃ z, 2 ^ r = z := ⟨_, rfl⟩
            have hz1 : 1 ≤ z := by rw [← hz]; exact Nat.two_pow_pos r
            rw [hz] at hbk
            obtain ⟨V, hV⟩ : ∃ V, O / z = V := ⟨_, rfl⟩
            have hVl : V < 256 := by rw [← hV]; exact Nat.lt_of_le_of_lt (Nat.div_le_self _ _) hO
            rw [hV] at hbk
            obtain ⟨B, hB⟩ : ∃ B, V % 2 = B := ⟨_, rfl⟩
            rw [hB] at hbk
            have hB2 : B < 2 := by omega
            have z2 : (2 : Int) ^ r = (z : Int) := by rw [← hz]; simp
            have z8 : (O : Int) / (z : Int) = (V : Int) := by rw [← hV]; exact (Int.natCast_ediv O z).symm
            have z9 : IntKind.u8.wrap (V : Int) = (V : Int) := by rw [IntKind.wrap_u8]; omega
            have z10 : (V : Int) % 2 = (B : Int) := by omega
            have z11 : (V : Int).tmod 2 = (B : Int) := by rw [Int.tmod_eq_emod_of_nonneg (by omega)]; omega
            have z12 : IntKind.u8.wrap (B : Int) = (B : Int) := by rw [IntKind.wrap_u8]; omega
            have z13 : IntKind.u64.wrap (B : Int) = (B : Int) := by rw [IntKind.wrap_u64]; omega
            have hx63 : 2 ^ (wd - (j1 + 1)) ≤ 2 ^ 63 := Nat.pow_le_pow_right (by omega) (by omega)
            have hx2 : x < 9223372036854775808 := by omega
            have z14 : IntKind.u64.wrap ((x : Int) * 2) = (x : Int) * 2 := by rw [IntKind.wrap_u64]; omega
            have z15 : IntKind.u64.wrap ((x : Int) * 2 + (B : Int)) = (x : Int) * 2 + (B : Int) := by rw [IntKind.wrap_u64]; omega
            have z16 : IntKind.i64.wrap ((j1 : Int) - 1) = (j1 : Int) - 1 := by rw [IntKind.wrap_i64]; omega
            have z17 : wrap64 ((j1 : Int) - 1) = (j1 : Int) - 1 := by unfold wrap64; omega
            have hqI : (q : Int) < (n : Int) := by omega
            have hqI0 : (0 : Int) ≤ (q : Int) := by omega
            have Hx2 : Hid (x * 2 + B = bitsV (fun q => bitB b (i * wd + j1 + q)) (wd - j1)) := by show _ = _; rw [hbk]; omega
            have hxl : x * 2 + B < 2 ^ (wd - j1) := by rw [Hx2.out]; exact bitsV_lt _ _
            clear hbk hbh hbt hz hV hB hq hr8 ha ha0 hmul hx63 hx Hx Hv hO
            go_wp2_with fail
            try (go_region; go_wp2_with fail)
            refine ⟨⟨x * 2 + B, j1, _, by go_num, rfl, by omega, rfl, hxl, Hx2, by first | exact Hbk.out | exact Hbk.out.drew | exact (by first | exact Hbk.out | exact below_drewN' Hbk.out _)⟩, by simp only [intOf]; omega⟩
          · obtain rfl : j = 0 := by omega
            obtain rfl : v = -1 := by have := Hv.out; omega
            have hxv : Hid (x = unV b wd i wd) := by
              show _ = _
              have := Hx.out
              rw [Nat.sub_zero] at this
              rw [this]
              unfold unV
              refine bitsV_congr _ fun q _ => ?_
              rw [Nat.add_zero]
            have hb9 := Hb.out.trans (Hbk.out.mono Hb.out.size)
            have ho9 := Ho.out.below Hbk.out
            have hbX : Below wr.heap.size wr (wr.alloc (.cells #[.int .u64 (x : Int)] 52)) := (Below.refl _ _).alloc (Nat.le_refl _) _
            have ho3 := Own.below ho9 hbX
            have hb3 := hb9.trans (hbX.mono hb9.size)
            have hz3 := hb3.size
            have hnew := (Blk.new wr 52 #[.int .u64 (x : Int)]).range
            have Hys : Hid (ucl (unpackM b i wd) ++ [.int .u64 (x : Int)] = ucl (unpackM b (i + 1) wd)) := by
              show _ = _
              rw [unpackM_succ, ucl_append, ← hxv.out]
              rfl
            clear hb9 ho9 hbX hx Hx Hv hxv Ho Hb Hbk
            go_wp2_with (first | (at_builtin; refine hold ?_) | (at_make; refine hold ?_))
            (with_reducible refine unhold ?_)
            refine wpList_apd rfl _ _ _ rfl Eu64 w.heap.size _ i _ _ rfl ho3 _ 1 _ [.int .u64 (x : Int)] rfl rfl (fun _ => ⟨_, _, rfl, hnew⟩) (by simp [Value.oneCell']) (i + 1) rfl _ Hys.out (by omega) (by omega) hz3 ?_
            intro A8 c8 w8 ho8 hg8 _
            have Ho8 := Lib.hid ho8
            have Hb8 := Lib.hid (hb3.grown hg8 hz3 ho3.row_ge)
            clear ho8 hg8 ho3 hb3 hnew hz3
            go_wp2_with fail
            go_roundw
            case rel => exact ⟨i + 1, c8, A8, rfl, by go_num, by omega, Ho8, Hb8⟩
            case measure => simp only [intOf, Int.toNat_natCast]; omega
      · obtain rfl : i = many := by omega
        have hiI : ¬ (i : Int) < (i : Int) := by omega
        have hpk := Lib.hid (rpack_any (unpackM b i wd) i d wd A' wr (unpackM_len _ _ _) Ho.out.rd hm hwd (fun x hx => by
          unfold unpackM at hx
          obtain ⟨k, -, rfl⟩ := List.mem_map.1 hx
          exact unV_lt _ _ _ _))
        go_wp2_with fail
        refine hpk.out.mono ?_
        rintro e w7 ⟨⟨A6, c6, rfl, ho6⟩, hb6⟩
        have hb6' := Hb.out.trans (hb6.mono Hb.out.size)
        have Hb6 := Lib.hid hb6'
        obtain ⟨y, hy⟩ : ∃ y, packB (unpackM b i wd) wd = y := ⟨_, rfl⟩
        rw [hy] at ho6 ⊢
        have hcv1 := fun dd => run_str (w7.drewN dd) A6 y y.length c6 rfl (ho6.rd.drewN dd)
        have hcv1' := run_str w7 A6 y y.length c6 rfl ho6.rd
        have hcv2 := fun dd => run_str (w7.drewN dd) A b n c Hl.out ((Hr.out.below hb6').drewN dd)
        have hcv2' := run_str w7 A b n c Hl.out (Hr.out.below hb6')
        have hcq := St8_cmp y b
        have HrO := Lib.hid (Ho.out.rd.below hb6)
        obtain ⟨ZL, hZL⟩ : ∃ ZL, y.length = ZL := ⟨_, rfl⟩
        rw [hZL] at hcv1 hcv1'
        rw [hZL]
        clear hpk ho6 hb6 hb6' hZL Ho Hb
        by_cases heq : y = b
        · rw [decide_eq_true heq] at hcq
          have Hyes : Hid (b.length = bytesN i wd ∧ packB (unpackM b i wd) wd = b) := Lib.hid ⟨by rw [Hl.out, HN.out], by rw [hy, heq]⟩
          clear heq hy
          go_wp2_with fail
          try (go_quiet (fail); go_wp2_with fail)
          go_ret2
          exact ⟨.inr ⟨Hyes.out, A', d, rfl, (by first | exact HrO.out | exact HrO.out.drewN _)⟩, (by first | exact Hb6.out | exact below_drewN' Hb6.out _)⟩
        · rw [decide_eq_false heq] at hcq
          have hcn1 : (!((St8 y).toList == (St8 b).toList)) = true := by rw [hcq]; rfl
          have hcn2 : ((St8 y).toList != (St8 b).toList) = true := by rw [bne, hcq]; rfl
          have Hno : Hid (¬ (b.length = bytesN i wd ∧ packB (unpackM b i wd) wd = b)) := Lib.hid fun h => heq (by rw [← hy]; exact h.2)
          clear heq hy
          go_wp2_with fail
          try (go_quiet (fail); go_wp2_with fail)
          go_ret2
          exact ⟨.inl ⟨Hno.out, rfl⟩, (by first | exact Hb6.out | exact below_drewN' Hb6.out _)⟩
  · have e2 : ((n : Int) == (N : Int)) = false := by rw [beq_eq_false_iff_ne]; omega
    have e1 : ((n : Int) != (N : Int)) = true := by rw [bne, e2]; rfl
    have Hno : Hid (¬ (b.length = bytesN many wd ∧ packB (unpackM b many wd) wd = b)) := Lib.hid fun h => hnN (by rw [← Hl.out, h.1, HN.out])
    clear hnN
    go_wp2_with fail
    go_ret2
    exact ⟨.inl ⟨Hno.out, rfl⟩, Below.refl _ _⟩
end Go.Proofs.YtojppmnmhdgnnaaGreat
namespace Go.Proofs.YtojppmnmhdgnnaaGreat
set_option linter.unusedVariables false
set_option linter.unusedSimpArgs false
open Go.RowKit

attribute [local go_sem ↓] Go.wp_at_zero Go.wp_at_succ

theorem wrap_like (v : Int) : (∃ z : Int, IntKind.i64.wrap v = v + 18446744073709551616 * z) ∧ -9223372036854775808 ≤ IntKind.i64.wrap v ∧ IntKind.i64.wrap v ≤ 9223372036854775807 := by
  rw [IntKind.wrap_i64]
  refine ⟨⟨-((v + 9223372036854775808) / 18446744073709551616), by omega⟩, by omega, by omega⟩

set_option maxHeartbeats 16000000 in
set_option maxRecDepth 100000 in
theorem rdeltake_any (b : List UInt8) (n c : Nat) (A : Option Addr) (w : World) (hl : b.length = n) (hr : Rd w A (Bs b)) (hn : n ≤ 500000) :
    Calls Tryz.prog 52 #[.slice A n c] w fun e w' => RDecOK deltaB b w e w' := by
  have Hl := Lib.hid hl
  have Hr := Lib.hid hr
  have ho9 : Own (w.alloc (.cells #[] 5)) w.heap.size 5 1 (some ⟨w.heap.size, 0, none⟩) 0 0 [] := World.ownsRow_made w #[] 0 (Nat.le_refl _) (by unfold maxLen; omega) rfl
  have hb9 : Below w.heap.size w (w.alloc (.cells #[] 5)) := (Below.refl _ _).alloc (Nat.le_refl _) _
  clear hl hr
  go_enter Tryz.func52, Tryz.ntmps52
  go_wp2_with (first | (at_builtin; refine hold ?_) | (at_make; refine hold ?_))
  (with_reducible refine unhold ?_)
  refine wpList_apd rfl _ _ _ rfl E8 w.heap.size _ 0 _ [] rfl ho9 _ n _ (Bs b) rfl (by rw [List.length_map, Hl.out, Nat.mul_one]) (Hr.out.below hb9) (Bs_one b) n (Nat.zero_add _) (Bs b) rfl (by omega) (by omega) hb9.size ?_
  intro A1 c1 w1 ho1 hg1 _
  have hb1 : Below w.heap.size w w1 := hb9.grown hg1 hb9.size ho9.row_ge
  have hz1 := hb1.size
  have hrd1 := rrdr_made ho1 Hl.out
  have hbB : Below w1.heap.size w1 (w1.alloc (.cells #[.slice A1 n c1, .bool false] 51)) := (Below.refl _ _).alloc (Nat.le_refl _) _
  have Hb1 := Lib.hid (hb1.trans (hbB.mono hz1))
  have hpz := hrd1.lt
  have hnu := Lib.hid (rrdr_num w1.heap.size b false _ hrd1)
  clear hb1 hbB hrd1 ho1 hb9 ho9 hg1
  go_wp2_with fail
  refine hnu.out.mono ?_
  clear hnu
  generalize (w1.alloc (.cells #[.slice A1 n c1, .bool false] 51)) = wn at *
  generalize w1.heap.size = p at *
  intro e w2 hnum
  obtain ⟨N, u, bad, rfl, hrd, hrc, hlo, hk⟩ : ∃ (N : Nat) (u : List UInt8) (bad : Bool), e = .returned (.int .u64 (N : Nat)) ∧ RRdr w2 p u bad ∧ DelC b [] 0 N u bad ∧ (4096 < N → ∀ l, NumL l → deltaB l ≠ some b) ∧ Keeps RRdT p wn w2 := by
    obtain ⟨⟨ht, rfl, hrd⟩ | ⟨m, u, ht, rfl, hrd⟩, hk⟩ := hnum
    · exact ⟨0, [], true, rfl, hrd.rdr, delC_none ht _ _ _ _ _, (fun h => by omega), hk⟩
    · exact ⟨m, u, false, rfl, hrd, delC_some ht, delC_long ht, hk⟩
  have Hb2 := Lib.hid (Hb1.out.trans (keeps_below hk hz1 (Nat.le_of_lt hpz)))
  have Hrd2 := Lib.hid hrd
  have Hrc2 := Lib.hid hrc
  by_cases hN : 4096 < N
  · have Hno := Lib.hid (hlo hN)
    have hNI : (4096 : Int) < (N : Int) := by omega
    clear hnum hrd hrc hlo hk hpz
    go_wp2_with fail
    go_ret2
    exact ⟨.inl ⟨Hno.out, 6, by decide, rfl⟩, Hb2.out⟩
  · have hNI : ¬ (4096 : Int) < (N : Int) := by omega
    clear hnum hrd hrc hlo hk hpz
    go_wp2_with fail
    go_loopw [5, 6, 7] (fun vm vl va wr => ∃ (m k cc : Nat) (A' : Option Addr) (x : List Int) (last : Int) (pc : List UInt8) (bad : Bool), vm = .int .u64 (m : Nat) ∧ vl = .slice A' k cc ∧ va = .int .i64 last ∧ k + m ≤ 4096 ∧ (-9223372036854775808 ≤ last ∧ last ≤ 9223372036854775807) ∧ Hid (x.length = k) ∧ Hid (RRdr wr p pc bad) ∧ Hid (Own wr w.heap.size 3 1 A' k cc (icl x)) ∧ Hid (Below w.heap.size w wr) ∧ Hid (∀ r ∈ x, -9223372036854775808 ≤ r ∧ r ≤ 9223372036854775807) ∧ Hid (DelC b x last m pc bad)) (fun vm _ _ _ => (intOf vm).toNat)
    case atStart => exact ⟨N, 0, 0, none, [], 0, u, bad, rfl, rfl, rfl, by omega, ⟨by decide, by decide⟩, rfl, Hrd2, Own.nil _ _ _ _, Hb2, (fun r hr => by cases hr), Hrc2⟩
    case round =>
      clear Hrd2 Hrc2 Hb2
      obtain ⟨m, k, cc, A', x, last, pc, bad, rfl, rfl, rfl, hkm, hlast, Hxl, Hrd, Ho, Hb, Hin, Hrc⟩ := hrel
      have f1 : wr.cell? ⟨p, 1, none⟩ = some (.bool bad) := by
        obtain ⟨_, _, _, hB, _⟩ := Hrd.out
        have := hB.cell 1
        simpa only [List.getElem?_cons_zero, List.getElem?_cons_succ] using this
      by_cases hm0 : 0 < m
      · have hmI : (0 : Int) < (m : Int) := by omega
        have e1 : decide ((0 : Int) < (m : Int)) = true := decide_eq_true hmI
        have hmw : IntKind.u64.wrap ((m : Int) - 1) = ((m - 1 : Nat) : Int) := by rw [IntKind.wrap_u64]; omega
        cases bad
        · have hin := Lib.hid (rrdr_int p pc false wr Hrd.out)
          have hpr := Hrd.out.lt
          clear Hrd
          go_wp2_with fail
          refine hin.out.mono ?_
          clear hin
          intro e w4 hint
          obtain ⟨a, v, bad', rfl, hrd4, hrc4, hk4⟩ : ∃ (a : Int) (v : List UInt8) (bad' : Bool), e = .returned (.int .i64 a) ∧ RRdr w4 p v bad' ∧ DelC b (x ++ [IntKind.i64.wrap (last + a)]) (IntKind.i64.wrap (last + a)) (m - 1) v bad' ∧ Keeps RRdT p wr w4 := by
            obtain ⟨⟨ht, rfl, hrd⟩ | ⟨m', u', ht, rfl, hrd⟩, hk⟩ := hint
            · exact ⟨0, [], true, rfl, hrd.rdr, Hrc.out.no hm0 ht, hk⟩
            · exact ⟨unzig m', u', false, rfl, hrd, Hrc.out.next hm0 ht (wrap_like _), hk⟩
          have hwl := (wrap_like (last + a)).2
          have hw64 : wrap64 (last + a) = IntKind.i64.wrap (last + a) := by rw [IntKind.wrap_i64]; unfold wrap64; omega
          generalize hyy : IntKind.i64.wrap (last + a) = y at *
          have Ho4 := Own.keeps Ho.out (by decide) hk4
          have Hb4 := Hb.out.trans (keeps_below hk4 hz1 (Nat.le_of_lt hpr))
          have hbX : Below w4.heap.size w4 (w4.alloc (.cells #[.int .i64 y] 3)) := (Below.refl _ _).alloc (Nat.le_refl _) _
          have ho3 := Own.below Ho4 hbX
          have hr3 := hrd4.below hbX
          have hb3 := Hb4.trans (hbX.mono Hb4.size)
          have hz3 := hb3.size
          have hnew := (Blk.new w4 3 #[.int .i64 y]).range
          have Hin8 : Hid (∀ r ∈ x ++ [y], -9223372036854775808 ≤ r ∧ r ≤ 9223372036854775807) := Lib.hid fun r hr => by
            rw [List.mem_append, List.mem_singleton] at hr
            rcases hr with hr | rfl
            · exact Hin.out r hr
            · exact hwl
          have Hxl8 : Hid ((x ++ [y]).length = k + 1) := by show _ = _; rw [List.length_append, Hxl.out]; rfl
          have Hrc8 := Lib.hid hrc4
          clear hint hbX Ho4 Hb4 Ho Hb Hin Hxl Hrc hrd4 hrc4 hk4
          go_wp2_with (first | (at_builtin; refine hold ?_) | (at_make; refine hold ?_))
          (with_reducible refine unhold ?_)
          refine wpList_apd rfl _ _ _ rfl Eint' w.heap.size _ k _ (icl x) rfl ho3 _ 1 _ [.int .i64 y] rfl rfl (fun _ => ⟨_, _, rfl, hnew⟩) (by simp [Value.oneCell']) (k + 1) rfl _ (icl_append x [y]).symm (by omega) (by omega) hz3 ?_
          intro A8 c8 w8 ho8 hg8 _
          have Hr8 : Hid (RRdr w8 p v bad') := hr3.keeps (by decide) (by decide) (ho3.apd_keeps hg8)
          have Ho8 := Lib.hid ho8
          have Hb8 := Lib.hid (hb3.grown hg8 hz3 ho3.row_ge)
          clear ho8 hg8 ho3 hb3 hr3 hnew hz3
          go_wp2_with fail
          go_roundw
          case rel => exact ⟨m - 1, k + 1, c8, A8, x ++ [y], y, v, bad', by go_num, rfl, rfl, by omega, hwl, Hxl8, Hr8, Ho8, Hb8, Hin8, Hrc8⟩
          case measure => simp only [intOf, Int.toNat_natCast]; omega
        · have Hno : Hid (∀ l, NumL l → deltaB l ≠ some b) := Lib.hid fun l hl' e' => by
            have := (Hrc.out l hl' e').1
            cases this
          have hend := Lib.hid (rrdr_end p pc true wr Hrd.out)
          clear Hrc
          go_wp2_with fail
          refine hend.out.mono ?_
          rintro e w5 ⟨⟨h9, -⟩ | ⟨-, rfl⟩, q5, rfl⟩
          · cases h9
          · clear hend
            go_wp2_with fail
            go_ret2
            exact ⟨.inl ⟨Hno.out, 6, by decide, rfl⟩, (by first | exact Hb.out | exact below_drewN' Hb.out _)⟩
      · obtain rfl : m = 0 := by omega
        have hend := Lib.hid (rrdr_end p pc bad wr Hrd.out)
        have hpu := Lib.hid (fun q => rdeltaput_any x k cc A' (wr.drewN q) Hxl.out (Ho.out.rd.drewN q) (by omega) Hin.out)
        go_wp2_with fail
        refine hend.out.mono ?_
        rintro e w5 ⟨⟨hbf, hpc, rfl⟩ | ⟨hbp, rfl⟩, q5, rfl⟩
        · clear hend
          go_wp2_with fail
          refine (hpu.out q5).mono ?_
          rintro e w6 (⟨hdn, rfl, hb6⟩ | ⟨z, hdz, hz⟩)
          · have Hno : Hid (∀ l, NumL l → deltaB l ≠ some b) := Lib.hid fun l hl' e' => by
              have h9 := (Hrc.out.done hl' e').2.2
              rw [h9, e'] at hdn
              cases hdn
            have Hb6 := Lib.hid ((below_drewN' Hb.out q5).trans (hb6.mono Hb.out.size))
            clear hpu hdn hb6
            go_wp2_with fail
            try (go_quiet (fail); go_wp2_with fail)
            go_ret2
            exact ⟨.inl ⟨Hno.out, 6, by decide, rfl⟩, (by first | exact Hb6.out | exact below_drewN' Hb6.out _)⟩
          · obtain ⟨⟨A6, c6, rfl, ho6⟩, hb6⟩ := hz
            have hb6' := (below_drewN' Hb.out q5).trans (hb6.mono Hb.out.size)
            have Hb6 := Lib.hid hb6'
            have hcv1 := fun d => run_str (w6.drewN d) A6 z z.length c6 rfl (ho6.rd.drewN d)
            have hcv1' := run_str w6 A6 z z.length c6 rfl ho6.rd
            have hcv2 := fun d => run_str (w6.drewN d) A b n c Hl.out ((Hr.out.below hb6').drewN d)
            have hcv2' := run_str w6 A b n c Hl.out (Hr.out.below hb6')
            have hcq := St8_cmp z b
            have HoX := Lib.hid (((Ho.out.rd.drewN q5).below hb6))
            obtain ⟨ZL, hZL⟩ : ∃ ZL, z.length = ZL := ⟨_, rfl⟩
            rw [hZL] at hcv1 hcv1'
            rw [hZL]
            clear hpu ho6 hb6 hb6' hZL
            by_cases heq : z = b
            · rw [decide_eq_true heq] at hcq
              have Hyes : Hid (deltaB x = some b) := by show _ = _; rw [hdz, heq]
              have HN : Hid (NumL x) := Lib.hid ⟨by rw [Hxl.out]; omega, Hin.out⟩
              clear heq hdz
              go_wp2_with fail
              try (go_quiet (fail); go_wp2_with fail)
              go_ret2
              refine ⟨.inr ⟨x, A', cc, HN.out, Hyes.out, ?_, (by first | exact HoX.out | exact HoX.out.drewN _)⟩, (by first | exact Hb6.out | exact below_drewN' Hb6.out _)⟩
              rw [Hxl.out]
              rfl
            · rw [decide_eq_false heq] at hcq
              have hcn1 : (!((St8 z).toList == (St8 b).toList)) = true := by rw [hcq]; rfl
              have hcn2 : ((St8 z).toList != (St8 b).toList) = true := by rw [bne, hcq]; rfl
              have Hno : Hid (∀ l, NumL l → deltaB l ≠ some b) := Lib.hid fun l hl' e' => by
                have h9 := (Hrc.out.done hl' e').2.2
                rw [h9, e'] at hdz
                exact heq (Option.some.inj hdz).symm
              clear heq hdz
              go_wp2_with fail
              try (go_quiet (fail); go_wp2_with fail)
              go_ret2
              exact ⟨.inl ⟨Hno.out, 6, by decide, rfl⟩, (by first | exact Hb6.out | exact below_drewN' Hb6.out _)⟩
        · have Hno : Hid (∀ l, NumL l → deltaB l ≠ some b) := Lib.hid fun l hl' e' => by
            have h9 := Hrc.out.done hl' e'
            exact hbp ⟨h9.1, h9.2.1⟩
          clear hend hbp Hrc
          go_wp2_with fail
          go_ret2
          exact ⟨.inl ⟨Hno.out, 6, by decide, rfl⟩, (by first | exact Hb.out | exact below_drewN' Hb.out _)⟩
end Go.Proofs.YtojppmnmhdgnnaaGreat
namespace Go.Proofs.YtojppmnmhdgnnaaGreat
set_option linter.unusedVariables false
set_option linter.unusedSimpArgs false
open Go.RowKit

attribute [local go_sem ↓] Go.wp_at_zero Go.wp_at_succ

theorem wrap_more (a m : Int) : IntKind.i64.wrap (IntKind.u64.wrap (IntKind.u64.wrap a + m)) = IntKind.i64.wrap (a + m) := by
  rw [IntKind.wrap_i64, IntKind.wrap_i64, IntKind.wrap_u64, IntKind.wrap_u64]
  omega
def moreL (a : Int) (M : List Nat) : List Int := M.map fun m : Nat => IntKind.i64.wrap (a + (m : Int))
theorem moreL_in (a : Int) (M : List Nat) : ∀ x ∈ moreL a M, -9223372036854775808 ≤ x ∧ x ≤ 9223372036854775807 := by
  intro x hx
  obtain ⟨m, -, rfl⟩ := List.mem_map.1 hx
  exact (wrap_like _).2
/-- If numbers were put so, what is reckoned from their parts is they. -/
theorem frame_back {b u v t : List UInt8} {N a0 cN : Nat} (ht : takeNum b = some (N, u)) (hN : 0 < N) (ha : takeNum u = some (a0, v)) (hc : takeNum v = some (cN, t)) {l : List Int} (hl : NumL l) (e : frameB l = b) :
    cN ≤ 64 ∧ t.length = bytesN N cN ∧ packB (unpackM t N cN) cN = t ∧ moreL (unzig a0) (unpackM t N cN) = l := by
  obtain ⟨v', t', h1, h2, h3, h4, h5, h6, h7, h8⟩ := frame_parts ht hN hl e
  rw [h1] at ha
  injection ha with ha
  injection ha with ha1 ha2
  subst ha1
  subst ha2
  rw [h2] at hc
  injection hc with hc
  injection hc with hc1 hc2
  subst hc1
  subst hc2
  refine ⟨h3, h6, by rw [h5]; exact h4.symm, ?_⟩
  rw [h5, h7]
  conv => rhs; rw [← h8]
  unfold moreL
  refine List.map_congr_left fun m hm => ?_
  have hin : leastM l + (m : Int) ∈ l := by
    have h9 : leastM l + (m : Int) ∈ (moreM l).map (fun (m : Nat) => leastM l + (m : Int)) := List.mem_map.2 ⟨m, hm, rfl⟩
    rwa [h8] at h9
  have := hl.2 _ hin
  rw [IntKind.wrap_i64]
  omega

set_option maxHeartbeats 16000000 in
set_option maxRecDepth 100000 in
theorem rrunframe_any (b : List UInt8) (n c : Nat) (A : Option Addr) (w : World) (hl : b.length = n) (hr : Rd w A (Bs b)) (hn : n ≤ 500000) :
    Calls Tryz.prog 51 #[.slice A n c] w fun e w' => RDecOK (fun l => some (frameB l)) b w e w' := by
  have Hl := Lib.hid hl
  have Hr := Lib.hid hr
  have ho9 : Own (w.alloc (.cells #[] 5)) w.heap.size 5 1 (some ⟨w.heap.size, 0, none⟩) 0 0 [] := World.ownsRow_made w #[] 0 (Nat.le_refl _) (by unfold maxLen; omega) rfl
  have hb9 : Below w.heap.size w (w.alloc (.cells #[] 5)) := (Below.refl _ _).alloc (Nat.le_refl _) _
  clear hl hr
  go_enter Tryz.func51, Tryz.ntmps51
  go_wp2_with (first | (at_builtin; refine hold ?_) | (at_make; refine hold ?_))
  (with_reducible refine unhold ?_)
  refine wpList_apd rfl _ _ _ rfl E8 w.heap.size _ 0 _ [] rfl ho9 _ n _ (Bs b) rfl (by rw [List.length_map, Hl.out, Nat.mul_one]) (Hr.out.below hb9) (Bs_one b) n (Nat.zero_add _) (Bs b) rfl (by omega) (by omega) hb9.size ?_
  intro A1 c1 w1 ho1 hg1 _
  have hb1 : Below w.heap.size w w1 := hb9.grown hg1 hb9.size ho9.row_ge
  have hz1 := hb1.size
  have hrd1 := rrdr_made ho1 Hl.out
  have hbB : Below w1.heap.size w1 (w1.alloc (.cells #[.slice A1 n c1, .bool false] 51)) := (Below.refl _ _).alloc (Nat.le_refl _) _
  have Hb1 := Lib.hid (hb1.trans (hbB.mono hz1))
  have hpz := hrd1.lt
  have hnu := Lib.hid (rrdr_num w1.heap.size b false _ hrd1)
  clear hb1 hbB hrd1 ho1 hb9 ho9 hg1
  go_wp2_with fail
  refine hnu.out.mono ?_
  clear hnu
  generalize (w1.alloc (.cells #[.slice A1 n c1, .bool false] 51)) = wn at *
  generalize w1.heap.size = p at *
  intro e w2 hnum
  obtain ⟨⟨ht, rfl, hrd⟩ | ⟨N, u, ht, rfl, hrd⟩, hk⟩ := hnum
  · have Hno : Hid (∀ l, NumL l → some (frameB l) ≠ some b) := Lib.hid fun l hl' e' => frame_none ht l hl' (Option.some.inj e')
    have Hb2 := Lib.hid (Hb1.out.trans (keeps_below hk hz1 (Nat.le_of_lt hpz)))
    have hend := Lib.hid (rrdr_end p [] true w2 hrd.rdr)
    clear ht hrd hk hpz
    go_wp2_with fail
    refine hend.out.mono ?_
    rintro e w5 ⟨⟨h9, -⟩ | ⟨-, rfl⟩, q5, rfl⟩
    · cases h9
    · clear hend
      go_wp2_with fail
      go_ret2
      exact ⟨.inl ⟨Hno.out, 6, by decide, rfl⟩, (by first | exact Hb2.out | exact below_drewN' Hb2.out _)⟩
  · have hN64 := (takeNum_lt ht).1
    have hul := (takeNum_lt ht).2
    rw [Hl.out] at hul
    have Hb2 := Lib.hid (Hb1.out.trans (keeps_below hk hz1 (Nat.le_of_lt hpz)))
    have Ht := Lib.hid ht
    have hp2 := hrd.lt
    by_cases hN0 : N = 0
    · have hend := Lib.hid (rrdr_end p u false w2 hrd)
      subst hN0
      clear hrd hk hpz
      by_cases hu : u = []
      · have Hyes : Hid (some (frameB []) = some b) := by
          show _ = _
          rw [takeNum_inv ht, hu]
          rfl
        subst hu
        clear ht
        go_wp2_with fail
        refine hend.out.mono ?_
        rintro e w5 ⟨⟨-, -, rfl⟩ | ⟨h9, -⟩, q5, rfl⟩
        · clear hend
          go_wp2_with fail
          go_ret2
          exact ⟨.inr ⟨[], none, 0, ⟨Nat.zero_le _, fun x hx => by cases hx⟩, Hyes.out, rfl, Rd.nil _ _⟩, (by first | exact Hb2.out | exact below_drewN' Hb2.out _)⟩
        · exact absurd (by first | exact ⟨rfl, rfl⟩ | exact ⟨trivial, rfl⟩ | exact ⟨trivial, trivial⟩) h9
      · have Hno : Hid (∀ l, NumL l → some (frameB l) ≠ some b) := Lib.hid fun l hl' e' => by
          obtain ⟨h1, h2⟩ := frame_len ht hl' (Option.some.inj e')
          rw [List.eq_nil_of_length_eq_zero h1, if_pos rfl] at h2
          exact hu h2
        have Hu := Lib.hid hu
        clear ht hu
        go_wp2_with fail
        refine hend.out.mono ?_
        rintro e w5 ⟨⟨-, h9, -⟩ | ⟨-, rfl⟩, q5, rfl⟩
        · exact absurd h9 Hu.out
        · clear hend
          go_wp2_with fail
          go_ret2
          exact ⟨.inl ⟨Hno.out, 6, by decide, rfl⟩, (by first | exact Hb2.out | exact below_drewN' Hb2.out _)⟩
    · have hNI : ((N : Int) == 0) = false := by rw [beq_eq_false_iff_ne]; omega
      have hNp : 0 < N := by omega
      by_cases hN4 : 4096 < N
      · have Hno : Hid (∀ l, NumL l → some (frameB l) ≠ some b) := Lib.hid fun l hl' e' => by
          have h1 := (frame_len ht hl' (Option.some.inj e')).1
          have := hl'.1
          omega
        have hN4I : (4096 : Int) < (N : Int) := by omega
        clear ht hrd hk hpz
        go_wp2_with fail
        go_ret2
        exact ⟨.inl ⟨Hno.out, 6, by decide, rfl⟩, Hb2.out⟩
      · have hN4I : ¬ (4096 : Int) < (N : Int) := by omega
        have hin := Lib.hid (rrdr_int p u false w2 hrd)
        have hNw : IntKind.i64.wrap (N : Int) = (N : Int) := by rw [IntKind.wrap_i64]; omega
        clear ht hrd hk hpz
        go_wp2_with fail
        refine hin.out.mono ?_
        clear hin
        intro e w3 hint
        obtain ⟨a, v, bad3, rfl, hrd3, hai, hP, hk3⟩ : ∃ (a : Int) (v : List UInt8) (bad3 : Bool), e = .returned (.int .i64 a) ∧ RRdr w3 p v bad3 ∧ (-9223372036854775808 ≤ a ∧ a ≤ 9223372036854775807) ∧ ((takeNum u = none ∧ bad3 = true ∧ v = []) ∨ ∃ a0, takeNum u = some (a0, v) ∧ a = unzig a0 ∧ bad3 = false ∧ v.length < u.length) ∧ Keeps RRdT p w2 w3 := by
          obtain ⟨⟨ht, rfl, hrd⟩ | ⟨m', u', ht, rfl, hrd⟩, hk⟩ := hint
          · exact ⟨0, [], true, rfl, hrd.rdr, ⟨by decide, by decide⟩, .inl ⟨ht, rfl, rfl⟩, hk⟩
          · exact ⟨unzig m', u', false, rfl, hrd, unzig_in (takeNum_lt ht).1, .inr ⟨m', ht, rfl, rfl, (takeNum_lt ht).2⟩, hk⟩
        have Hb3 := Lib.hid (Hb2.out.trans (keeps_below hk3 hz1 (Nat.le_of_lt hp2)))
        have hp3 := hrd3.lt
        have hnu3 := Lib.hid (rrdr_num p v bad3 w3 hrd3)
        have HP := Lib.hid hP
        clear hint hP hrd3 hk3
        go_wp2_with fail
        refine hnu3.out.mono ?_
        clear hnu3
        intro e w4 hnum4
        obtain ⟨cN, t, bad4, rfl, hrd4, hQ1, hQ2, hk4⟩ : ∃ (cN : Nat) (t : List UInt8) (bad4 : Bool), e = .returned (.int .u64 (cN : Nat)) ∧ RRdr w4 p t bad4 ∧ (bad4 = true → ∀ l, NumL l → frameB l ≠ b) ∧ (bad4 = false → ∃ a0, takeNum u = some (a0, v) ∧ a = unzig a0 ∧ takeNum v = some (cN, t)) ∧ Keeps RRdT p w3 w4 := by
          obtain ⟨⟨ht5, rfl, hrd⟩ | ⟨c', t, ht5, rfl, hrd⟩, hk⟩ := hnum4
          · refine ⟨0, [], true, rfl, hrd.rdr, (fun _ l hl' e' => ?_), (fun h => by cases h), hk⟩
            obtain ⟨v', t', h1, h2, -⟩ := frame_parts Ht.out hNp hl' e'
            rcases HP.out with ⟨ht, -, -⟩ | ⟨a0, ht, -, -, -⟩
            · rw [h1] at ht
              cases ht
            · rw [h1] at ht
              injection ht with ht
              injection ht with _ ht
              rw [← ht, h2] at ht5
              cases ht5
          · rcases HP.out with ⟨ht, hb4, hv⟩ | ⟨a0, ht, ha0, hb4, hvl⟩
            · rw [hv] at ht5
              cases ht5
            · exact ⟨c', t, bad3, rfl, hrd, (fun h => by rw [hb4] at h; cases h), (fun _ => ⟨a0, ht, ha0, ht5⟩), hk⟩
        have hb4' := Hb3.out.trans (keeps_below hk4 hz1 (Nat.le_of_lt hp3))
        have Hb4 := Lib.hid hb4'
        obtain ⟨At, nt, ct, hB, hX, hnt, hntc, hct, _⟩ := hrd4
        have f0 := hB.cell 0
        have f1 := hB.cell 1
        simp only [List.getElem?_cons_zero, List.getElem?_cons_succ] at f0 f1
        cases bad4
        · obtain ⟨a0, hta, hau, htc⟩ := hQ2 rfl
          have Hback := Lib.hid (fun l (hl' : NumL l) (e' : some (frameB l) = some b) => frame_back Ht.out hNp hta htc hl' (Option.some.inj e'))
          rw [← hau] at Hback
          have hc64 := (takeNum_lt htc).1
          by_cases hcw : 64 < cN
          · have Hno : Hid (∀ l, NumL l → some (frameB l) ≠ some b) := Lib.hid fun l hl' e' => by
              have := (Hback.out l hl' e').1
              omega
            have hcI : (64 : Int) < (cN : Int) := by omega
            have e1 : decide ((64 : Int) < (cN : Int)) = true := decide_eq_true hcI
            clear hnum4 hQ1 hQ2 hk4 hB hX hta hau htc HP Hback Ht
            go_wp2_with fail
            go_ret2
            exact ⟨.inl ⟨Hno.out, 6, by decide, rfl⟩, by first | exact Hb4.out | exact (by first | exact Hb4.out | exact below_drewN' Hb4.out _)⟩
          · have hcI : ¬ (64 : Int) < (cN : Int) := by omega
            have e1 : decide ((64 : Int) < (cN : Int)) = false := decide_eq_false hcI
            have hcw2 : IntKind.i64.wrap (cN : Int) = (cN : Int) := by rw [IntKind.wrap_i64]; omega
            have hun := Lib.hid (runpack_any t N cN nt ct At w4 hnt hX.rd (by omega) (by omega))
            clear hnum4 hQ1 hQ2 hk4 hB hX hta hau htc HP Ht hb4'
            go_wp2_with fail
            refine hun.out.mono ?_
            rintro e w5 ⟨⟨hng, rfl⟩ | ⟨hg, MA, d, rfl, hM⟩, hb5⟩
            · have Hno : Hid (∀ l, NumL l → some (frameB l) ≠ some b) := Lib.hid fun l hl' e' => by
                obtain ⟨-, h1, h2, -⟩ := Hback.out l hl' e'
                exact hng ⟨h1, h2⟩
              have Hb5 := Lib.hid (Hb4.out.trans (hb5.mono Hb4.out.size))
              clear hun hng hb5 Hback
              go_wp2_with fail
              go_ret2
              exact ⟨.inl ⟨Hno.out, 6, by decide, rfl⟩, Hb5.out⟩
            · have Hb5 := Lib.hid (Hb4.out.trans (hb5.mono Hb4.out.size))
              have hML := unpackM_len t N cN
              have HM := Lib.hid hM
              have Hbk2 := Lib.hid (fun l (hl' : NumL l) e' => (Hback.out l hl' e').2.2.2)
              clear hun hg hb5 Hback hM
              generalize unpackM t N cN = M at *
              have HML := Lib.hid hML
              clear hML
              go_wp2_with fail
              go_loopw [10, 11] (fun vl vi wr => ∃ (i d' : Nat) (A' : Option Addr), vl = .slice A' i d' ∧ vi = .int .i64 i ∧ i ≤ N ∧ Hid (Own wr w5.heap.size 3 1 A' i d' (icl (moreL a (M.take i)))) ∧ Hid (Below w5.heap.size w5 wr)) (fun _ vi _ => N - (intOf vi).toNat)
              case atStart => exact ⟨0, 0, none, rfl, rfl, by omega, Own.nil _ _ _ _, Below.refl _ _⟩
              case round =>
                obtain ⟨i, d', A', rfl, rfl, hi, Ho, Hb⟩ := hrel
                by_cases hiN : i < N
                · have hiI : (i : Int) < (N : Int) := by omega
                  have hiI0 : (0 : Int) ≤ (i : Int) := by omega
                  have hil : i < M.length := by rw [HML.out]; exact hiN
                  obtain ⟨mb, mo, hMe, c0⟩ := ucl_get (HM.out.below Hb.out) hil
                  have hts := List.take_succ_eq_append_getElem hil
                  subst hMe
                  generalize M[i] = mv at *
                  obtain ⟨U1, hU1⟩ : ∃ U1, IntKind.u64.wrap a = U1 := ⟨_, rfl⟩
                  obtain ⟨U2, hU2⟩ : ∃ U2, IntKind.u64.wrap (U1 + (mv : Int)) = U2 := ⟨_, rfl⟩
                  have hY : IntKind.i64.wrap U2 = IntKind.i64.wrap (a + (mv : Int)) := by rw [← hU2, ← hU1, wrap_more]
                  generalize hYY : IntKind.i64.wrap (a + (mv : Int)) = Y at *
                  have Hys : Hid (icl (moreL a (M.take i)) ++ [.int .i64 Y] = icl (moreL a (M.take (i + 1)))) := by
                    show _ = _
                    rw [hts]
                    unfold moreL
                    rw [List.map_append, ← hYY]
                    exact (icl_append _ [_]).symm
                  have hbX : Below wr.heap.size wr (wr.alloc (.cells #[.int .i64 Y] 3)) := (Below.refl _ _).alloc (Nat.le_refl _) _
                  have ho3 := Own.below Ho.out hbX
                  have hb3 := Hb.out.trans (hbX.mono Hb.out.size)
                  have hz3 := hb3.size
                  have hnew := (Blk.new wr 3 #[.int .i64 Y]).range
                  clear hbX hts hil hYY Ho Hb
                  go_wp2_with (first | (at_builtin; refine hold ?_) | (at_make; refine hold ?_))
                  (with_reducible refine unhold ?_)
                  refine wpList_apd rfl _ _ _ rfl Eint' w5.heap.size _ i _ _ rfl ho3 _ 1 _ [.int .i64 Y] rfl rfl (fun _ => ⟨_, _, rfl, hnew⟩) (by simp [Value.oneCell']) (i + 1) rfl _ Hys.out (by omega) (by omega) hz3 ?_
                  intro A8 c8 w8 ho8 hg8 _
                  have Ho8 := Lib.hid ho8
                  have Hb8 := Lib.hid (hb3.grown hg8 hz3 ho3.row_ge)
                  clear ho8 hg8 ho3 hb3 hnew hz3
                  go_wp2_with fail
                  go_roundw
                  case rel => exact ⟨i + 1, c8, A8, rfl, by go_num, by omega, Ho8, Hb8⟩
                  case measure => simp only [intOf, Int.toNat_natCast]; omega
                · obtain rfl : i = N := by omega
                  have hiI : ¬ (i : Int) < (i : Int) := by omega
                  have htk : M.take i = M := List.take_of_length_le (by rw [HML.out]; exact Nat.le_refl _)
                  have hrO := Ho.out.rd
                  rw [htk] at hrO
                  have hLl : (moreL a M).length = i := by unfold moreL; rw [List.length_map, HML.out]
                  have HLl := Lib.hid hLl
                  have hLin := moreL_in a M
                  have HN : Hid (NumL (moreL a M)) := Lib.hid ⟨by rw [hLl]; omega, hLin⟩
                  have hfr := Lib.hid (rframe_any (moreL a M) i d' A' wr hLl hrO (by omega) hLin)
                  have HrO := Lib.hid hrO
                  clear htk hrO hLl hLin Ho
                  generalize moreL a M = L at *
                  go_wp2_with fail
                  refine hfr.out.mono ?_
                  rintro e w7 ⟨⟨A6, c6, rfl, ho6⟩, hb6⟩
                  have hb6' := (Hb5.out.trans (Hb.out.mono Hb5.out.size)).trans (hb6.mono (Nat.le_trans Hb5.out.size Hb.out.size))
                  have Hb6 := Lib.hid hb6'
                  obtain ⟨y, hy⟩ : ∃ y, frameB L = y := ⟨_, rfl⟩
                  rw [hy] at ho6 ⊢
                  have hcv1 := fun dd => run_str (w7.drewN dd) A6 y y.length c6 rfl (ho6.rd.drewN dd)
                  have hcv1' := run_str w7 A6 y y.length c6 rfl ho6.rd
                  have hcv2 := fun dd => run_str (w7.drewN dd) A b n c Hl.out ((Hr.out.below hb6').drewN dd)
                  have hcv2' := run_str w7 A b n c Hl.out (Hr.out.below hb6')
                  have hcq := St8_cmp y b
                  have HrO2 := Lib.hid (HrO.out.below hb6)
                  obtain ⟨ZL, hZL⟩ : ∃ ZL, y.length = ZL := ⟨_, rfl⟩
                  rw [hZL] at hcv1 hcv1'
                  rw [hZL]
                  clear hfr ho6 hb6 hb6' hZL
                  by_cases heq : y = b
                  · rw [decide_eq_true heq] at hcq
                    have Hyes : Hid (some (frameB L) = some b) := by show _ = _; rw [hy, heq]
                    clear heq hy
                    go_wp2_with fail
                    try (go_quiet (fail); go_wp2_with fail)
                    go_ret2
                    refine ⟨.inr ⟨L, A', d', HN.out, Hyes.out, ?_, (by first | exact HrO2.out | exact HrO2.out.drewN _)⟩, (by first | exact Hb6.out | exact below_drewN' Hb6.out _)⟩
                    rw [HLl.out]
                    rfl
                  · rw [decide_eq_false heq] at hcq
                    have hcn1 : (!((St8 y).toList == (St8 b).toList)) = true := by rw [hcq]; rfl
                    have hcn2 : ((St8 y).toList != (St8 b).toList) = true := by rw [bne, hcq]; rfl
                    have Hno : Hid (∀ l, NumL l → some (frameB l) ≠ some b) := Lib.hid fun l hl' e' => by
                      have h9 := Hbk2.out l hl' e'
                      rw [h9, Option.some.inj e'] at hy
                      exact heq hy.symm
                    clear heq hy
                    go_wp2_with fail
                    try (go_quiet (fail); go_wp2_with fail)
                    go_ret2
                    exact ⟨.inl ⟨Hno.out, 6, by decide, rfl⟩, (by first | exact Hb6.out | exact below_drewN' Hb6.out _)⟩
        · have Hno : Hid (∀ l, NumL l → some (frameB l) ≠ some b) := Lib.hid fun l hl' e' => hQ1 rfl l hl' (Option.some.inj e')
          clear hnum4 hQ1 hQ2 hk4 hB hX HP
          go_wp2_with fail
          go_ret2
          exact ⟨.inl ⟨Hno.out, 6, by decide, rfl⟩, by first | exact Hb4.out | exact (by first | exact Hb4.out | exact below_drewN' Hb4.out _)⟩
end Go.Proofs.YtojppmnmhdgnnaaGreat
