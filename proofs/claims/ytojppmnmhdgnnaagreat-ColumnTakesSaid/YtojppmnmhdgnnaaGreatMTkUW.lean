/- Walks: numbers that stand bit by bit: the program's. (Printed by gen_tku.py.) The walk of pack.Unpack: the program's. (Printed by gen_tkv.py.) Walks: numbers by how much they are more than the least, and by their steps: the program's. (Printed by gen_tkw.py.) The walk of delta.Take: the program's. (Printed by gen_tkx.py.) -/
import Derived.Test.YtojppmnmhdgnnaaGreatMTkRS
import Derived.Test.YtojppmnmhdgnnaaGreatMCoFG
namespace Go.Proofs.YtojppmnmhdgnnaaGreat
set_option linter.unusedVariables false
set_option linter.unusedSimpArgs false
open Go.RowKit

attribute [local go_sem ↓] Go.wp_at_zero Go.wp_at_succ

set_option maxHeartbeats 4000000 in
set_option maxRecDepth 100000 in
theorem u64i_any (l : List Nat) (x : Nat) (L : Option Addr) (n c : Nat) (w : World) (hl : l.length = n) (hL : Rd w L (ucl l)) (hn : n ≤ 1000000) :
    Calls Tryz.prog 65 #[.slice L n c, .int .u64 (x : Int)] w fun e w' => (∃ i : Int, e = .returned (.int .i64 i) ∧ (0 ≤ i ↔ x ∈ l)) ∧ w = w' := by
  have Hl := Lib.hid hl
  have HL := Lib.hid hL
  clear hl hL
  go_enter Tryz.func65, Tryz.ntmps65
  go_wp2_with fail
  go_loopw [8] (fun vi wr => ∃ j : Nat, vi = .int .i64 j ∧ j ≤ n ∧ Hid (x ∉ l.take j) ∧ Hid (wr = w)) (fun vi _ => n - (intOf vi).toNat)
  case atStart => exact ⟨0, rfl, by omega, by show x ∉ _; simp, rfl⟩
  case round =>
    obtain ⟨j, rfl, hj, Hno, Hw⟩ := hrel
    obtain rfl := Hw.out.symm
    by_cases hjn : j < n
    · have hjI : (j : Int) < (n : Int) := by omega
      have hjI0 : (0 : Int) ≤ (j : Int) := by omega
      have hjl : j < l.length := by rw [Hl.out]; exact hjn
      obtain ⟨b, o, hLe, c0⟩ := ucl_get HL.out hjl
      have Hin := Lib.hid (List.getElem_mem hjl)
      have Hnext : Hid (x ≠ l[j] → x ∉ l.take (j + 1)) := by
        show _ → _
        intro h h2
        rw [List.take_succ_eq_append_getElem hjl, List.mem_append, List.mem_singleton] at h2
        exact h2.elim Hno.out h
      subst hLe
      generalize l[j] = y at *
      clear hjl
      by_cases e : x = y
      · subst e
        go_wp2_with fail
        go_ret
        exact ⟨⟨_, rfl, fun _ => Hin.out, fun _ => hjI0⟩, rfl⟩
      · have e1 : ((x : Int) == (y : Int)) = false := by rw [beq_eq_false_iff_ne]; omega
        have e2 : (x == y) = false := by rw [beq_eq_false_iff_ne]; exact e
        have HN := Lib.hid (Hnext.out e)
        clear e Hnext
        go_wp2_with fail
        go_roundw
        case rel => exact ⟨j + 1, by go_num, by omega, HN, trivial⟩
        case measure => simp [intOf]; omega
    · have HN : Hid (x ∉ l) := by
        show x ∉ l
        have := Hno.out
        rwa [List.take_of_length_le (by rw [Hl.out]; omega)] at this
      go_wp2_with fail
      go_ret
      exact ⟨⟨-1, rfl, fun h => absurd h (by decide), fun h => absurd h HN.out⟩, rfl⟩

set_option maxRecDepth 100000 in
theorem u64c_any (l : List Nat) (x : Nat) (L : Option Addr) (n c : Nat) (w : World) (hl : l.length = n) (hL : Rd w L (ucl l)) (hn : n ≤ 1000000) :
    Calls Tryz.prog 40 #[.slice L n c, .int .u64 (x : Int)] w fun e w' => e = .returned (.bool (decide (x ∈ l))) ∧ w = w' := by
  have hi := Lib.hid (u64i_any l x L n c w hl hL hn)
  obtain ⟨R, hR⟩ : ∃ R, R = decide (x ∈ l) := ⟨_, rfl⟩
  rw [← hR]
  have HR := Lib.hid hR
  clear hl hL hR
  go_enter Tryz.func40, Tryz.ntmps40
  go_wp2_with fail
  refine hi.out.mono ?_
  rintro e w1 ⟨⟨i, rfl, h1⟩, rfl⟩
  by_cases h0 : 0 ≤ i
  · have H2 := Lib.hid (h1.1 h0)
    clear h1
    go_wp2_with fail
    go_ret
    exact ⟨by rw [HR.out, decide_eq_true H2.out]; rfl, rfl⟩
  · have H2 := Lib.hid (fun h => h0 (h1.2 h))
    have Hd := Lib.hid (decide_eq_false h0)
    clear h1
    go_wp2_with fail
    go_ret
    exact ⟨by rw [HR.out, decide_eq_false H2.out]; exact congrArg (fun b => Ending.returned (.bool b)) Hd.out, rfl⟩

/-! ### Numbers that are filled bit by bit -/
def fillU (b : List UInt8) (wd i got many : Nat) : List Nat := (List.range many).map fun k => if k < i then unV b wd k wd else if k = i then unV b wd i got else 0
theorem fillU_len (b : List UInt8) (wd i got many : Nat) : (fillU b wd i got many).length = many := by simp [fillU]
theorem fillU_get (b : List UInt8) (wd i got many k : Nat) (h : k < many) : (fillU b wd i got many)[k]? = some (if k < i then unV b wd k wd else if k = i then unV b wd i got else 0) := by
  unfold fillU
  rw [List.getElem?_map, List.getElem?_range h]
  rfl
theorem fillU_set (b : List UInt8) (wd i got g2 many : Nat) (h : i < many) : (fillU b wd i got many).set i (unV b wd i g2) = fillU b wd i g2 many := by
  apply List.ext_getElem?
  intro k
  by_cases hk : k < many
  · rw [fillU_get _ _ _ _ _ _ hk, List.getElem?_set]
    by_cases e : i = k
    · subst e
      rw [if_pos rfl, if_pos (by rw [fillU_len]; exact hk), if_neg (Nat.lt_irrefl _), if_pos rfl]
    · rw [if_neg e, fillU_get _ _ _ _ _ _ hk]
      congr 1
      by_cases h1 : k < i
      · rw [if_pos h1, if_pos h1]
      · rw [if_neg h1, if_neg h1, if_neg (fun h => e h.symm), if_neg (fun h => e h.symm)]
  · rw [List.getElem?_eq_none (by rw [List.length_set, fillU_len]; omega), List.getElem?_eq_none (by rw [fillU_len]; omega)]
theorem fillU_next (b : List UInt8) (wd i many : Nat) : fillU b wd i wd many = fillU b wd (i + 1) 0 many := by
  unfold fillU
  refine List.map_congr_left fun k _ => ?_
  by_cases h1 : k < i
  · rw [if_pos h1, if_pos (by omega)]
  · by_cases h2 : k = i
    · subst h2
      rw [if_neg h1, if_pos rfl, if_pos (by omega)]
    · rw [if_neg h1, if_neg h2, if_neg (by omega)]
      split
      · rw [unV_zero]
      · rfl
theorem fillU_zero (b : List UInt8) (wd many : Nat) : fillU b wd 0 0 many = List.replicate many 0 := by
  unfold fillU
  rw [List.eq_replicate_iff]
  refine ⟨by simp, fun x hx => ?_⟩
  obtain ⟨k, -, rfl⟩ := List.mem_map.1 hx
  rw [if_neg (Nat.not_lt_zero _)]
  split
  · rw [unV_zero]
  · rfl
theorem fillU_all (b : List UInt8) (wd many : Nat) : fillU b wd many 0 many = unpackM b many wd := by
  unfold fillU unpackM
  refine List.map_congr_left fun k hk => ?_
  rw [if_pos (List.mem_range.1 hk)]
theorem make_u64 (n : Nat) : (madeCells (Value.cells (.int .u64 0)) (n * 1)).toList = ucl (List.replicate n 0) := by
  rw [show (Value.cells (.int .u64 0)) = #[.int .u64 0] from rfl, Nat.mul_one, toList_madeCells_one]
  unfold ucl
  rw [List.map_replicate]
  rfl
/-- Numbers that are being filled, in memory. -/
def UnAt (b : List UInt8) (wd i got many g : Nat) (w wr : World) : Prop :=
  Own wr w.heap.size 52 1 (some ⟨g, 0, none⟩) many many (ucl (fillU b wd i got many)) ∧ Below w.heap.size w wr
theorem UnAt.cell {b : List UInt8} {wd i got many g : Nat} {w wr : World} (h : UnAt b wd i got many g w wr) (hq : i < many) :
    wr.cell? ⟨g, i, none⟩ = some (.int .u64 (unV b wd i got : Int)) ∧ wr.frozen? ⟨g, i, none⟩ = false := by
  obtain ⟨b', o, e, hr⟩ := h.1.rd (by intro e; have := congrArg List.length e; rw [ucl_len, fillU_len, List.length_nil] at this; omega)
  cases e
  have := hr i (.int .u64 (unV b wd i got : Int)) (by
    unfold ucl
    rw [List.getElem?_map, fillU_get _ _ _ _ _ _ hq, if_neg (Nat.lt_irrefl _), if_pos rfl]
    rfl)
  rw [Nat.zero_add] at this
  exact ⟨this, (h.1.put (i := i) (by omega) (.int .u64 0)).2.2⟩
theorem UnAt.put {b : List UInt8} {wd i got g2 many g : Nat} {w wr : World} (h : UnAt b wd i got many g w wr) (hq : i < many) :
    UnAt b wd i g2 many g w (wr.setCell ⟨g, i, none⟩ (.int .u64 (unV b wd i g2 : Int))) := by
  have h1 := h.1.put (i := i) (by omega) (.int .u64 (unV b wd i g2 : Int))
  have h2 : (ucl (fillU b wd i got many)).set i (.int .u64 (unV b wd i g2 : Int)) = ucl (fillU b wd i g2 many) := by
    rw [← fillU_set b wd i got g2 many hq]
    unfold ucl
    rw [List.map_set]
  rw [h2] at h1
  exact ⟨h1.1, h.2.setCell (p := ⟨g, i, none⟩) (h.1.row_ge g rfl) _⟩
/-- How Unpack ends. -/
def UnpOK (b : List UInt8) (many wd : Nat) (w : World) (e : Ending) (w' : World) : Prop :=
  ((¬ (b.length = bytesN many wd ∧ tailOk b (many * wd) = true) ∧ e = .returned (.tuple #[.slice none 0 0, .int .i64 6])) ∨
    ((b.length = bytesN many wd ∧ tailOk b (many * wd) = true) ∧ ∃ A d, e = .returned (.tuple #[.slice A many d, .int .i64 0]) ∧ Rd w' A (ucl (unpackM b many wd)))) ∧ Below w.heap.size w w'
end Go.Proofs.YtojppmnmhdgnnaaGreat
namespace Go.Proofs.YtojppmnmhdgnnaaGreat
set_option linter.unusedVariables false
set_option linter.unusedSimpArgs false
open Go.RowKit

attribute [local go_sem ↓] Go.wp_at_zero Go.wp_at_succ

theorem u8c_get {w : World} {A : Option Addr} {b : List UInt8} (h : Rd w A (Bs b)) {j : Nat} (hj : j < b.length) : ∃ b' o, A = some ⟨b', o, none⟩ ∧ w.cell? ⟨b', o + j, none⟩ = some (.int .u8 ((b.getD j 0).toNat : Int)) := by
  obtain ⟨b', o, e, hr⟩ := h (by intro e; have := congrArg List.length e; rw [Bs, List.length_map, List.length_nil] at this; omega)
  exact ⟨b', o, e, hr j _ (Bs_get hj)⟩

set_option maxHeartbeats 16000000 in
set_option maxRecDepth 100000 in
theorem unpack_any (b : List UInt8) (many wd n c : Nat) (A : Option Addr) (w : World) (hl : b.length = n) (hr : Rd w A (Bs b)) (hm : many ≤ 4096) (hwd : wd ≤ 64) :
    Calls Tryz.prog 38 #[.slice A n c, .int .i64 (many : Int), .int .i64 (wd : Int)] w fun e w' => UnpOK b many wd w e w' := by
  have Hby := Lib.hid (fun w' => bytes_any many wd w' hm hwd)
  have Hl := Lib.hid hl
  have Hr := Lib.hid hr
  obtain ⟨N, hN⟩ : ∃ N, bytesN many wd = N := ⟨_, rfl⟩
  have hmw : many * wd ≤ 4096 * 64 := Nat.mul_le_mul hm hwd
  have hNa : many * wd ≤ 8 * N ∧ 8 * N ≤ many * wd + 7 := by
    have : N = (many * wd + 7) / 8 := by rw [← hN]; rfl
    omega
  rw [hN] at Hby
  have HN := Lib.hid hN
  clear hl hr hN
  by_cases hnN : n = N
  · subst hnN
    have hne : ((n : Int) != (n : Int)) = false := by simp
    go_enter Tryz.func38, Tryz.ntmps38
    go_wp2_with fail
    refine (Hby.out w).mono ?_
    rintro e w1 ⟨rfl, rfl⟩
    go_wp2_with (first | (at_builtin; refine hold ?_) | (at_make; refine hold ?_))
    (with_reducible refine unhold ?_)
    refine wpList_mkn rfl _ _ _ rfl Eu64 w.heap.size _ _ _ _ many rfl rfl rfl rfl (by omega) (by unfold maxLen; omega) (Nat.le_refl _) ?_
    intro w1 ho1 hb1 _
    rw [make_u64, ← fillU_zero b wd many] at ho1
    have HP1 : Hid (UnAt b wd 0 0 many w.heap.size w w1) := ⟨ho1, hb1⟩
    generalize w.heap.size = g at *
    clear ho1 hb1
    go_wp2_with fail
    go_loopw [11, 35] (fun va vi wr => ∃ i : Nat, va = .int .i64 ((i * wd : Nat) : Int) ∧ vi = .int .i64 (i : Int) ∧ i ≤ many ∧ Hid (UnAt b wd i 0 many g w wr)) (fun _ vi _ => many - (intOf vi).toNat)
    case atStart => exact ⟨0, by simp, rfl, by omega, HP1⟩
    case round =>
      obtain ⟨i, rfl, rfl, hi, HP⟩ := hrel
      by_cases hin : i < many
      · have hiI : (i : Int) < (many : Int) := by omega
        have hi0 : (0 : Int) ≤ (i : Int) := by omega
        obtain ⟨a0, ha0⟩ : ∃ a0, i * wd = a0 := ⟨_, rfl⟩
        have hmul : a0 + wd ≤ many * wd := by
          have := Nat.mul_le_mul_right wd (show i + 1 ≤ many from hin)
          rw [Nat.add_mul, Nat.one_mul] at this
          omega
        have Ha0 := Lib.hid ha0
        have Hnext : Hid ((i + 1) * wd = a0 + wd) := by show _ = _; rw [Nat.add_mul, Nat.one_mul, ha0]
        rw [ha0]
        obtain ⟨nw, hnw⟩ : ∃ nw, many * wd = nw := ⟨_, rfl⟩
        rw [hnw] at hmul hNa hmw
        clear ha0 hnw
        generalize wr = wo at *
        go_wp2_with fail
        go_loopw [11, 13] (fun va vg wi => ∃ a got : Nat, va = .int .i64 (a : Int) ∧ vg = .int .i64 (got : Int) ∧ got ≤ wd ∧ a ≤ a0 + wd ∧ Hid (a = a0 + got) ∧ Hid (UnAt b wd i got many g w wi)) (fun _ vg _ => wd - (intOf vg).toNat)
        case atStart => exact ⟨a0, 0, rfl, rfl, by omega, by omega, rfl, HP⟩
        case round =>
          obtain ⟨a, got, rfl, rfl, hgot, hal0, Hal, Hp⟩ := hrel
          by_cases h0 : got < wd
          · have h0I : (got : Int) < (wd : Int) := by omega
            obtain ⟨q, hq⟩ : ∃ q, a / 8 = q := ⟨_, rfl⟩
            obtain ⟨r, hr8⟩ : ∃ r, a % 8 = r := ⟨_, rfl⟩
            have hr : r < 8 := by omega
            obtain ⟨d8, hd8⟩ : ∃ d8, 8 - r = d8 := ⟨_, rfl⟩
            obtain ⟨left, hleft⟩ : ∃ left, wd - got = left := ⟨_, rfl⟩
            obtain ⟨m, hm⟩ : ∃ m, min d8 left = m := ⟨_, rfl⟩
            have hm1 : 1 ≤ m ∧ m ≤ 8 ∧ r + m ≤ 8 ∧ m ≤ left := by omega
            have hqN : q < n := by have := Hal.out; omega
            have ham : a + m ≤ a0 + wd := by have := Hal.out; omega
            have Hal2 : Hid (a + m = a0 + (got + m)) := by show _ = _; rw [Hal.out]; omega
            have e1 : (a : Int) / 8 = (q : Int) := by omega
            have e2 : (a : Int) % 8 = (r : Int) := by omega
            have e3 : (a : Int).tdiv 8 = (q : Int) := by rw [Int.tdiv_eq_ediv_of_nonneg (by omega)]; omega
            have e4 : (a : Int).tmod 8 = (r : Int) := by rw [Int.tmod_eq_emod_of_nonneg (by omega)]; omega
            have e5 : IntKind.i64.wrap (q : Int) = (q : Int) := by rw [IntKind.wrap_i64]; omega
            have e6 : (8 : Int) - (r : Int) = (d8 : Int) := by omega
            have e6b : (wd : Int) - (got : Int) = (left : Int) := by omega
            have e7 : min (d8 : Int) (left : Int) = (m : Int) := by omega
            have hqb : q < b.length := by rw [Hl.out]; exact hqN
            obtain ⟨bb, bo, hAe, bq⟩ := u8c_get (Hr.out.below Hp.out.2) hqb
            obtain ⟨cq, fq⟩ := Hp.out.cell hin
            have hold8 := (b.getD q 0).toNat_lt
            have hst := unV_step b wd i got m a (by rw [Ha0.out]; exact Hal.out) (by omega)
            rw [hq, hr8] at hst
            have hXl := unV_lt b wd i got
            have hput := Lib.hid (Hp.out.put (g2 := got + m) hin)
            subst hAe
            generalize (b.getD q 0).toNat = O at *
            generalize unV b wd i (got + m) = X2 at *
            generalize unV b wd i got = X at *
            have hP2 : (2 : Nat) ^ m ≤ 2 ^ 8 := Nat.pow_le_pow_right (by omega) hm1.2.1
            obtain ⟨P, hP⟩ : ∃ P, 2 ^ m = P := ⟨_, rfl⟩
            have hP1 : 1 ≤ P := by rw [← hP]; exact Nat.two_pow_pos m
            obtain ⟨z, hz⟩ : ∃ z, 2 ^ r = z := ⟨_, rfl⟩
            have hz1 : 1 ≤ z := by rw [← hz]; exact Nat.two_pow_pos r
            obtain ⟨G, hG⟩ : ∃ G, 2 ^ got = G := ⟨_, rfl⟩
            obtain ⟨V, hV⟩ : ∃ V, O / z = V := ⟨_, rfl⟩
            have hVl : V < 256 := by rw [← hV]; exact Nat.lt_of_le_of_lt (Nat.div_le_self _ _) hold8
            have hX64 : X < 18446744073709551616 := Nat.lt_of_lt_of_le hXl (Nat.le_trans (Nat.pow_le_pow_right (by omega) (show got ≤ 64 by omega)) (by decide))
            have hUl : (V % P) * G < 18446744073709551616 := by
              rw [← hP, ← hG]
              have h1 : V % 2 ^ m < 2 ^ m := Nat.mod_lt _ (Nat.two_pow_pos m)
              have h2 : (V % 2 ^ m) * 2 ^ got < 2 ^ m * 2 ^ got := Nat.mul_lt_mul_of_pos_right h1 (Nat.two_pow_pos _)
              rw [← Nat.pow_add] at h2
              have h3 : 2 ^ (m + got) ≤ 2 ^ 64 := Nat.pow_le_pow_right (by omega) (by omega)
              omega
            rw [hz, hP, hG, hV] at hst
            rw [hP] at hP2
            rw [hG] at hXl
            have hand : bits .and .u64 (V : Int) ((P - 1 : Nat) : Int) = ((V % P : Nat) : Int) := by
              rw [u64_and_nat V (P - 1) (by omega) (by omega), ← hP, Nat.and_two_pow_sub_one_eq_mod]
            obtain ⟨Y, hY⟩ : ∃ Y, V % P = Y := ⟨_, rfl⟩
            rw [hY] at hUl hand hst
            obtain ⟨U, hU⟩ : ∃ U, Y * G = U := ⟨_, rfl⟩
            rw [hU] at hUl hst
            have z1 : (2 : Int) ^ m = (P : Int) := by rw [← hP]; simp
            have z2 : (2 : Int) ^ r = (z : Int) := by rw [← hz]; simp
            have z2b : (2 : Int) ^ got = (G : Int) := by rw [← hG]; simp
            have z3 : (P : Int) - 1 = ((P - 1 : Nat) : Int) := by omega
            have z4 : (Y : Int) * (G : Int) = (U : Int) := by rw [← hU]; exact (Int.natCast_mul Y G).symm
            have z5 : IntKind.u64.wrap (V : Int) = (V : Int) := by rw [IntKind.wrap_u64]; omega
            have z6 : IntKind.u64.wrap (U : Int) = (U : Int) := by rw [IntKind.wrap_u64]; omega
            have z7 : IntKind.u64.wrap (P : Int) = (P : Int) := by rw [IntKind.wrap_u64]; omega
            have z7b : IntKind.u64.wrap ((P - 1 : Nat) : Int) = ((P - 1 : Nat) : Int) := by rw [IntKind.wrap_u64]; omega
            have z8 : (O : Int) / (z : Int) = (V : Int) := by rw [← hV]; exact (Int.natCast_ediv O z).symm
            have z9 : IntKind.u8.wrap (V : Int) = (V : Int) := by rw [IntKind.wrap_u8]; omega
            have hor : bits .or .u64 (X : Int) (U : Int) = (X2 : Int) := by rw [u64_or_nat X U hX64 hUl, hst]
            have hqI : (q : Int) < (n : Int) := by omega
            have hqI0 : (0 : Int) ≤ (q : Int) := by omega
            generalize P - 1 = P1 at *
            clear hP hz hG hY hU hV hst hq hr8 hd8 hm hleft Hp hqb hXl hX64 hUl
            go_wp2_with fail
            go_region
            go_wp2_with fail
            refine ⟨⟨a + m, got + m, by go_num, by go_num, by omega, ham, Hal2, ⟨hput.out.1, hput.out.2.drew⟩⟩, by simp only [intOf]; omega⟩
          · obtain rfl : got = wd := by omega
            have Hal3 : Hid (a = a0 + got) := Hal
            have HP2 : Hid (UnAt b got (i + 1) 0 many g w wr) := by
              show UnAt _ _ _ _ _ _ _ _
              have := Hp.out
              unfold UnAt at this ⊢
              rw [← fillU_next]
              exact this
            clear Hp
            go_wp2_with fail
            go_roundw
            case rel => exact ⟨i + 1, by rw [Hnext.out, ← Hal3.out], by go_num, by omega, HP2⟩
            case measure => simp only [intOf, Int.toNat_natCast]; omega
      · obtain rfl : i = many := by omega
        have hO : Own wr w.heap.size 52 1 (some ⟨g, 0, none⟩) i i (ucl (unpackM b i wd)) := by
          rw [← fillU_all]
          exact HP.out.1
        have HO := Lib.hid hO.rd
        have Hbe := Lib.hid HP.out.2
        obtain ⟨at_, hat⟩ : ∃ a, i * wd = a := ⟨_, rfl⟩
        have Hat := Lib.hid hat
        rw [hat] at hNa hmw ⊢
        obtain ⟨r, hr8⟩ : ∃ r, at_ % 8 = r := ⟨_, rfl⟩
        have e4 : (at_ : Int).tmod 8 = (r : Int) := by rw [Int.tmod_eq_emod_of_nonneg (by omega)]; omega
        have e2 : (at_ : Int) % 8 = (r : Int) := by omega
        clear hat hO HP
        by_cases hr0 : r = 0
        · subst hr0
          have Htl : Hid (b.length = bytesN i wd ∧ tailOk b (i * wd) = true) := by
            refine ⟨by rw [Hl.out, HN.out], ?_⟩
            rw [Hat.out]
            unfold tailOk
            rw [decide_eq_true hr8, Bool.true_or]
          clear hr8
          go_wp2_with fail
          go_ret2
          exact ⟨.inr ⟨Htl.out, _, _, rfl, HO.out⟩, by first | exact Hbe.out | exact below_drewN' Hbe.out _⟩
        · have hn1 : n - 1 < b.length := by rw [Hl.out]; omega
          obtain ⟨bb, bo, hAe, bq⟩ := u8c_get (Hr.out.below Hbe.out) hn1
          have hold8 := (b.getD (n - 1) 0).toNat_lt
          have Htl : Hid (tailOk b (i * wd) = decide ((b.getD (n - 1) 0).toNat / 2 ^ r = 0)) := by
            show _ = _
            rw [Hat.out]
            unfold tailOk
            rw [decide_eq_false (by omega), Bool.false_or, Hl.out, hr8]
          obtain ⟨n1, hn1e⟩ : ∃ n1, n - 1 = n1 := ⟨_, rfl⟩
          rw [hn1e] at bq hold8 Htl
          have hn1I : (n : Int) - 1 = (n1 : Int) := by omega
          have hn1w : IntKind.i64.wrap (n1 : Int) = (n1 : Int) := by rw [IntKind.wrap_i64]; omega
          have hn1a : (n1 : Int) < (n : Int) := by omega
          have hn1b : (0 : Int) ≤ (n1 : Int) := by omega
          have hrp : (0 : Int) < (r : Int) := by omega
          have hrd : decide ((0 : Int) < (r : Int)) = true := decide_eq_true hrp
          have hrd2 : decide (0 < r) = true := decide_eq_true (by omega)
          subst hAe
          generalize (b.getD n1 0).toNat = O at *
          obtain ⟨z, hz⟩ : ∃ z, 2 ^ r = z := ⟨_, rfl⟩
          obtain ⟨V, hV⟩ : ∃ V, O / z = V := ⟨_, rfl⟩
          have hVl : V < 256 := by rw [← hV]; exact Nat.lt_of_le_of_lt (Nat.div_le_self _ _) hold8
          have z2 : (2 : Int) ^ r = (z : Int) := by rw [← hz]; simp
          have z8 : (O : Int) / (z : Int) = (V : Int) := by rw [← hV]; exact (Int.natCast_ediv O z).symm
          have z9 : IntKind.u8.wrap (V : Int) = (V : Int) := by rw [IntKind.wrap_u8]; omega
          rw [hz, hV] at Htl
          clear hz hV hn1e hr8 hn1
          by_cases hV0 : V = 0
          · subst hV0
            have Htl2 : Hid (b.length = bytesN i wd ∧ tailOk b (i * wd) = true) := ⟨by rw [Hl.out, HN.out], by rw [Htl.out]; rfl⟩
            clear Htl
            go_wp2_with fail
            go_ret2
            exact ⟨.inr ⟨Htl2.out, _, _, rfl, HO.out⟩, by first | exact Hbe.out | exact below_drewN' Hbe.out _⟩
          · have hv1 : ((V : Int) == 0) = false := by rw [beq_eq_false_iff_ne]; omega
            have hv2 : ((V : Int) != 0) = true := by rw [bne_iff_ne]; omega
            have Htl2 : Hid (¬ (b.length = bytesN i wd ∧ tailOk b (i * wd) = true)) := Lib.hid fun h => by
              rw [Htl.out, decide_eq_false hV0] at h
              exact absurd h.2 (by decide)
            clear Htl hV0
            go_wp2_with fail
            go_ret2
            exact ⟨.inl ⟨Htl2.out, rfl⟩, by first | exact Hbe.out | exact below_drewN' Hbe.out _⟩
  · have hne : ((n : Int) != (N : Int)) = true := by rw [bne_iff_ne]; omega
    have hne2 : ((n : Int) == (N : Int)) = false := by rw [beq_eq_false_iff_ne]; omega
    have Hno : Hid (¬ (b.length = bytesN many wd ∧ tailOk b (many * wd) = true)) := Lib.hid fun h => hnN (by rw [← Hl.out, h.1, HN.out])
    clear hnN
    go_enter Tryz.func38, Tryz.ntmps38
    go_wp2_with fail
    refine (Hby.out w).mono ?_
    rintro e w1 ⟨rfl, rfl⟩
    go_wp2_with fail
    go_ret2
    exact ⟨.inl ⟨Hno.out, rfl⟩, Below.refl _ _⟩
end Go.Proofs.YtojppmnmhdgnnaaGreat
namespace Go.Proofs.YtojppmnmhdgnnaaGreat
set_option linter.unusedVariables false
set_option linter.unusedSimpArgs false
open Go.RowKit

attribute [local go_sem ↓] Go.wp_at_zero Go.wp_at_succ

theorem make_ints (n : Nat) : (madeCells (Value.cells (.int .i64 0)) (n * 1)).toList = icl (List.replicate n 0) := by
  rw [show (Value.cells (.int .i64 0)) = #[.int .i64 0] from rfl, Nat.mul_one, toList_madeCells_one]
  unfold icl
  rw [List.map_replicate]
/-- So many of the numbers are there. -/
def fillI (V : List Int) (i many : Nat) : List Int := V.take i ++ List.replicate (many - i) 0
theorem fillI_set {V : List Int} {i many : Nat} (hV : V.length = many) (hi : i < many) : (fillI V i many).set i (V[i]'(by omega)) = fillI V (i + 1) many := by
  unfold fillI
  rw [List.set_append_right _ _ (by rw [List.length_take]; omega), List.length_take, show i - min i V.length = 0 by omega, List.take_succ_eq_append_getElem (show i < V.length by omega)]
  obtain ⟨k, hk⟩ : ∃ k, many - i = k + 1 := ⟨many - i - 1, by omega⟩
  rw [hk, List.replicate_succ, List.set_cons_zero, List.append_assoc, show many - (i + 1) = k by omega]
  rfl
theorem fillI_len {V : List Int} {i many : Nat} (hV : V.length = many) (hi : i ≤ many) : (fillI V i many).length = many := by
  unfold fillI
  rw [List.length_append, List.length_take, List.length_replicate]
  omega
def FrAt (V : List Int) (i many g : Nat) (w wr : World) : Prop :=
  Own wr w.heap.size 3 1 (some ⟨g, 0, none⟩) many many (icl (fillI V i many)) ∧ Below w.heap.size w wr
theorem FrAt.cell {V : List Int} {i many g : Nat} {w wr : World} (h : FrAt V i many g w wr) (hV : V.length = many) (hi : i < many) :
    (∃ x, wr.cell? ⟨g, i, none⟩ = some (.int .i64 x)) ∧ wr.frozen? ⟨g, i, none⟩ = false := by
  have hl := fillI_len (V := V) (i := i) hV (by omega)
  obtain ⟨b', o, e, hr⟩ := h.1.rd (by intro e; have := congrArg List.length e; rw [icl, List.length_map, hl, List.length_nil] at this; omega)
  cases e
  have := hr i (.int .i64 (fillI V i many)[i]) (by
    unfold icl
    rw [List.getElem?_map, List.getElem?_eq_getElem (by rw [hl]; exact hi)]
    rfl)
  rw [Nat.zero_add] at this
  exact ⟨⟨_, this⟩, (h.1.put (i := i) (by omega) (.int .i64 0)).2.2⟩
theorem FrAt.put {V : List Int} {i many g : Nat} {w wr : World} (h : FrAt V i many g w wr) (hV : V.length = many) (hi : i < many) :
    FrAt V (i + 1) many g w (wr.setCell ⟨g, i, none⟩ (.int .i64 (V[i]'(by omega)))) ∧ (wr.setCell ⟨g, i, none⟩ (.int .i64 (V[i]'(by omega)))).cell? ⟨g, i, none⟩ = some (.int .i64 (V[i]'(by omega))) := by
  have h1 := h.1.put (i := i) (by omega) (.int .i64 (V[i]'(by omega)))
  have h2 : (icl (fillI V i many)).set i (.int .i64 (V[i]'(by omega))) = icl (fillI V (i + 1) many) := by
    rw [← fillI_set hV hi]
    unfold icl
    rw [List.map_set]
  rw [h2] at h1
  have h3 : FrAt V (i + 1) many g w (wr.setCell ⟨g, i, none⟩ (.int .i64 (V[i]'(by omega)))) := ⟨h1.1, h.2.setCell (p := ⟨g, i, none⟩) (h.1.row_ge g rfl) _⟩
  refine ⟨h3, ?_⟩
  have hl := fillI_len (V := V) (i := i + 1) hV (by omega)
  obtain ⟨b', o, e, hr⟩ := h3.1.rd (by intro e; have := congrArg List.length e; rw [icl, List.length_map, hl, List.length_nil] at this; omega)
  cases e
  have := hr i (.int .i64 (V[i]'(by omega))) (by
    unfold icl fillI
    rw [List.getElem?_map, List.getElem?_append_left (by rw [List.length_take]; omega), List.getElem?_take, if_pos (by omega), List.getElem?_eq_getElem (by omega)]
    rfl)
  rw [Nat.zero_add] at this
  exact this
/-- The end of a row of bytes, as the program takes it. -/
theorem Bs_end {w : World} {bb bo : Nat} {b : List UInt8} (h : Rd w (some ⟨bb, bo, none⟩) (Bs b)) (k : Nat) : Rd w (some ⟨bb, bo + k, none⟩) (Bs (b.drop k)) := by
  by_cases hb : b = []
  · subst hb
    rw [List.drop_nil]
    exact Rd.nil _ _
  · obtain ⟨b', o, e, hr⟩ := h (by intro e; exact hb (by simpa using e))
    cases e
    have := Rd.part hr k (b.length - k)
    rw [← List.map_drop, List.take_of_length_le (by rw [List.length_map, List.length_drop]; exact Nat.le_refl _)] at this
    exact fun _ => ⟨bb, bo + k, rfl, this⟩

set_option maxHeartbeats 16000000 in
set_option maxRecDepth 100000 in
theorem unframe_any (b : List UInt8) (n c : Nat) (A : Option Addr) (w : World) (hl : b.length = n) (hr : Rd w A (Bs b)) (hn : n ≤ 500000) (hnc : n ≤ c) (hc : c ≤ 9223372036854775807) :
    Calls Tryz.prog 16 #[.slice A n c] w fun e w' => DecOK (unframeM b) w e w' := by
  have hnw := Lib.hid (rdr_new b n c A w hl hr (by omega))
  have Hl := Lib.hid hl
  have Hr := Lib.hid hr
  clear hl hr
  go_enter Tryz.func16, Tryz.ntmps16
  go_wp2_with fail
  refine hnw.out.mono ?_
  rintro e w1 ⟨p, rfl, hrd1, hp1, hb1⟩
  have Hb1 := Lib.hid hb1
  have hpz := hrd1.lt
  have hnu := Lib.hid (rdr_num p b false w1 hrd1)
  clear hnw hb1 hrd1
  go_wp2_with fail
  refine hnu.out.mono ?_
  rintro e w2 ⟨⟨ht, rfl, hrd⟩ | ⟨many, u, ht, rfl, hrd⟩, hk⟩
  · have HM : Hid (unframeM b = none) := by show _ = _; unfold unframeM; rw [ht]
    have Hb2 := Lib.hid (Hb1.out.trans (keeps_below hk hp1 (Nat.le_of_lt hpz)))
    have hen := Lib.hid (rdr_end p [] true w2 hrd.rdr)
    clear ht hrd hk hnu
    go_wp2_with fail
    refine hen.out.mono ?_
    rintro e w3 ⟨⟨h, _⟩ | ⟨-, rfl⟩, rfl⟩
    · cases h
    · go_wp2_with fail
      go_ret2
      exact ⟨.inl ⟨HM.out, 6, by decide, rfl⟩, Hb2.out⟩
  · have hm64 := (takeNum_lt ht).1
    have Hb2 := Lib.hid (Hb1.out.trans (keeps_below hk hp1 (Nat.le_of_lt hpz)))
    obtain ⟨k1, hk1, -⟩ := takeNum_suf ht
    have Hu := Lib.hid hk1
    have hbl := (takeNum_lt ht).2
    have hbn : b ≠ [] := by intro e; rw [e] at hbl; exact absurd hbl (Nat.not_lt_zero _)
    obtain ⟨bb, bo, hAe, -⟩ := u8c_get Hr.out (show 0 < b.length from List.length_pos_iff.2 hbn)
    subst hAe
    by_cases hm0 : many = 0
    · subst hm0
      have HM : Hid (unframeM b = if u = [] then some [] else none) := by show _ = _; unfold unframeM; rw [ht]; rfl
      have hen := Lib.hid (rdr_end p u false w2 hrd)
      clear ht hrd hk hnu hk1 hbl hbn
      go_wp2_with fail
      refine hen.out.mono ?_
      rintro e w3 ⟨⟨-, hu, rfl⟩ | ⟨hu, rfl⟩, rfl⟩
      · have HM2 : Hid (unframeM b = some []) := by show _ = _; rw [HM.out, if_pos hu]
        go_wp2_with fail
        go_ret2
        exact ⟨.inr ⟨[], none, 0, HM2.out, rfl, Rd.nil _ _⟩, Hb2.out⟩
      · have HM2 : Hid (unframeM b = none) := by show _ = _; rw [HM.out, if_neg (fun h => hu ⟨by first | rfl | trivial, h⟩)]
        clear hu
        go_wp2_with fail
        go_ret2
        exact ⟨.inl ⟨HM2.out, 6, by decide, rfl⟩, Hb2.out⟩
    · have hme : ((many : Int) == 0) = false := by rw [beq_eq_false_iff_ne]; omega
      by_cases hm4 : 4096 < many
      · have HM : Hid (unframeM b = none) := by
          show _ = _
          unfold unframeM
          rw [ht]
          dsimp only
          rw [if_neg hm0, if_pos hm4]
        have hmI : 4096 < (many : Int) := by omega
        clear ht hrd hk hnu hk1 hbl hbn
        go_wp2_with fail
        go_ret2
        exact ⟨.inl ⟨HM.out, 6, by decide, rfl⟩, Hb2.out⟩
      · have hmI : ¬ 4096 < (many : Int) := by omega
        have hm4' : many ≤ 4096 := by omega
        have HM : Hid (unframeM b = match takeNum u with
            | none => none
            | some (z, v) => match takeNum v with
              | none => none
              | some (w, t) =>
                if 64 < w ∨ t.length ≠ bytesN many w ∨ tailOk t (many * w) = false ∨ widthM (unpackM t many w) ≠ w ∨ 0 ∉ unpackM t many w then none
                else if ∀ m ∈ unpackM t many w, unzig z + (m : Int) ≤ 9223372036854775807 then some ((unpackM t many w).map fun (m : Nat) => unzig z + (m : Int)) else none) := by
          show _ = _
          unfold unframeM
          rw [ht]
          dsimp only
          rw [if_neg hm0, if_neg hm4]
          rfl
        have hin := Lib.hid (rdr_int p u false w2 hrd)
        have hp2 := hrd.lt
        clear ht hrd hk hnu hk1 hbl hbn
        go_wp2_with fail
        refine hin.out.mono ?_
        rintro e w3 ⟨⟨ht3, rfl, hrd3⟩ | ⟨z, v, ht3, rfl, hrd3⟩, hk3⟩
        · have HM2 : Hid (unframeM b = none) := by show _ = _; rw [HM.out, ht3]
          have Hb3 := Lib.hid (Hb2.out.trans (keeps_below hk3 hp1 (Nat.le_of_lt hp2)))
          have hnu := Lib.hid (rdr_num p [] true w3 hrd3.rdr)
          have hp3 := hrd3.rdr.lt
          clear ht3 hrd3 hk3 hin HM
          go_wp2_with fail
          refine hnu.out.mono ?_
          rintro e w4 ⟨⟨-, rfl, hrd4⟩ | ⟨_, _, ht4, -, -⟩, hk4⟩
          · have Hb4 := Lib.hid (Hb3.out.trans (keeps_below hk4 hp1 (Nat.le_of_lt hp3)))
            have hbd := Lib.hid (rdr_bad p [] true w4 hrd4.rdr)
            clear hrd4 hk4 hnu
            go_wp2_with fail
            refine hbd.out.mono ?_
            rintro e w5 ⟨rfl, rfl⟩
            go_wp2_with fail
            go_ret2
            exact ⟨.inl ⟨HM2.out, 6, by decide, rfl⟩, Hb4.out⟩
          · cases ht4
        · have Hb3 := Lib.hid (Hb2.out.trans (keeps_below hk3 hp1 (Nat.le_of_lt hp2)))
          have hnu := Lib.hid (rdr_num p v false w3 hrd3)
          have hp3 := hrd3.lt
          obtain ⟨k2, hk2, -⟩ := takeNum_suf ht3
          have hz64 := (takeNum_lt ht3).1
          have Hv : Hid (v = b.drop (k1 + k2)) := by show _ = _; rw [hk2, Hu.out, List.drop_drop]
          have HMv : Hid (unframeM b = match takeNum v with
              | none => none
              | some (w, t) =>
                if 64 < w ∨ t.length ≠ bytesN many w ∨ tailOk t (many * w) = false ∨ widthM (unpackM t many w) ≠ w ∨ 0 ∉ unpackM t many w then none
                else if ∀ m ∈ unpackM t many w, unzig z + (m : Int) ≤ 9223372036854775807 then some ((unpackM t many w).map fun (m : Nat) => unzig z + (m : Int)) else none) := by
            show _ = _
            rw [HM.out, ht3]
          have hzi := unzig_in hz64
          clear ht3 hrd3 hk3 hin HM hk2 hz64
          generalize unzig z = zz at *
          go_wp2_with fail
          refine hnu.out.mono ?_
          rintro e w4 ⟨⟨ht4, rfl, hrd4⟩ | ⟨wd, t, ht4, rfl, hrd4⟩, hk4⟩
          · have HM2 : Hid (unframeM b = none) := by show _ = _; rw [HMv.out, ht4]
            have Hb4 := Lib.hid (Hb3.out.trans (keeps_below hk4 hp1 (Nat.le_of_lt hp3)))
            have hbd := Lib.hid (rdr_bad p [] true w4 hrd4.rdr)
            clear ht4 hrd4 hk4 hnu HMv
            go_wp2_with fail
            refine hbd.out.mono ?_
            rintro e w5 ⟨rfl, rfl⟩
            go_wp2_with fail
            go_ret2
            exact ⟨.inl ⟨HM2.out, 6, by decide, rfl⟩, Hb4.out⟩
          · have Hb4 := Lib.hid (Hb3.out.trans (keeps_below hk4 hp1 (Nat.le_of_lt hp3)))
            have hbd := Lib.hid (rdr_bad p t false w4 hrd4)
            have hlf := Lib.hid (rdr_left p t false w4 hrd4)
            obtain ⟨k3, hk3, hk3l⟩ := takeNum_suf ht4
            have hwd64 := (takeNum_lt ht4).1
            have htv := (takeNum_lt ht4).2
            have hte : t = b.drop (k1 + k2 + k3) := by rw [hk3, Hv.out, List.drop_drop]
            have HMt : Hid (unframeM b = if 64 < wd ∨ t.length ≠ bytesN many wd ∨ tailOk t (many * wd) = false ∨ widthM (unpackM t many wd) ≠ wd ∨ 0 ∉ unpackM t many wd then none
                else if ∀ m ∈ unpackM t many wd, zz + (m : Int) ≤ 9223372036854775807 then some ((unpackM t many wd).map fun (m : Nat) => zz + (m : Int)) else none) := by
              show _ = _
              rw [HMv.out, ht4]
            by_cases hw64 : 64 < wd
            · have HM2 : Hid (unframeM b = none) := by show _ = _; rw [HMt.out, if_pos (.inl hw64)]
              have hwI : 64 < (wd : Int) := by omega
              clear ht4 hrd4 hk4 hnu HMv HMt hte hk3 hk3l htv
              go_wp2_with fail
              refine hbd.out.mono ?_
              rintro e w5 ⟨rfl, rfl⟩
              go_wp2_with fail
              go_ret2
              exact ⟨.inl ⟨HM2.out, 6, by decide, rfl⟩, Hb4.out⟩
            · have hwI : ¬ 64 < (wd : Int) := by omega
              have hwd : wd ≤ 64 := by omega
              have hwi : IntKind.i64.wrap (wd : Int) = (wd : Int) := by rw [IntKind.wrap_i64]; omega
              have hmi : IntKind.i64.wrap (many : Int) = (many : Int) := by rw [IntKind.wrap_i64]; omega
              have htn : t.length ≤ n := by rw [hte, List.length_drop, Hl.out]; omega
              obtain ⟨tl, htl⟩ : ∃ tl, t.length = tl := ⟨_, rfl⟩
              obtain ⟨k, hkk⟩ : ∃ k, n - tl = k := ⟨_, rfl⟩
              rw [htl] at htn hlf
              have hkI : (n : Int) - (tl : Int) = (k : Int) := by omega
              have htd : t = b.drop k := by
                have h1 := congrArg List.length hte
                rw [List.length_drop, htl, Hl.out] at h1
                by_cases h0 : k1 + k2 + k3 ≤ n
                · rw [hte]
                  congr 1
                  omega
                · rw [hte, List.drop_eq_nil_of_le (by rw [Hl.out]; omega), List.drop_eq_nil_of_le (by rw [Hl.out]; omega)]
              have Htl := Lib.hid htl
              have Hun := Lib.hid (fun (A : Option Addr) (c : Nat) (h : Rd w4 A (Bs t)) => unpack_any t many wd tl c A w4 htl h hm4' hwd)
              have Hrt : Hid (Rd w4 (some ⟨bb, bo + k, none⟩) (Bs t)) := by
                show Rd _ _ _
                rw [htd]
                exact Bs_end (Hr.out.below Hb4.out) k
              have hkc : k ≤ c := by omega
              have hnk : n - k = tl := by omega
              have hkz : (0 : Int) ≤ (k : Int) := by omega
              obtain ⟨pA, pc, hsl, HR4⟩ : ∃ (pA : Option Addr) (pc : Nat), (if k = c then (pA = some ⟨bb, bo, none⟩ ∧ pc = 0 ∧ tl = 0) else (pA = some ⟨bb, bo + k, none⟩ ∧ pc = c - k)) ∧ Hid (Rd w4 pA (Bs t)) := by
                by_cases h : k = c
                · have h0 : tl = 0 := by omega
                  refine ⟨some ⟨bb, bo, none⟩, 0, by rw [if_pos h]; exact ⟨rfl, rfl, h0⟩, ?_⟩
                  show Rd _ _ _
                  have : t = [] := List.eq_nil_of_length_eq_zero (by rw [htl]; exact h0)
                  rw [this]
                  exact Rd.nil _ _
                · exact ⟨some ⟨bb, bo + k, none⟩, c - k, by rw [if_neg h]; exact ⟨rfl, rfl⟩, Hrt.out⟩
              have Hun2 := Lib.hid (Hun.out pA pc HR4.out)
              clear ht4 hrd4 hk4 hnu HMv hte hk3 hk3l htv htl htd Hrt Hun HR4
              go_wp2_with fail
              refine hbd.out.mono ?_
              rintro e w5 ⟨rfl, rfl⟩
              by_cases hkc2 : k = c
              · rw [if_pos hkc2] at hsl
                obtain ⟨rfl, rfl, h0⟩ := hsl
                obtain rfl : n = c := by omega
                obtain rfl : k = n := hkc2
                obtain rfl : tl = 0 := h0
                clear hkI hnk htn hkk hkc
                have hk00 : (k : Int) - 0 = (k : Int) := by omega
                go_wp2_with fail
                refine hlf.out.mono ?_
                rintro e w5 ⟨rfl, rfl⟩
                go_wp2_with fail
                refine Hun2.out.mono ?_
                rintro e w6 ⟨⟨hno, rfl⟩ | ⟨⟨hyl, hyt⟩, UA, ud, rfl, hrU⟩, hb6⟩
                · have HM2 : Hid (unframeM b = none) := by
                    show _ = _
                    rw [HMt.out, if_pos]
                    by_cases h1 : t.length = bytesN many wd
                    · right; right; left
                      exact Bool.eq_false_iff.2 fun h => hno ⟨h1, h⟩
                    · exact .inr (.inl h1)
                  have Hb6 := Lib.hid (Hb4.out.trans (hb6.mono Hb4.out.size))
                  clear hno hb6 Hun2 HMt
                  go_wp2_with fail
                  go_ret2
                  exact ⟨.inl ⟨HM2.out, 6, by decide, rfl⟩, Hb6.out⟩
                · have Hb6 := Lib.hid (Hb4.out.trans (hb6.mono Hb4.out.size))
                  have hUl := unpackM_len t many wd
                  have hU64 : ∀ x ∈ unpackM t many wd, x < 18446744073709551616 := by
                    intro x hx
                    obtain ⟨i, -, rfl⟩ := List.mem_map.1 (show x ∈ (List.range many).map fun i => unV t wd i wd from hx)
                    exact Nat.lt_of_lt_of_le (unV_lt t wd i wd) (Nat.le_trans (Nat.pow_le_pow_right (by omega) hwd) (by decide))
                  have HM3 : Hid (unframeM b = if widthM (unpackM t many wd) ≠ wd ∨ 0 ∉ unpackM t many wd then none else if ∀ m ∈ unpackM t many wd, zz + (m : Int) ≤ 9223372036854775807 then some ((unpackM t many wd).map fun (m : Nat) => zz + (m : Int)) else none) := by
                    show _ = _
                    rw [HMt.out]
                    by_cases h : widthM (unpackM t many wd) ≠ wd ∨ 0 ∉ unpackM t many wd
                    · rw [if_pos h, if_pos (.inr (.inr (.inr h)))]
                    · rw [if_neg h, if_neg]
                      rintro (h1 | h1 | h1 | h1)
                      · exact hw64 h1
                      · exact h1 hyl
                      · rw [hyt] at h1; cases h1
                      · exact h h1
                  have hwid := Lib.hid (width_any (unpackM t many wd) many ud UA w6 hUl hrU (by omega) hU64)
                  have hcon := Lib.hid (u64c_any (unpackM t many wd) 0 UA many ud w6 hUl hrU (by omega))
                  generalize unpackM t many wd = U at *
                  have HrU := Lib.hid hrU
                  have HUl := Lib.hid hUl
                  have HU64 := Lib.hid hU64
                  clear hyl hyt hb6 Hun2 HMt hrU hUl hU64
                  by_cases hwe : widthM U = wd
                  · rw [hwe] at hwid
                    have hwn : ((wd : Int) != (wd : Int)) = false := by simp
                    by_cases h0 : 0 ∈ U
                    · rw [decide_eq_true h0] at hcon
                      have HM4 : Hid (unframeM b = if ∀ m ∈ U, zz + (m : Int) ≤ 9223372036854775807 then some (U.map fun (m : Nat) => zz + (m : Int)) else none) := by
                        show _ = _
                        rw [HM3.out, if_neg]
                        rintro (h | h)
                        · exact h hwe
                        · exact h h0
                      clear hwe h0 HM3
                      go_wp2_with fail
                      refine hwid.out.mono ?_
                      rintro e w7 ⟨rfl, rfl⟩
                      go_wp2_with fail
                      refine hcon.out.mono ?_
                      rintro e w7 ⟨rfl, rfl⟩
                      go_wp2_with (first | (at_builtin; refine hold ?_) | (at_make; refine hold ?_))
                      (with_reducible refine unhold ?_)
                      refine wpList_mkn rfl _ _ _ rfl Eint' w6.heap.size _ _ _ _ many rfl rfl rfl rfl (by omega) (by unfold maxLen; omega) (Nat.le_refl _) ?_
                      intro w8 ho8 hb8 _
                      rw [make_ints] at ho8
                      have Hfr : Hid (FrAt (U.map fun (m : Nat) => zz + (m : Int)) 0 many w6.heap.size w6 w8) := by
                        refine ⟨?_, hb8⟩
                        show Own _ _ _ _ _ _ _ (icl (List.take 0 _ ++ List.replicate (many - 0) 0))
                        rw [List.take_zero, List.nil_append, Nat.sub_zero]
                        exact ho8
                      have HVl : Hid ((U.map fun (m : Nat) => zz + (m : Int)).length = many) := by show _ = _; rw [List.length_map, HUl.out]
                      clear ho8 hb8
                      go_wp2_with fail
                      go_loopw [73] (fun vi wr => ∃ i : Nat, vi = .int .i64 (i : Int) ∧ i ≤ many ∧ Hid (∀ m ∈ U.take i, zz + (m : Int) ≤ 9223372036854775807) ∧ Hid (FrAt (U.map fun (m : Nat) => zz + (m : Int)) i many w6.heap.size w6 wr)) (fun vi _ => many - (intOf vi).toNat)
                      case atStart => exact ⟨0, rfl, by omega, by (show ∀ k ∈ ([] : List Nat), _); simp, Hfr⟩
                      case round =>
                        obtain ⟨i, rfl, hi, Hok, HF⟩ := hrel
                        by_cases hin : i < many
                        · have hiI : (i : Int) < (many : Int) := by omega
                          have hi0 : (0 : Int) ≤ (i : Int) := by omega
                          have hil : i < U.length := by rw [HUl.out]; exact hin
                          obtain ⟨ub, uo, hUe, u0⟩ := ucl_get (HrU.out.below HF.out.2) hil
                          obtain ⟨⟨ox, fc⟩, ff⟩ := HF.out.cell HVl.out hin
                          obtain ⟨hput, hcell⟩ := HF.out.put HVl.out hin
                          have hxm := HU64.out _ (List.getElem_mem hil)
                          have hts := List.take_succ_eq_append_getElem hil
                          have hVi : (U.map fun (m : Nat) => zz + (m : Int))[i]'(by rw [HVl.out]; exact hin) = zz + (U[i] : Int) := by rw [List.getElem_map]
                          have Hin := Lib.hid (List.getElem_mem hil)
                          rw [hVi] at hput hcell
                          subst hUe
                          generalize U[i] = x at *
                          obtain ⟨lu, hlu⟩ : ∃ lu : Nat, IntKind.u64.wrap zz = (lu : Int) := ⟨(zz % 18446744073709551616).toNat, by rw [IntKind.wrap_u64]; omega⟩
                          have hlu2 := hlu
                          rw [IntKind.wrap_u64] at hlu2
                          obtain ⟨ss, hss⟩ : ∃ ss : Nat, IntKind.u64.wrap ((lu : Int) + (x : Int)) = (ss : Int) := ⟨(((lu : Int) + (x : Int)) % 18446744073709551616).toNat, by rw [IntKind.wrap_u64]; omega⟩
                          have hss2 := hss
                          rw [IntKind.wrap_u64] at hss2
                          by_cases hov : zz + (x : Int) ≤ 9223372036854775807
                          · have hvv : IntKind.i64.wrap (ss : Int) = zz + (x : Int) := by rw [IntKind.wrap_i64]; omega
                            have hge : ¬ zz + (x : Int) < zz := by omega
                            have Hok2 : Hid (∀ m ∈ U.take (i + 1), zz + (m : Int) ≤ 9223372036854775807) := Lib.hid fun m hm => by
                              rw [hts, List.mem_append, List.mem_singleton] at hm
                              rcases hm with hm | rfl
                              · exact Hok.out m hm
                              · exact hov
                            have Hput := Lib.hid hput
                            clear hput hlu2 hss2 hts hVi hil hov HF
                            go_wp2_with fail
                            go_roundw
                            case rel => exact ⟨i + 1, by go_num, by omega, Hok2, Hput⟩
                            case measure => simp [intOf]; omega
                          · obtain ⟨vv, hv⟩ : ∃ vv, vv = zz + (x : Int) - 18446744073709551616 := ⟨_, rfl⟩
                            have hvv : IntKind.i64.wrap (ss : Int) = vv := by rw [IntKind.wrap_i64]; omega
                            have hge : vv < zz := by omega
                            have HM6 : Hid (unframeM b = none) := by
                              show _ = _
                              rw [HM4.out, if_neg]
                              exact fun h => hov (h _ Hin.out)
                            have hown := (HF.out.1.put (i := i) (by omega) (.int .i64 vv))
                            have hcell2 : (wr.setCell ⟨w6.heap.size, i, none⟩ (.int .i64 vv)).cell? ⟨w6.heap.size, i, none⟩ = some (.int .i64 vv) := by
                              obtain ⟨b', o, e, hr⟩ := hown.1.rd (by intro e; have := congrArg List.length e; rw [List.length_set, icl, List.length_map, fillI_len HVl.out (by omega), List.length_nil] at this; omega)
                              cases e
                              have := hr i (.int .i64 vv) (by rw [List.getElem?_set, if_pos rfl, if_pos (by rw [icl, List.length_map, fillI_len HVl.out (by omega)]; exact hin)])
                              rw [Nat.zero_add] at this
                              exact this
                            have Hbs : Hid (Below w.heap.size w (wr.setCell ⟨w6.heap.size, i, none⟩ (.int .i64 vv))) := Hb6.out.trans ((HF.out.2.setCell (p := ⟨w6.heap.size, i, none⟩) (Nat.le_refl _) (.int .i64 vv)).mono Hb6.out.size)
                            clear hput hcell hlu2 hss2 hts hVi hil hov HF hown hv
                            go_wp2_with fail
                            go_ret2
                            exact ⟨.inl ⟨HM6.out, 6, by decide, rfl⟩, Hbs.out⟩
                        · obtain rfl : i = many := by omega
                          have HM5 : Hid (unframeM b = some (U.map fun (m : Nat) => zz + (m : Int))) := by
                            show _ = _
                            rw [HM4.out, if_pos]
                            have := Hok.out
                            rwa [List.take_of_length_le (by rw [HUl.out]; exact Nat.le_refl _)] at this
                          have HR5 : Hid (Rd wr (some ⟨w6.heap.size, 0, none⟩) (icl (U.map fun (m : Nat) => zz + (m : Int)))) := by
                            have := HF.out.1.rd
                            unfold fillI at this
                            rwa [List.take_of_length_le (by rw [HVl.out]; exact Nat.le_refl _), Nat.sub_self, List.replicate_zero, List.append_nil] at this
                          go_wp2_with fail
                          go_ret2
                          exact ⟨.inr ⟨_, some ⟨w6.heap.size, 0, none⟩, i, HM5.out, by rw [HVl.out]; rfl, HR5.out⟩, Hb6.out.trans (HF.out.2.mono Hb6.out.size)⟩
                    · rw [decide_eq_false h0] at hcon
                      have HM2 : Hid (unframeM b = none) := by show _ = _; rw [HM3.out, if_pos (.inr h0)]
                      clear hwe h0 HM3
                      go_wp2_with fail
                      refine hwid.out.mono ?_
                      rintro e w7 ⟨rfl, rfl⟩
                      go_wp2_with fail
                      refine hcon.out.mono ?_
                      rintro e w7 ⟨rfl, rfl⟩
                      go_wp2_with fail
                      go_ret2
                      exact ⟨.inl ⟨HM2.out, 6, by decide, rfl⟩, Hb6.out⟩
                  · have HM2 : Hid (unframeM b = none) := by show _ = _; rw [HM3.out, if_pos (.inl hwe)]
                    have hwn : ((widthM U : Int) != (wd : Int)) = true := by rw [bne_iff_ne]; omega
                    have hwn2 : ((widthM U : Int) == (wd : Int)) = false := by rw [beq_eq_false_iff_ne]; omega
                    clear HM3 hwe
                    go_wp2_with fail
                    refine hwid.out.mono ?_
                    rintro e w7 ⟨rfl, rfl⟩
                    go_wp2_with fail
                    go_ret2
                    exact ⟨.inl ⟨HM2.out, 6, by decide, rfl⟩, Hb6.out⟩
              · rw [if_neg hkc2] at hsl
                obtain ⟨rfl, rfl⟩ := hsl
                have hnl : ¬ n = k → True := fun _ => trivial
                clear hkk
                go_wp2_with fail
                refine hlf.out.mono ?_
                rintro e w5 ⟨rfl, rfl⟩
                go_wp2_with fail
                try rw [hnk]
                refine Hun2.out.mono ?_
                rintro e w6 ⟨⟨hno, rfl⟩ | ⟨⟨hyl, hyt⟩, UA, ud, rfl, hrU⟩, hb6⟩
                · have HM2 : Hid (unframeM b = none) := by
                    show _ = _
                    rw [HMt.out, if_pos]
                    by_cases h1 : t.length = bytesN many wd
                    · right; right; left
                      exact Bool.eq_false_iff.2 fun h => hno ⟨h1, h⟩
                    · exact .inr (.inl h1)
                  have Hb6 := Lib.hid (Hb4.out.trans (hb6.mono Hb4.out.size))
                  clear hno hb6 Hun2 HMt
                  go_wp2_with fail
                  go_ret2
                  exact ⟨.inl ⟨HM2.out, 6, by decide, rfl⟩, Hb6.out⟩
                · have Hb6 := Lib.hid (Hb4.out.trans (hb6.mono Hb4.out.size))
                  have hUl := unpackM_len t many wd
                  have hU64 : ∀ x ∈ unpackM t many wd, x < 18446744073709551616 := by
                    intro x hx
                    obtain ⟨i, -, rfl⟩ := List.mem_map.1 (show x ∈ (List.range many).map fun i => unV t wd i wd from hx)
                    exact Nat.lt_of_lt_of_le (unV_lt t wd i wd) (Nat.le_trans (Nat.pow_le_pow_right (by omega) hwd) (by decide))
                  have HM3 : Hid (unframeM b = if widthM (unpackM t many wd) ≠ wd ∨ 0 ∉ unpackM t many wd then none else if ∀ m ∈ unpackM t many wd, zz + (m : Int) ≤ 9223372036854775807 then some ((unpackM t many wd).map fun (m : Nat) => zz + (m : Int)) else none) := by
                    show _ = _
                    rw [HMt.out]
                    by_cases h : widthM (unpackM t many wd) ≠ wd ∨ 0 ∉ unpackM t many wd
                    · rw [if_pos h, if_pos (.inr (.inr (.inr h)))]
                    · rw [if_neg h, if_neg]
                      rintro (h1 | h1 | h1 | h1)
                      · exact hw64 h1
                      · exact h1 hyl
                      · rw [hyt] at h1; cases h1
                      · exact h h1
                  have hwid := Lib.hid (width_any (unpackM t many wd) many ud UA w6 hUl hrU (by omega) hU64)
                  have hcon := Lib.hid (u64c_any (unpackM t many wd) 0 UA many ud w6 hUl hrU (by omega))
                  generalize unpackM t many wd = U at *
                  have HrU := Lib.hid hrU
                  have HUl := Lib.hid hUl
                  have HU64 := Lib.hid hU64
                  clear hyl hyt hb6 Hun2 HMt hrU hUl hU64
                  by_cases hwe : widthM U = wd
                  · rw [hwe] at hwid
                    have hwn : ((wd : Int) != (wd : Int)) = false := by simp
                    by_cases h0 : 0 ∈ U
                    · rw [decide_eq_true h0] at hcon
                      have HM4 : Hid (unframeM b = if ∀ m ∈ U, zz + (m : Int) ≤ 9223372036854775807 then some (U.map fun (m : Nat) => zz + (m : Int)) else none) := by
                        show _ = _
                        rw [HM3.out, if_neg]
                        rintro (h | h)
                        · exact h hwe
                        · exact h h0
                      clear hwe h0 HM3
                      go_wp2_with fail
                      refine hwid.out.mono ?_
                      rintro e w7 ⟨rfl, rfl⟩
                      go_wp2_with fail
                      refine hcon.out.mono ?_
                      rintro e w7 ⟨rfl, rfl⟩
                      go_wp2_with (first | (at_builtin; refine hold ?_) | (at_make; refine hold ?_))
                      (with_reducible refine unhold ?_)
                      refine wpList_mkn rfl _ _ _ rfl Eint' w6.heap.size _ _ _ _ many rfl rfl rfl rfl (by omega) (by unfold maxLen; omega) (Nat.le_refl _) ?_
                      intro w8 ho8 hb8 _
                      rw [make_ints] at ho8
                      have Hfr : Hid (FrAt (U.map fun (m : Nat) => zz + (m : Int)) 0 many w6.heap.size w6 w8) := by
                        refine ⟨?_, hb8⟩
                        show Own _ _ _ _ _ _ _ (icl (List.take 0 _ ++ List.replicate (many - 0) 0))
                        rw [List.take_zero, List.nil_append, Nat.sub_zero]
                        exact ho8
                      have HVl : Hid ((U.map fun (m : Nat) => zz + (m : Int)).length = many) := by show _ = _; rw [List.length_map, HUl.out]
                      clear ho8 hb8
                      go_wp2_with fail
                      go_loopw [73] (fun vi wr => ∃ i : Nat, vi = .int .i64 (i : Int) ∧ i ≤ many ∧ Hid (∀ m ∈ U.take i, zz + (m : Int) ≤ 9223372036854775807) ∧ Hid (FrAt (U.map fun (m : Nat) => zz + (m : Int)) i many w6.heap.size w6 wr)) (fun vi _ => many - (intOf vi).toNat)
                      case atStart => exact ⟨0, rfl, by omega, by (show ∀ k ∈ ([] : List Nat), _); simp, Hfr⟩
                      case round =>
                        obtain ⟨i, rfl, hi, Hok, HF⟩ := hrel
                        by_cases hin : i < many
                        · have hiI : (i : Int) < (many : Int) := by omega
                          have hi0 : (0 : Int) ≤ (i : Int) := by omega
                          have hil : i < U.length := by rw [HUl.out]; exact hin
                          obtain ⟨ub, uo, hUe, u0⟩ := ucl_get (HrU.out.below HF.out.2) hil
                          obtain ⟨⟨ox, fc⟩, ff⟩ := HF.out.cell HVl.out hin
                          obtain ⟨hput, hcell⟩ := HF.out.put HVl.out hin
                          have hxm := HU64.out _ (List.getElem_mem hil)
                          have hts := List.take_succ_eq_append_getElem hil
                          have hVi : (U.map fun (m : Nat) => zz + (m : Int))[i]'(by rw [HVl.out]; exact hin) = zz + (U[i] : Int) := by rw [List.getElem_map]
                          have Hin := Lib.hid (List.getElem_mem hil)
                          rw [hVi] at hput hcell
                          subst hUe
                          generalize U[i] = x at *
                          obtain ⟨lu, hlu⟩ : ∃ lu : Nat, IntKind.u64.wrap zz = (lu : Int) := ⟨(zz % 18446744073709551616).toNat, by rw [IntKind.wrap_u64]; omega⟩
                          have hlu2 := hlu
                          rw [IntKind.wrap_u64] at hlu2
                          obtain ⟨ss, hss⟩ : ∃ ss : Nat, IntKind.u64.wrap ((lu : Int) + (x : Int)) = (ss : Int) := ⟨(((lu : Int) + (x : Int)) % 18446744073709551616).toNat, by rw [IntKind.wrap_u64]; omega⟩
                          have hss2 := hss
                          rw [IntKind.wrap_u64] at hss2
                          by_cases hov : zz + (x : Int) ≤ 9223372036854775807
                          · have hvv : IntKind.i64.wrap (ss : Int) = zz + (x : Int) := by rw [IntKind.wrap_i64]; omega
                            have hge : ¬ zz + (x : Int) < zz := by omega
                            have Hok2 : Hid (∀ m ∈ U.take (i + 1), zz + (m : Int) ≤ 9223372036854775807) := Lib.hid fun m hm => by
                              rw [hts, List.mem_append, List.mem_singleton] at hm
                              rcases hm with hm | rfl
                              · exact Hok.out m hm
                              · exact hov
                            have Hput := Lib.hid hput
                            clear hput hlu2 hss2 hts hVi hil hov HF
                            go_wp2_with fail
                            go_roundw
                            case rel => exact ⟨i + 1, by go_num, by omega, Hok2, Hput⟩
                            case measure => simp [intOf]; omega
                          · obtain ⟨vv, hv⟩ : ∃ vv, vv = zz + (x : Int) - 18446744073709551616 := ⟨_, rfl⟩
                            have hvv : IntKind.i64.wrap (ss : Int) = vv := by rw [IntKind.wrap_i64]; omega
                            have hge : vv < zz := by omega
                            have HM6 : Hid (unframeM b = none) := by
                              show _ = _
                              rw [HM4.out, if_neg]
                              exact fun h => hov (h _ Hin.out)
                            have hown := (HF.out.1.put (i := i) (by omega) (.int .i64 vv))
                            have hcell2 : (wr.setCell ⟨w6.heap.size, i, none⟩ (.int .i64 vv)).cell? ⟨w6.heap.size, i, none⟩ = some (.int .i64 vv) := by
                              obtain ⟨b', o, e, hr⟩ := hown.1.rd (by intro e; have := congrArg List.length e; rw [List.length_set, icl, List.length_map, fillI_len HVl.out (by omega), List.length_nil] at this; omega)
                              cases e
                              have := hr i (.int .i64 vv) (by rw [List.getElem?_set, if_pos rfl, if_pos (by rw [icl, List.length_map, fillI_len HVl.out (by omega)]; exact hin)])
                              rw [Nat.zero_add] at this
                              exact this
                            have Hbs : Hid (Below w.heap.size w (wr.setCell ⟨w6.heap.size, i, none⟩ (.int .i64 vv))) := Hb6.out.trans ((HF.out.2.setCell (p := ⟨w6.heap.size, i, none⟩) (Nat.le_refl _) (.int .i64 vv)).mono Hb6.out.size)
                            clear hput hcell hlu2 hss2 hts hVi hil hov HF hown hv
                            go_wp2_with fail
                            go_ret2
                            exact ⟨.inl ⟨HM6.out, 6, by decide, rfl⟩, Hbs.out⟩
                        · obtain rfl : i = many := by omega
                          have HM5 : Hid (unframeM b = some (U.map fun (m : Nat) => zz + (m : Int))) := by
                            show _ = _
                            rw [HM4.out, if_pos]
                            have := Hok.out
                            rwa [List.take_of_length_le (by rw [HUl.out]; exact Nat.le_refl _)] at this
                          have HR5 : Hid (Rd wr (some ⟨w6.heap.size, 0, none⟩) (icl (U.map fun (m : Nat) => zz + (m : Int)))) := by
                            have := HF.out.1.rd
                            unfold fillI at this
                            rwa [List.take_of_length_le (by rw [HVl.out]; exact Nat.le_refl _), Nat.sub_self, List.replicate_zero, List.append_nil] at this
                          go_wp2_with fail
                          go_ret2
                          exact ⟨.inr ⟨_, some ⟨w6.heap.size, 0, none⟩, i, HM5.out, by rw [HVl.out]; rfl, HR5.out⟩, Hb6.out.trans (HF.out.2.mono Hb6.out.size)⟩
                    · rw [decide_eq_false h0] at hcon
                      have HM2 : Hid (unframeM b = none) := by show _ = _; rw [HM3.out, if_pos (.inr h0)]
                      clear hwe h0 HM3
                      go_wp2_with fail
                      refine hwid.out.mono ?_
                      rintro e w7 ⟨rfl, rfl⟩
                      go_wp2_with fail
                      refine hcon.out.mono ?_
                      rintro e w7 ⟨rfl, rfl⟩
                      go_wp2_with fail
                      go_ret2
                      exact ⟨.inl ⟨HM2.out, 6, by decide, rfl⟩, Hb6.out⟩
                  · have HM2 : Hid (unframeM b = none) := by show _ = _; rw [HM3.out, if_pos (.inl hwe)]
                    have hwn : ((widthM U : Int) != (wd : Int)) = true := by rw [bne_iff_ne]; omega
                    have hwn2 : ((widthM U : Int) == (wd : Int)) = false := by rw [beq_eq_false_iff_ne]; omega
                    clear HM3 hwe
                    go_wp2_with fail
                    refine hwid.out.mono ?_
                    rintro e w7 ⟨rfl, rfl⟩
                    go_wp2_with fail
                    go_ret2
                    exact ⟨.inl ⟨HM2.out, 6, by decide, rfl⟩, Hb6.out⟩
end Go.Proofs.YtojppmnmhdgnnaaGreat
namespace Go.Proofs.YtojppmnmhdgnnaaGreat
set_option linter.unusedVariables false
set_option linter.unusedSimpArgs false
open Go.RowKit

attribute [local go_sem ↓] Go.wp_at_zero Go.wp_at_succ

set_option maxHeartbeats 16000000 in
set_option maxRecDepth 100000 in
theorem dltake_any (b : List UInt8) (n c : Nat) (A : Option Addr) (w : World) (hl : b.length = n) (hr : Rd w A (Bs b)) (hn : n ≤ 500000) :
    Calls Tryz.prog 17 #[.slice A n c] w fun e w' => DecOK (deltaTakeM b) w e w' := by
  have hnw := Lib.hid (rdr_new b n c A w hl hr (by omega))
  clear hl hr
  go_enter Tryz.func17, Tryz.ntmps17
  go_wp2_with fail
  refine hnw.out.mono ?_
  rintro e w1 ⟨p, rfl, hrd1, hp1, hb1⟩
  have Hb1 := Lib.hid hb1
  have hpz := hrd1.lt
  have hnu := Lib.hid (rdr_num p b false w1 hrd1)
  clear hnw hb1 hrd1
  go_wp2_with fail
  refine hnu.out.mono ?_
  rintro e w2 ⟨he, hk⟩
  have Hb2 := Lib.hid (Hb1.out.trans (keeps_below hk hp1 (Nat.le_of_lt hpz)))
  obtain ⟨N, u, bad0, rfl, HR, Hbt, Hbf⟩ : ∃ (N : Nat) (u : List UInt8) (bad0 : Bool), e = .returned (.int .u64 (N : Int)) ∧ Hid (Rdr w2 p u bad0) ∧ Hid (bad0 = true → N = 0 ∧ deltaTakeM b = none) ∧ Hid (bad0 = false → takeNum b = some (N, u)) := by
    rcases he with ⟨ht, rfl, hrd⟩ | ⟨N, u, ht, rfl, hrd⟩
    · exact ⟨0, [], true, rfl, hrd.rdr, (fun _ => ⟨rfl, by unfold deltaTakeM; rw [ht]⟩), (fun h => by cases h)⟩
    · exact ⟨N, u, false, rfl, hrd, (fun h => by cases h), fun _ => ht⟩
  clear he hk hnu
  have hp1' : w.heap.size ≤ p := hp1
  by_cases hN4 : 4096 < N
  · have HM : Hid (deltaTakeM b = none) := by
      show _ = _
      cases bad0 with
      | true => exact (Hbt.out rfl).2
      | false =>
        unfold deltaTakeM
        rw [Hbf.out rfl]
        exact if_pos hN4
    have hNI : 4096 < (N : Int) := by omega
    clear Hbt Hbf
    go_wp2_with fail
    go_ret2
    exact ⟨.inl ⟨HM.out, 6, by decide, rfl⟩, Hb2.out⟩
  · have hNI : ¬ 4096 < (N : Int) := by omega
    have hN4' : N ≤ 4096 := by omega
    have HM0 : Hid (bad0 = false → deltaTakeM b = (deltaRd N 0 u).bind fun x => if x.2 = [] then some x.1 else none) := Lib.hid fun h => by
      unfold deltaTakeM
      rw [Hbf.out h]
      exact if_neg hN4
    go_wp2_with fail
    go_loopw [6, 7, 18] (fun v6 v7 v18 wr => ∃ (j : Nat) (A' : Option Addr) (d : Nat) (x : List Int) (last : Int) (pc : List UInt8) (bad : Bool), v6 = .slice A' j d ∧ v7 = .int .i64 last ∧ v18 = .int .u64 (j : Int) ∧ j ≤ N ∧ (-9223372036854775808 ≤ last ∧ last ≤ 9223372036854775807) ∧ Hid (Rdr wr p pc bad) ∧ Hid (Own wr w.heap.size 3 1 A' j d (icl x)) ∧ Hid (Below w.heap.size w wr) ∧ Hid (bad = true → deltaTakeM b = none) ∧ Hid (bad = false → bad0 = false ∧ deltaRd N 0 u = (deltaRd (N - j) last pc).map fun y => (x ++ y.1, y.2))) (fun _ _ v18 _ => N - (intOf v18).toNat)
    case atStart => exact ⟨0, none, 0, [], 0, u, bad0, rfl, rfl, rfl, by omega, by omega, HR, Own.nil _ _ _ _, Hb2, (fun h => (Hbt.out h).2), (fun h => ⟨h, by simp⟩)⟩
    case round =>
      obtain ⟨j, A', d, x, last, pc, bad, rfl, rfl, rfl, hj, hlr, HR, Ho, Hb, Hbt1, Hbf1⟩ := hrel
      by_cases hjn : j < N
      · have hjI : (j : Int) < (N : Int) := by omega
        have hpr := HR.out.lt
        have hin := Lib.hid (rdr_int p pc bad wr HR.out)
        go_wp2_with fail
        refine hin.out.mono ?_
        rintro e w4 ⟨⟨ht4, rfl, hrd4⟩ | ⟨z, v, ht4, rfl, hrd4⟩, hk4⟩
        · have Ho4 := Lib.hid (Own.keeps Ho.out (by decide) hk4)
          have Hb4 := Lib.hid (Hb.out.trans (keeps_below hk4 hp1' (Nat.le_of_lt hpr)))
          have Hr4 : Hid (Rdr w4 p [] true) := hrd4.rdr
          have Hn4 : Hid (deltaTakeM b = none) := by
            show _ = _
            cases bad with
            | true => exact Hbt1.out rfl
            | false =>
              obtain ⟨h1, h2⟩ := Hbf1.out rfl
              rw [HM0.out h1, h2]
              obtain ⟨k, hk⟩ : ∃ k, N - j = k + 1 := ⟨N - j - 1, by omega⟩
              rw [hk, deltaRd, ht4]
              rfl
          have hw0 : IntKind.i64.wrap (last + 0) = last := by rw [IntKind.wrap_i64]; omega
          have hll : ¬ last < last := by omega
          clear hin Ho Hb HR ht4 hrd4 hk4 Hbt1 Hbf1
          have hba : Below w4.heap.size w4 (w4.alloc (.cells #[.int .i64 last] 3)) := (Below.refl _ _).alloc (Nat.le_refl _) _
          have hnew := (Blk.new w4 3 #[.int .i64 last]).range
          have ho7 := Own.below Ho4.out hba
          have hr7 := Hr4.out.below hba
          have hb7 := Hb4.out.trans (hba.mono Hb4.out.size)
          have hz7 := hb7.size
          clear hba Ho4 Hr4 Hb4
          go_wp2_with (first | (at_builtin; refine hold ?_) | (at_make; refine hold ?_))
          (with_reducible refine unhold ?_)
          refine wpList_apd rfl _ _ _ rfl Eint' w.heap.size _ j _ (icl x) rfl ho7 _ 1 _ [.int .i64 last] rfl rfl (fun _ => ⟨_, _, rfl, hnew⟩) (by simp [Value.oneCell']) (j + 1) rfl _ rfl (by omega) (by omega) hz7 ?_
          intro A8 c8 w8 ho8 hg8 _
          have e8 : icl x ++ [.int .i64 last] = icl (x ++ [last]) := (icl_append x [last]).symm
          rw [e8] at ho8
          have Hr8 : Hid (Rdr w8 p [] true) := hr7.keeps (by decide) (by decide) (ho7.apd_keeps hg8)
          have Ho8 := Lib.hid ho8
          have Hb8 := Lib.hid (hb7.grown hg8 hz7 ho7.row_ge)
          clear ho8 hg8 ho7 hr7 hb7 hnew e8 hz7
          go_wp2_with fail
          go_roundw
          case rel => exact ⟨j + 1, A8, c8, x ++ [last], last, [], true, rfl, rfl, by go_num, by omega, hlr, Hr8, Ho8, Hb8, (fun _ => Hn4.out), (fun h => by cases h)⟩
          case measure => simp only [intOf, Int.toNat_natCast]; omega
        · have Ho4 := Lib.hid (Own.keeps Ho.out (by decide) hk4)
          have Hb4 := Lib.hid (Hb.out.trans (keeps_below hk4 hp1' (Nat.le_of_lt hpr)))
          have Hr4 : Hid (Rdr w4 p v bad) := hrd4
          have hzi := unzig_in (takeNum_lt ht4).1
          have Hst : Hid (bad = false → bad0 = false ∧ deltaRd N 0 u = (if -9223372036854775808 ≤ last + unzig z ∧ last + unzig z ≤ 9223372036854775807 then (deltaRd (N - (j + 1)) (last + unzig z) v).map fun y => ((last + unzig z) :: y.1, y.2) else none).map fun y => (x ++ y.1, y.2)) := Lib.hid fun h => by
            obtain ⟨h1, h2⟩ := Hbf1.out h
            refine ⟨h1, ?_⟩
            rw [h2]
            obtain ⟨k, hk⟩ : ∃ k, N - j = k + 1 := ⟨N - j - 1, by omega⟩
            have hk2 : N - (j + 1) = k := by omega
            rw [hk, hk2, deltaRd, ht4]
          clear hin Ho Hb HR ht4 hrd4 hk4 Hbf1
          generalize unzig z = s at *
          by_cases hin2 : -9223372036854775808 ≤ last + s ∧ last + s ≤ 9223372036854775807
          · obtain ⟨nx, hnx⟩ : ∃ nx, last + s = nx := ⟨_, rfl⟩
            have hw0 : IntKind.i64.wrap (last + s) = nx := by rw [IntKind.wrap_i64]; omega
            have Hst2 : Hid (bad = false → bad0 = false ∧ deltaRd N 0 u = (deltaRd (N - (j + 1)) nx v).map fun y => (x ++ [nx] ++ y.1, y.2)) := Lib.hid fun h => by
              obtain ⟨h1, h2⟩ := Hst.out h
              refine ⟨h1, ?_⟩
              rw [h2, if_pos hin2, hnx, Option.map_map]
              congr 1
              funext y
              show (x ++ (nx :: y.1), y.2) = _
              rw [List.append_assoc]
              rfl
            have hnr : -9223372036854775808 ≤ nx ∧ nx ≤ 9223372036854775807 := by omega
            by_cases hs : s < 0
            · have hll : nx < last := by omega
              have d1 : decide (nx < last) = true := decide_eq_true hll
              have d2 : decide (s < 0) = true := decide_eq_true hs
              have d3 : (decide (nx < last) != decide (s < 0)) = false := by rw [d1, d2]; rfl
              clear hin2 hnx Hst
              have hba : Below w4.heap.size w4 (w4.alloc (.cells #[.int .i64 nx] 3)) := (Below.refl _ _).alloc (Nat.le_refl _) _
              have hnew := (Blk.new w4 3 #[.int .i64 nx]).range
              have ho7 := Own.below Ho4.out hba
              have hr7 := Hr4.out.below hba
              have hb7 := Hb4.out.trans (hba.mono Hb4.out.size)
              have hz7 := hb7.size
              clear hba Ho4 Hr4 Hb4
              go_wp2_with (first | (at_builtin; refine hold ?_) | (at_make; refine hold ?_))
              (with_reducible refine unhold ?_)
              refine wpList_apd rfl _ _ _ rfl Eint' w.heap.size _ j _ (icl x) rfl ho7 _ 1 _ [.int .i64 nx] rfl rfl (fun _ => ⟨_, _, rfl, hnew⟩) (by simp [Value.oneCell']) (j + 1) rfl _ rfl (by omega) (by omega) hz7 ?_
              intro A8 c8 w8 ho8 hg8 _
              have e8 : icl x ++ [.int .i64 nx] = icl (x ++ [nx]) := (icl_append x [nx]).symm
              rw [e8] at ho8
              have Hr8 : Hid (Rdr w8 p v bad) := hr7.keeps (by decide) (by decide) (ho7.apd_keeps hg8)
              have Ho8 := Lib.hid ho8
              have Hb8 := Lib.hid (hb7.grown hg8 hz7 ho7.row_ge)
              clear ho8 hg8 ho7 hr7 hb7 hnew e8 hz7
              go_wp2_with fail
              go_roundw
              case rel => exact ⟨j + 1, A8, c8, x ++ [nx], nx, v, bad, rfl, rfl, by go_num, by omega, hnr, Hr8, Ho8, Hb8, Hbt1, Hst2⟩
              case measure => simp only [intOf, Int.toNat_natCast]; omega
            · have hll : ¬ nx < last := by omega
              have d1 : decide (nx < last) = false := decide_eq_false hll
              have d2 : decide (s < 0) = false := decide_eq_false hs
              have d3 : (decide (nx < last) != decide (s < 0)) = false := by rw [d1, d2]; rfl
              clear hin2 hnx Hst hll hs
              have hba : Below w4.heap.size w4 (w4.alloc (.cells #[.int .i64 nx] 3)) := (Below.refl _ _).alloc (Nat.le_refl _) _
              have hnew := (Blk.new w4 3 #[.int .i64 nx]).range
              have ho7 := Own.below Ho4.out hba
              have hr7 := Hr4.out.below hba
              have hb7 := Hb4.out.trans (hba.mono Hb4.out.size)
              have hz7 := hb7.size
              clear hba Ho4 Hr4 Hb4
              go_wp2_with (first | (at_builtin; refine hold ?_) | (at_make; refine hold ?_))
              (with_reducible refine unhold ?_)
              refine wpList_apd rfl _ _ _ rfl Eint' w.heap.size _ j _ (icl x) rfl ho7 _ 1 _ [.int .i64 nx] rfl rfl (fun _ => ⟨_, _, rfl, hnew⟩) (by simp [Value.oneCell']) (j + 1) rfl _ rfl (by omega) (by omega) hz7 ?_
              intro A8 c8 w8 ho8 hg8 _
              have e8 : icl x ++ [.int .i64 nx] = icl (x ++ [nx]) := (icl_append x [nx]).symm
              rw [e8] at ho8
              have Hr8 : Hid (Rdr w8 p v bad) := hr7.keeps (by decide) (by decide) (ho7.apd_keeps hg8)
              have Ho8 := Lib.hid ho8
              have Hb8 := Lib.hid (hb7.grown hg8 hz7 ho7.row_ge)
              clear ho8 hg8 ho7 hr7 hb7 hnew e8 hz7
              go_wp2_with fail
              go_roundw
              case rel => exact ⟨j + 1, A8, c8, x ++ [nx], nx, v, bad, rfl, rfl, by go_num, by omega, hnr, Hr8, Ho8, Hb8, Hbt1, Hst2⟩
              case measure => simp only [intOf, Int.toNat_natCast]; omega
          · have HM6 : Hid (deltaTakeM b = none) := by
              show _ = _
              cases bad with
              | true => exact Hbt1.out rfl
              | false =>
                obtain ⟨h1, h2⟩ := Hst.out rfl
                rw [HM0.out h1, h2, if_neg hin2]
                rfl
            by_cases hs : s < 0
            · obtain ⟨nx, hnx⟩ : ∃ nx, last + s + 18446744073709551616 = nx := ⟨_, rfl⟩
              have hw0 : IntKind.i64.wrap (last + s) = nx := by rw [IntKind.wrap_i64]; omega
              have hll : ¬ nx < last := by omega
              have d1 : decide (nx < last) = false := decide_eq_false hll
              have d2 : decide (s < 0) = true := decide_eq_true hs
              have d3 : (decide (nx < last) != decide (s < 0)) = true := by rw [d1, d2]; rfl
              clear hin2 hnx Hst hll hs
              go_wp2_with fail
              go_ret2
              exact ⟨.inl ⟨HM6.out, 6, by decide, rfl⟩, Hb4.out⟩
            · obtain ⟨nx, hnx⟩ : ∃ nx, last + s - 18446744073709551616 = nx := ⟨_, rfl⟩
              have hw0 : IntKind.i64.wrap (last + s) = nx := by rw [IntKind.wrap_i64]; omega
              have hll : nx < last := by omega
              have d1 : decide (nx < last) = true := decide_eq_true hll
              have d2 : decide (s < 0) = false := decide_eq_false hs
              have d3 : (decide (nx < last) != decide (s < 0)) = true := by rw [d1, d2]; rfl
              clear hin2 hnx Hst hll hs
              go_wp2_with fail
              go_ret2
              exact ⟨.inl ⟨HM6.out, 6, by decide, rfl⟩, Hb4.out⟩
      · obtain rfl : j = N := by omega
        have hen := Lib.hid (rdr_end p pc bad wr HR.out)
        have hxl : Hid (x.length = j) := by
          show _ = _
          have := Ho.out.1
          rw [icl, List.length_map, Nat.mul_one] at this
          exact this
        go_wp2_with fail
        refine hen.out.mono ?_
        rintro e w5 ⟨⟨hb0, hp0, rfl⟩ | ⟨hne, rfl⟩, rfl⟩
        · obtain ⟨h1, h2⟩ := Hbf1.out hb0
          have HM6 : Hid (deltaTakeM b = some x) := by
            show _ = _
            rw [HM0.out h1, h2, Nat.sub_self, hp0]
            show (if ([] : List UInt8) = [] then some (x ++ []) else none) = _
            rw [if_pos rfl, List.append_nil]
          clear h1 h2 hb0 hp0 Hbt1 Hbf1
          go_wp2_with fail
          go_ret2
          exact ⟨.inr ⟨x, A', d, HM6.out, by rw [hxl.out]; rfl, Ho.out.rd⟩, Hb.out⟩
        · have HM6 : Hid (deltaTakeM b = none) := by
            show _ = _
            cases bad with
            | true => exact Hbt1.out rfl
            | false =>
              obtain ⟨h1, h2⟩ := Hbf1.out rfl
              rw [HM0.out h1, h2, Nat.sub_self]
              show (if pc = [] then some (x ++ []) else none) = _
              exact if_neg (fun h => hne ⟨rfl, h⟩)
          clear hne Hbt1 Hbf1
          go_wp2_with fail
          go_ret2
          exact ⟨.inl ⟨HM6.out, 6, by decide, rfl⟩, Hb.out⟩
end Go.Proofs.YtojppmnmhdgnnaaGreat
