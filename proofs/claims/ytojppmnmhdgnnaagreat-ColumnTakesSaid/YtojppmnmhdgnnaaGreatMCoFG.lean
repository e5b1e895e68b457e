/- Walks: numbers side by side, bit by bit: the program's. Walks: numbers side by side, bit by bit: the reference's. -/
import Derived.Test.YtojppmnmhdgnnaaGreatMCoDE
import Derived.Test.YtojppmnmhdgnnaaGreatMOwDE
namespace Go.Proofs.YtojppmnmhdgnnaaGreat
set_option linter.unusedVariables false
set_option linter.unusedSimpArgs false
open Go.RowKit

attribute [local go_sem ↓] Go.wp_at_zero Go.wp_at_succ

theorem Bs_get {bs : List UInt8} {k : Nat} (hk : k < bs.length) : (Bs bs)[k]? = some (.int .u8 ((bs.getD k 0).toNat : Int)) := by
  unfold Bs
  rw [List.getElem?_map, List.getElem?_eq_getElem hk, List.getD_eq_getElem?_getD, List.getElem?_eq_getElem hk]
  rfl
theorem Bs_set (bs : List UInt8) (k m : Nat) (h : m < 256) : (Bs bs).set k (.int .u8 (m : Int)) = Bs (bs.set k (byteN m)) := by
  unfold Bs B
  rw [List.map_set, byteN_toNat, Nat.mod_eq_of_lt h]
theorem make_bytes (n : Nat) : (madeCells (Value.cells (.int .u8 0)) (n * 1)).toList = Bs (List.replicate n 0) := by
  rw [show (Value.cells (.int .u8 0)) = #[.int .u8 0] from rfl, Nat.mul_one, toList_madeCells_one]
  unfold Bs
  rw [List.map_replicate]
  rfl
/-- Bytes that are filled bit by bit. -/
def PackAt (l : List Nat) (wd at_ n g : Nat) (w wr : World) : Prop :=
  Own wr w.heap.size 5 1 (some ⟨g, 0, none⟩) n n (Bs (bitsTo l wd at_ n)) ∧ Below w.heap.size w wr
theorem PackAt.cell {l : List Nat} {wd at_ n g : Nat} {w wr : World} (h : PackAt l wd at_ n g w wr) {q : Nat} (hq : q < n) :
    wr.cell? ⟨g, q, none⟩ = some (.int .u8 (((bitsTo l wd at_ n).getD q 0).toNat : Int)) ∧ wr.frozen? ⟨g, q, none⟩ = false := by
  obtain ⟨b, o, e, hr⟩ := h.1.rd (by intro e; have := congrArg List.length e; rw [Bs, List.length_map, bitsTo_len, List.length_nil] at this; omega)
  cases e
  have := hr q _ (Bs_get (by rw [bitsTo_len]; exact hq))
  rw [Nat.zero_add] at this
  exact ⟨this, (h.1.put (i := q) (by omega) (.int .u8 0)).2.2⟩
theorem PackAt.put {l : List Nat} {wd at_ at2 n g : Nat} {w wr : World} (h : PackAt l wd at_ n g w wr) {q m : Nat} (hq : q < n) (hm : m < 256) (he : (bitsTo l wd at_ n).set q (byteN m) = bitsTo l wd at2 n) :
    PackAt l wd at2 n g w (wr.setCell ⟨g, q, none⟩ (.int .u8 (m : Int))) := by
  have h1 := h.1.put (i := q) (by omega) (.int .u8 (m : Int))
  rw [Bs_set _ _ _ hm, he] at h1
  exact ⟨h1.1, h.2.setCell (p := ⟨g, q, none⟩) (h.1.row_ge g rfl) _⟩

set_option maxHeartbeats 16000000 in
set_option maxRecDepth 100000 in
theorem pack_any (l : List Nat) (n c wd : Nat) (A : Option Addr) (w : World) (hl : l.length = n) (hr : Rd w A (ucl l)) (hn : n ≤ 4096) (hwd : wd ≤ 64) (hin : ∀ x ∈ l, x < 2 ^ wd) :
    Calls Tryz.prog 90 #[.slice A n c, .int .i64 (wd : Int)] w fun e w' => BytOK (packB l wd) w e w' := by
  have hin64 : ∀ x ∈ l, x < 18446744073709551616 := fun x hx => Nat.lt_of_lt_of_le (hin x hx) (Nat.pow_le_pow_right (by omega) hwd : 2 ^ wd ≤ 2 ^ 64)
  have hby := Lib.hid (fun w' => bytes_any n wd w' hn hwd)
  have hwi := Lib.hid (width_any l n c A w hl hr (by omega) hin64)
  have hww := (width_le hin64 hwd).2 hin
  have Hl := Lib.hid hl
  have Hr := Lib.hid hr
  have Hin := Lib.hid hin
  have Hin64 := Lib.hid hin64
  obtain ⟨V, hV⟩ : ∃ V, widthM l = V := ⟨_, rfl⟩
  rw [hV] at hwi hww
  have hVI : ¬ (wd : Int) < (V : Int) := by omega
  have hVd : decide ((wd : Int) < (V : Int)) = false := decide_eq_false hVI
  obtain ⟨N, hN⟩ : ∃ N, bytesN n wd = N := ⟨_, rfl⟩
  rw [hN] at hby
  have hN2 : N ≤ 32768 ∧ n * wd ≤ 8 * N := by
    have h1 : n * wd ≤ 4096 * 64 := Nat.mul_le_mul hn hwd
    unfold bytesN at hN
    omega
  obtain ⟨Z, hZ⟩ : ∃ Z, packB l wd = Z := ⟨_, rfl⟩
  have hZl : Z.length = N := by rw [← hZ, packB_len, hl, hN]
  rw [hZ]
  have hZe : Hid (Z = bitsTo l wd (n * wd) N) := by show _ = _; rw [← hZ]; unfold packB; rw [hl, hN]
  have HZl := Lib.hid hZl
  clear hl hr hin hin64 hV hww hN hZ hZl
  go_enter Tryz.func90, Tryz.ntmps90
  go_wp2_with fail
  refine (hby.out _).mono ?_
  rintro e w0 ⟨rfl, rfl⟩
  go_wp2_with fail
  refine hwi.out.mono ?_
  rintro e w0 ⟨rfl, rfl⟩
  go_wp2_with (first | (at_builtin; refine hold ?_) | (at_make; refine hold ?_))
  (with_reducible refine unhold ?_)
  refine wpList_mkn rfl _ _ _ rfl E8 w.heap.size _ _ _ _ N rfl rfl rfl rfl (by omega) (by unfold maxLen; omega) (Nat.le_refl _) ?_
  intro w1 ho1 hb1 _
  rw [make_bytes, ← bitsTo_zero l wd N] at ho1
  have HP1 : Hid (PackAt l wd 0 N w.heap.size w w1) := ⟨ho1, hb1⟩
  generalize w.heap.size = g at *
  clear ho1 hb1
  go_wp2_with fail
  go_loopw [9, 35] (fun va vi wr => ∃ i : Nat, va = .int .i64 ((i * wd : Nat) : Int) ∧ vi = .int .i64 (i : Int) ∧ i ≤ n ∧ Hid (PackAt l wd (i * wd) N g w wr)) (fun _ vi _ => n - (intOf vi).toNat)
  case atStart => exact ⟨0, by simp, rfl, by omega, by rw [Nat.zero_mul]; exact HP1⟩
  case round =>
    obtain ⟨i, rfl, rfl, hi, HP⟩ := hrel
    by_cases hin : i < n
    · have hil : i < l.length := by rw [Hl.out]; exact hin
      have hiI : (i : Int) < (n : Int) := by omega
      have hi0 : (0 : Int) ≤ (i : Int) := by omega
      obtain ⟨b, o, rfl, c0⟩ := ucl_get (Hr.out.below HP.out.2) hil
      have hx64 := Hin64.out _ (List.getElem_mem hil)
      obtain ⟨X, hX⟩ : ∃ X, l[i] = X := ⟨_, rfl⟩
      rw [hX] at c0 hx64
      have HX := Lib.hid hX
      obtain ⟨a0, ha0⟩ : ∃ a0, i * wd = a0 := ⟨_, rfl⟩
      have hmul : a0 + wd ≤ n * wd := by
        have := Nat.mul_le_mul_right wd (show i + 1 ≤ n from hin)
        rw [Nat.add_mul, Nat.one_mul] at this
        omega
      have Ha0 := Lib.hid ha0
      have Hnext : Hid ((i + 1) * wd = a0 + wd) := by show _ = _; rw [Nat.add_mul, Nat.one_mul, ha0]
      rw [ha0] at HP ⊢
      obtain ⟨nw, hnw⟩ : ∃ nw, n * wd = nw := ⟨_, rfl⟩
      rw [hnw] at hmul hN2
      clear ha0 hX hnw
      generalize wr = wo at *
      go_wp2_with fail
      go_loopw [9, 11, 12] (fun va vx vl wi => ∃ a x left : Nat, va = .int .i64 (a : Int) ∧ vx = .int .u64 (x : Int) ∧ vl = .int .i64 (left : Int) ∧ left ≤ wd ∧ a + left = a0 + wd ∧ x < 18446744073709551616 ∧ Hid (x = X >>> (wd - left)) ∧ Hid (PackAt l wd a N g w wi)) (fun _ _ vl _ => (intOf vl).toNat)
      case atStart => exact ⟨a0, X, wd, rfl, rfl, rfl, by omega, rfl, hx64, (by show _ = _; simp), HP⟩
      case round =>
        obtain ⟨a, x, left, rfl, rfl, rfl, hleft, hal, hx, Hx, Hp⟩ := hrel
        by_cases h0 : 0 < left
        · have h0I : (0 : Int) < (left : Int) := by omega
          obtain ⟨q, hq⟩ : ∃ q, a / 8 = q := ⟨_, rfl⟩
          obtain ⟨r, hr8⟩ : ∃ r, a % 8 = r := ⟨_, rfl⟩
          have hr : r < 8 := by omega
          obtain ⟨d8, hd8⟩ : ∃ d8, 8 - r = d8 := ⟨_, rfl⟩
          obtain ⟨m, hm⟩ : ∃ m, min d8 left = m := ⟨_, rfl⟩
          have hm1 : 1 ≤ m ∧ m ≤ 8 ∧ r + m ≤ 8 ∧ m ≤ left := by omega
          have hqN : q < N := by omega
          have e1 : (a : Int) / 8 = (q : Int) := by omega
          have e2 : (a : Int) % 8 = (r : Int) := by omega
          have e3 : (a : Int).tdiv 8 = (q : Int) := by rw [Int.tdiv_eq_ediv_of_nonneg (by omega)]; omega
          have e4 : (a : Int).tmod 8 = (r : Int) := by rw [Int.tmod_eq_emod_of_nonneg (by omega)]; omega
          have e5 : IntKind.i64.wrap (q : Int) = (q : Int) := by rw [IntKind.wrap_i64]; omega
          have e6 : (8 : Int) - (r : Int) = (d8 : Int) := by omega
          have e7 : min (d8 : Int) (left : Int) = (m : Int) := by omega
          obtain ⟨cq, fq⟩ := Hp.out.cell hqN
          have hold8 := ((bitsTo l wd a N).getD q 0).toNat_lt
          have hch := pack_chunk l wd i left a N m x hil hleft (by rw [Ha0.out]; omega) (by rw [HX.out]; exact Hx.out) (by omega) hm1.2.2.2 (by rw [hq]; exact hqN)
          rw [hq, hr8] at hch
          have hx2 : x >>> m = X >>> (wd - (left - m)) := by
            rw [Hx.out, ← Nat.shiftRight_add]
            congr 1
            omega
          generalize ((bitsTo l wd a N).getD q 0).toNat = O at *
          have hP2 : (2 : Nat) ^ m ≤ 2 ^ 8 := Nat.pow_le_pow_right (by omega) hm1.2.1
          obtain ⟨P, hP⟩ : ∃ P, 2 ^ m = P := ⟨_, rfl⟩
          have hP1 : 1 ≤ P := by rw [← hP]; exact Nat.two_pow_pos m
          obtain ⟨z, hz⟩ : ∃ z, 2 ^ r = z := ⟨_, rfl⟩
          have hYV : (x % P) * z < 256 := by
            rw [← hP, ← hz]
            have h1 : x % 2 ^ m < 2 ^ m := Nat.mod_lt _ (Nat.two_pow_pos m)
            have h2 : (x % 2 ^ m) * 2 ^ r < 2 ^ m * 2 ^ r := Nat.mul_lt_mul_of_pos_right h1 (Nat.two_pow_pos _)
            rw [← Nat.pow_add] at h2
            have h3 : 2 ^ (m + r) ≤ 2 ^ 8 := Nat.pow_le_pow_right (by omega) (by omega)
            omega
          have hand : bits .and .u64 (x : Int) ((P - 1 : Nat) : Int) = ((x % P : Nat) : Int) := by
            rw [u64_and_nat x (P - 1) hx (by omega), ← hP, Nat.and_two_pow_sub_one_eq_mod]
          rw [Nat.shiftRight_eq_div_pow, hP] at hx2
          rw [hP, hz] at hch
          rw [hP] at hP2
          obtain ⟨Y, hY⟩ : ∃ Y, x % P = Y := ⟨_, rfl⟩
          have hYP : Y < P := by rw [← hY]; exact Nat.mod_lt _ (by omega)
          rw [hY] at hYV hand hch
          obtain ⟨U, hU⟩ : ∃ U, Y * z = U := ⟨_, rfl⟩
          rw [hU] at hYV hch
          have z1 : (2 : Int) ^ m = (P : Int) := by rw [← hP]; simp
          have z2 : (2 : Int) ^ r = (z : Int) := by rw [← hz]; simp
          have z3 : (P : Int) - 1 = ((P - 1 : Nat) : Int) := by omega
          have z4 : (Y : Int) * (z : Int) = (U : Int) := by rw [← hU]; exact (Int.natCast_mul Y z).symm
          have z5 : IntKind.u8.wrap (Y : Int) = (Y : Int) := by rw [IntKind.wrap_u8]; omega
          have z6 : IntKind.u8.wrap (U : Int) = (U : Int) := by rw [IntKind.wrap_u8]; omega
          have z7 : IntKind.u64.wrap (P : Int) = (P : Int) := by rw [IntKind.wrap_u64]; omega
          have z8 : (x : Int) / (P : Int) = ((x / P : Nat) : Int) := (Int.natCast_ediv x P).symm
          have hor : bits .or .u8 (O : Int) (U : Int) = ((O ||| U : Nat) : Int) := u8_or_nat _ _ (by omega) (by omega)
          have hOU : O ||| U < 256 := Nat.or_lt_two_pow (n := 8) (by omega) (by omega)
          have hput := Lib.hid (Hp.out.put hqN hOU hch)
          have hx22 : x / P < 18446744073709551616 := Nat.lt_of_le_of_lt (Nat.div_le_self _ _) hx
          have Hx2 := Lib.hid hx2
          generalize O ||| U = OU at *
          generalize x / P = x3 at *
          generalize P - 1 = P1 at *
          clear hP hz hY hU hch hq hr8 hd8 hm hx2 Hp hx64 c0
          go_wp2_with fail
          go_region
          go_wp2_with fail
          refine ⟨⟨a + m, x3, left - m, by go_num, rfl, congrArg _ (by omega), by omega, by omega, hx22, Hx2, ⟨hput.out.1, hput.out.2.drew⟩⟩, by simp only [intOf]; omega⟩
        · obtain rfl : left = 0 := by omega
          obtain rfl : a = a0 + wd := by omega
          clear Hx c0
          go_wp2_with fail
          go_roundw
          case rel => exact ⟨i + 1, by rw [Hnext.out], by go_num, by omega, by rw [Hnext.out]; exact Hp⟩
          case measure => simp only [intOf, Int.toNat_natCast]; omega
    · obtain rfl : i = n := by omega
      have hO : Hid (Own wr w.heap.size 5 1 (some ⟨g, 0, none⟩) N N (Bs Z)) := by
        show Own _ _ _ _ _ _ _ _
        rw [hZe.out]
        exact HP.out.1
      rw [← HZl.out] at hO ⊢
      go_wp2_with fail
      go_ret2
      exact ⟨⟨_, _, rfl, hO.out⟩, HP.out.2⟩
end Go.Proofs.YtojppmnmhdgnnaaGreat
namespace Go.Proofs.YtojppmnmhdgnnaaGreat
set_option linter.unusedVariables false
set_option linter.unusedSimpArgs false
open Go.RowKit

attribute [local go_sem ↓] Go.wp_at_zero Go.wp_at_succ

theorem half_bit (X k : Nat) : ((X >>> k) % 2 = 1 ↔ X.testBit k = true) ∧ (X >>> k) / 2 = X >>> (k + 1) := by
  refine ⟨?_, ?_⟩
  · rw [Nat.testBit_eq_decide_div_mod_eq, Nat.shiftRight_eq_div_pow, decide_eq_true_eq]
  · rw [Nat.shiftRight_succ]

set_option maxHeartbeats 16000000 in
set_option maxRecDepth 100000 in
theorem rpack_any (l : List Nat) (n c wd : Nat) (A : Option Addr) (w : World) (hl : l.length = n) (hr : Rd w A (ucl l)) (hn : n ≤ 4096) (hwd : wd ≤ 64) (hin : ∀ x ∈ l, x < 2 ^ wd) :
    Calls Tryz.prog 97 #[.slice A n c, .int .i64 (wd : Int)] w fun e w' => BytOK (packB l wd) w e w' := by
  have hin64 : ∀ x ∈ l, x < 18446744073709551616 := fun x hx => Nat.lt_of_lt_of_le (hin x hx) (Nat.pow_le_pow_right (by omega) hwd : 2 ^ wd ≤ 2 ^ 64)
  have hby := Lib.hid (fun w' => rbytes_any n wd w' hn hwd)
  have Hl := Lib.hid hl
  have Hr := Lib.hid hr
  have Hin := Lib.hid hin
  have Hin64 := Lib.hid hin64
  obtain ⟨N, hN⟩ : ∃ N, bytesN n wd = N := ⟨_, rfl⟩
  rw [hN] at hby
  have hN2 : N ≤ 32768 ∧ n * wd ≤ 8 * N := by
    have h1 : n * wd ≤ 4096 * 64 := Nat.mul_le_mul hn hwd
    unfold bytesN at hN
    omega
  obtain ⟨Z, hZ⟩ : ∃ Z, packB l wd = Z := ⟨_, rfl⟩
  have hZl : Z.length = N := by rw [← hZ, packB_len, hl, hN]
  rw [hZ]
  have hZe : Hid (Z = bitsTo l wd (n * wd) N) := by show _ = _; rw [← hZ]; unfold packB; rw [hl, hN]
  have HZl := Lib.hid hZl
  clear hl hr hin hin64 hN hZ hZl
  go_enter Tryz.func97, Tryz.ntmps97
  go_wp2_with fail
  refine (hby.out _).mono ?_
  rintro e w0 ⟨rfl, rfl⟩
  go_wp2_with (first | (at_builtin; refine hold ?_) | (at_make; refine hold ?_))
  (with_reducible refine unhold ?_)
  refine wpList_mkn rfl _ _ _ rfl E8 w.heap.size _ _ _ _ N rfl rfl rfl rfl (by omega) (by unfold maxLen; omega) (Nat.le_refl _) ?_
  intro w1 ho1 hb1 _
  rw [make_bytes, ← bitsTo_zero l wd N] at ho1
  have HP1 : Hid (PackAt l wd 0 N w.heap.size w w1) := ⟨ho1, hb1⟩
  generalize w.heap.size = g at *
  clear ho1 hb1
  go_wp2_with fail
  go_loopw [9, 10] (fun va vi wr => ∃ i : Nat, va = .int .i64 ((i * wd : Nat) : Int) ∧ vi = .int .i64 (i : Int) ∧ i ≤ n ∧ Hid (PackAt l wd (i * wd) N g w wr)) (fun _ vi _ => n - (intOf vi).toNat)
  case atStart => exact ⟨0, by simp, rfl, by omega, by rw [Nat.zero_mul]; exact HP1⟩
  case round =>
    obtain ⟨i, rfl, rfl, hi, HP⟩ := hrel
    by_cases hin : i < n
    · have hil : i < l.length := by rw [Hl.out]; exact hin
      have hiI : (i : Int) < (n : Int) := by omega
      have hi0 : (0 : Int) ≤ (i : Int) := by omega
      obtain ⟨b, o, rfl, c0⟩ := ucl_get (Hr.out.below HP.out.2) hil
      have hx64 := Hin64.out _ (List.getElem_mem hil)
      have hxw := Hin.out _ (List.getElem_mem hil)
      obtain ⟨X, hX⟩ : ∃ X, l[i] = X := ⟨_, rfl⟩
      rw [hX] at c0 hx64 hxw
      have HX := Lib.hid hX
      have hbi := Lib.hid (rbits_any X wr hx64)
      have hbl := (bitLen_lt hx64 hwd).2 hxw
      generalize Lib.bitLen X = V at *
      have hVI : ¬ (wd : Int) < (V : Int) := by omega
      obtain ⟨a0, ha0⟩ : ∃ a0, i * wd = a0 := ⟨_, rfl⟩
      have hmul : a0 + wd ≤ n * wd := by
        have := Nat.mul_le_mul_right wd (show i + 1 ≤ n from hin)
        rw [Nat.add_mul, Nat.one_mul] at this
        omega
      have Ha0 := Lib.hid ha0
      have Hnext : Hid ((i + 1) * wd = a0 + wd) := by show _ = _; rw [Nat.add_mul, Nat.one_mul, ha0]
      rw [ha0] at HP ⊢
      obtain ⟨nw, hnw⟩ : ∃ nw, n * wd = nw := ⟨_, rfl⟩
      rw [hnw] at hmul hN2
      clear ha0 hX hnw hxw hbl
      generalize wr = wo at *
      go_wp2_with fail
      refine hbi.out.mono ?_
      rintro e w3 ⟨rfl, rfl⟩
      go_wp2_with fail
      go_loopw [9, 11, 12] (fun va vx vk wi => ∃ x k : Nat, va = .int .i64 ((a0 + k : Nat) : Int) ∧ vx = .int .u64 (x : Int) ∧ vk = .int .i64 (k : Int) ∧ k ≤ wd ∧ x < 18446744073709551616 ∧ Hid (x = X >>> k) ∧ Hid (PackAt l wd (a0 + k) N g w wi)) (fun _ _ vk _ => wd - (intOf vk).toNat)
      case atStart => exact ⟨X, 0, rfl, rfl, rfl, by omega, hx64, rfl, HP⟩
      case round =>
        obtain ⟨x, k, rfl, rfl, rfl, hk, hx, Hx, Hp⟩ := hrel
        by_cases hkw : k < wd
        · have hkI : (k : Int) < (wd : Int) := by omega
          obtain ⟨a, ha⟩ : ∃ a, a0 + k = a := ⟨_, rfl⟩
          rw [ha] at Hp ⊢
          have haB : a + 1 ≤ 300000 := by omega
          have hb2 := half_bit X k
          rw [← Hx.out] at hb2
          have hx2 : x / 2 < 18446744073709551616 := by omega
          have Hx2 := Lib.hid hb2.2
          have d1 : (x : Int) / 2 = ((x / 2 : Nat) : Int) := by omega
          have d2 : (x : Int).tdiv 2 = ((x / 2 : Nat) : Int) := by rw [Int.tdiv_eq_ediv_of_nonneg (by omega)]; omega
          have Hak : Hid (a0 + (k + 1) = a + 1) := by show _ = _; omega
          by_cases hbit : x % 2 = 1
          · have d3 : (x : Int) % 2 = 1 := by omega
            have d4 : (x : Int).tmod 2 = 1 := by rw [Int.tmod_eq_emod_of_nonneg (by omega)]; omega
            obtain ⟨q, hq⟩ : ∃ q, a / 8 = q := ⟨_, rfl⟩
            obtain ⟨r, hr8⟩ : ∃ r, a % 8 = r := ⟨_, rfl⟩
            have hr : r < 8 := by omega
            have hqN : q < N := by omega
            have e1 : (a : Int) / 8 = (q : Int) := by omega
            have e2 : (a : Int) % 8 = (r : Int) := by omega
            have e3 : (a : Int).tdiv 8 = (q : Int) := by rw [Int.tdiv_eq_ediv_of_nonneg (by omega)]; omega
            have e4 : (a : Int).tmod 8 = (r : Int) := by rw [Int.tmod_eq_emod_of_nonneg (by omega)]; omega
            have e5 : IntKind.i64.wrap (q : Int) = (q : Int) := by rw [IntKind.wrap_i64]; omega
            obtain ⟨cq, fq⟩ := Hp.out.cell hqN
            have hch := pack_one l wd i k a N hil hkw (by rw [Ha0.out]; omega) (by rw [hq]; exact hqN) (by rw [HX.out]; exact hb2.1.1 hbit)
            rw [hq, hr8] at hch
            generalize ((bitsTo l wd a N).getD q 0).toNat = O at *
            obtain ⟨z, hz⟩ : ∃ z, 2 ^ r = z := ⟨_, rfl⟩
            rw [hz] at hch
            have z2 : (2 : Int) ^ r = (z : Int) := by rw [← hz]; simp
            have z6 : IntKind.u8.wrap (z : Int) = (z : Int) := by rw [IntKind.wrap_u8]; omega
            have z7 : IntKind.u8.wrap ((O : Int) + (z : Int)) = (O : Int) + (z : Int) := by rw [IntKind.wrap_u8]; omega
            have hput := Lib.hid (Hp.out.put hqN hch.1 hch.2)
            have z8 : ((O + z : Nat) : Int) = (O : Int) + (z : Int) := by omega
            rw [z8] at hput
            clear hz hch hq hr8 Hp hx64 c0 hb2 ha hbit z8
            generalize x / 2 = x3 at *
            go_wp2_with fail
            go_region
            go_wp2_with fail
            refine ⟨⟨x3, k + 1, congrArg _ (by have := Hak.out; omega), rfl, by go_num, by omega, hx2, Hx2, by rw [Hak.out]; exact ⟨hput.out.1, hput.out.2.drew⟩⟩, by simp only [intOf]; omega⟩
          · have d3 : (x : Int) % 2 = 0 := by omega
            have d4 : (x : Int).tmod 2 = 0 := by rw [Int.tmod_eq_emod_of_nonneg (by omega)]; omega
            have hsk := pack_skip l wd i k a N hil hkw (by rw [Ha0.out]; omega) (by
              rw [HX.out]
              cases h : X.testBit k
              · rfl
              · exact absurd (hb2.1.2 h) hbit)
            have Hp2 : Hid (PackAt l wd (a + 1) N g w wr) := by
              have := Hp.out
              unfold PackAt at this
              rw [hsk] at this
              exact this
            clear hb2 ha hbit hsk Hp hx64 c0
            generalize x / 2 = x3 at *
            go_wp2_with fail
            go_roundw
            case rel => exact ⟨x3, k + 1, congrArg _ (by have := Hak.out; omega), rfl, by go_num, by omega, hx2, Hx2, by rw [Hak.out]; exact Hp2⟩
            case measure => simp only [intOf, Int.toNat_natCast]; omega
        · obtain rfl : k = wd := by omega
          clear Hx c0
          go_wp2_with fail
          go_roundw
          case rel => exact ⟨i + 1, by rw [Hnext.out], by go_num, by omega, by rw [Hnext.out]; exact Hp⟩
          case measure => simp only [intOf, Int.toNat_natCast]; omega
    · obtain rfl : i = n := by omega
      have hO : Hid (Own wr w.heap.size 5 1 (some ⟨g, 0, none⟩) N N (Bs Z)) := by
        show Own _ _ _ _ _ _ _ _
        rw [hZe.out]
        exact HP.out.1
      rw [← HZl.out] at hO ⊢
      go_wp2_with fail
      go_ret2
      exact ⟨⟨_, _, rfl, hO.out⟩, HP.out.2⟩
end Go.Proofs.YtojppmnmhdgnnaaGreat
