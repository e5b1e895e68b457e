/- Walks: a value is added to a filter. -/
import Derived.Test.YtghaffafglfdlaaBlS
namespace Go.Proofs.Ytghaffafglfdlaa
open Go.RowKit

attribute [local go_sem ↓] Go.wp_at_zero Go.wp_at_succ

theorem bs_get {bs : List UInt8} {k : Nat} (hk : k < bs.length) : (Bs bs)[k]? = some (.int .u8 ((bs.getD k 0).toNat : Int)) := by
  rw [List.getElem?_map, List.getElem?_eq_getElem hk, List.getD_eq_getElem?_getD, List.getElem?_eq_getElem hk]
  rfl
theorem bs_set (bs : List UInt8) (k x : Nat) (hx : x < 256) : (Bs bs).set k (.int .u8 (x : Int)) = Bs (bs.set k (byteN x)) := by
  unfold Bs
  rw [List.map_set]
  unfold B
  rw [byteN_toNat, Nat.mod_eq_of_lt hx]

theorem Flt.bit {w : World} {B F G m n : Nat} {bs : List UInt8} (h : Flt w B F G m n bs) (p : Nat) : Flt (w.setCell ⟨G, p / 8, none⟩ (.int .u8 (((bs.getD (p / 8) 0).toNat ||| 2 ^ (p % 8) : Nat) : Int))) B F G m n (setBit bs p) := by
  refine ⟨h.f.far h.ne _, ?_, h.lo, by rw [setBit_len, h.len], h.sm⟩
  have := h.g.set_ (p / 8) (.int .u8 (((bs.getD (p / 8) 0).toNat ||| 2 ^ (p % 8) : Nat) : Int))
  rw [bs_set _ _ _ (or_lt _ _)] at this
  exact this

set_option maxHeartbeats 4000000 in
set_option maxRecDepth 100000 in
theorem add1_any (B F G m n : Nat) (bs : List UInt8) (v : Va) (w : World) (h : Flt w B F G m n bs) (hB : B ≤ w.heap.size) (hv : rightV v = true) (hok : v.ok) :
    Calls Try.prog 37 #[.pointer (some ⟨F, 0, none⟩), v.agg] w fun e w' => e = .returned (.tuple #[]) ∧ Flt w' B F G m n (addN m v n bs) ∧ Keeps [5] B w w' := by
  have hsm := h.sm
  have hbA : Below w.heap.size w (w.alloc (.cells #[.int .u8 v.k, .int .i64 v.n, .string (St8 v.s)] 30)) := (Below.refl _ _).alloc (Nat.le_refl _) _
  have hA := Blk.new w 30 #[.int .u8 v.k, .int .i64 v.n, .string (St8 v.s)]
  have hF := Lib.hid (h.below hbA)
  have kF := (h.below hbA).f.cell 1
  simp only [List.getElem?_cons_succ, List.getElem?_cons_zero] at kF
  have hK := Lib.hid ((Keeps.refl [5] B w).then_below hbA)
  have hkA := Lib.hid hA
  have hz := hbA.size
  have Hv := Lib.hid hv
  have Hok := Lib.hid hok
  clear h hbA hA hv hok
  unfold Va.agg
  go_enter Try.func37, Try.ntmps37
  go_wp2_with fail
  go_loopw [12] (fun i wr => ∃ t : Nat, t ≤ n ∧ i = .int .i64 (t : Int) ∧ w.heap.size ≤ wr.heap.size ∧ Hid (Flt wr B F G m n (addN m v t bs) ∧ Keeps [5] B w wr ∧ Blk wr w.heap.size 30 [.int .u8 v.k, .int .i64 v.n, .string (St8 v.s)])) (fun i _ => n - (intOf i).toNat)
  case atStart => exact ⟨0, by omega, by go_num, hz, hF.out, hK.out, hkA.out⟩
  case round =>
    clear hF hK hkA kF hz
    obtain ⟨t, ht, rfl, hzr, hrest⟩ := hrel
    by_cases hlt : t < n
    · have hnx : Hid (addN m v (t + 1) bs = setBit (addN m v t bs) (placeV m v t)) := rfl
      have hp := placeV_lt (show 0 < m by omega) v t
      have hpl := Lib.hid (fun w1 (hh : Flt w1 B F G m n (addN m v t bs)) => place_any B F G m n (addN m v t bs) v t w1 hh (by omega) Hv.out Hok.out)
      generalize placeV m v t = p at *
      obtain ⟨cur, hcur⟩ : ∃ c, c = addN m v t bs := ⟨_, rfl⟩
      rw [← hcur] at hnx hrest hpl
      clear hcur
      have k0 := hrest.out.2.2.cell 0
      have k1 := hrest.out.2.2.cell 1
      have k2 := hrest.out.2.2.cell 2
      simp only [List.getElem?_cons_zero, List.getElem?_cons_succ] at k0 k1 k2
      go_wp2_with fail
      have hplw := hpl.out wr hrest.out.1
      unfold Va.agg at hplw
      refine hplw.mono ?_
      rintro e w2 ⟨rfl, hb2⟩
      have hf2 := hrest.out.1.below hb2
      have hF2 := Lib.hid hf2
      have c2 := hf2.f.cell 2
      simp only [List.getElem?_cons_zero, List.getElem?_cons_succ] at c2
      have hlen := hf2.len
      obtain ⟨q, hq⟩ : ∃ q, q = p / 8 := ⟨_, rfl⟩
      obtain ⟨r, hr⟩ : ∃ r, r = p % 8 := ⟨_, rfl⟩
      have hqK : q < (m + 7) / 8 := by omega
      have cg : w2.cell? ⟨G, q, none⟩ = _ := (hf2.g.cell q).trans (bs_get (by omega))
      have fg := hf2.g.frozen q
      have hr8 : r < 8 := by omega
      have e1 : (p : Int) / 8 = (q : Int) := by omega
      have e2 : (p : Int) % 8 = (r : Int) := by omega
      have e3 : (p : Int).tdiv 8 = (q : Int) := by rw [Int.tdiv_eq_ediv_of_nonneg (by omega)]; omega
      have e4 : (p : Int).tmod 8 = (r : Int) := by rw [Int.tmod_eq_emod_of_nonneg (by omega)]; omega
      have e5 : IntKind.i64.wrap (q : Int) = (q : Int) := by rw [IntKind.wrap_i64]; omega
      obtain ⟨K, hKK⟩ : ∃ K, K = (m + 7) / 8 := ⟨_, rfl⟩
      rw [← hKK] at c2 hqK hlen
      have HKK := Lib.hid hKK
      have Hq := Lib.hid hq
      have Hr := Lib.hid hr
      obtain ⟨z, hz⟩ : ∃ z, z = 2 ^ r := ⟨_, rfl⟩
      have hz256 : z < 256 := by rw [hz, hr]; exact pow8 p
      have z1 : (2 : Int) ^ r = (z : Int) := by rw [hz]; simp
      have z2 : IntKind.u8.wrap (z : Int) = (z : Int) := by rw [IntKind.wrap_u8]; omega
      have z3 : (z : Int) % 256 = (z : Int) := by omega
      have hX := (cur.getD q 0).toNat_lt
      have HX := Lib.hid (show (cur.getD q 0).toNat = (cur.getD q 0).toNat from rfl)
      generalize hXx : (cur.getD q 0).toNat = X at cg hX
      have HXx := Lib.hid hXx
      have hor : bits .or .u8 (X : Int) (z : Int) = ((X ||| z : Nat) : Int) := u8_or_nat _ _ (by omega) (by omega)
      have Hz := Lib.hid hz
      clear hf2 hplw hpl hKK hq hr hz hXx HX
      go_wp2_with fail
      go_region
      all_goals go_wp2_with fail
      refine ⟨⟨t + 1, by omega, by go_num, ?_, ?_⟩, by first | (simp [intOf]; done) | (simp [intOf]; omega)⟩
      · show w.heap.size ≤ (w2.setCell _ _).heap.size
        rw [World.size_setCell]
        exact Nat.le_trans hzr hb2.size
      · have hb := hF2.out.bit p
        rw [← Hq.out, ← Hr.out, HXx.out, ← Hz.out, ← hnx.out] at hb
        have hkk : Keeps [5] B w w2 := hrest.out.2.1.then_below hb2
        exact ⟨⟨hb.f.drew, hb.g.drew, hb.lo, hb.len, hb.sm⟩, (hkk.setCell hF2.out.g (by simp) hF2.out.lo.2 _).drewN 1, (((hrest.out.2.2.below hb2).far (fun e => (hrest.out.2.2.below hb2).ne_of_type hF2.out.g (by decide) e) _)).drew⟩
    · obtain rfl : t = n := by omega
      go_wp2_with fail
      go_end0
      exact ⟨rfl, hrest.out.1, hrest.out.2.1⟩

/-- With what a value's bits come to. -/
theorem mayB_next (m i : Nat) (v : Va) (bs : List UInt8) : mayB m (i + 1) v bs = (mayB m i v bs && bitAt bs (placeV m v i)) := by
  unfold mayB
  rw [List.range_succ, List.all_append]
  simp
theorem mayB_stop (m i : Nat) (v : Va) (bs : List UInt8) (h : bitAt bs (placeV m v i) = false) : ∀ n, i < n → mayB m n v bs = false := by
  intro n hn
  unfold mayB
  rw [Bool.eq_false_iff]
  intro hc
  rw [List.all_eq_true] at hc
  have := hc i (List.mem_range.2 hn)
  rw [h] at this
  cases this

set_option maxHeartbeats 4000000 in
set_option maxRecDepth 100000 in
theorem bmay_any (B F G m n : Nat) (bs : List UInt8) (v : Va) (w : World) (h : Flt w B F G m n bs) (hv : rightV v = true) (hok : v.ok) :
    Calls Try.prog 39 #[.pointer (some ⟨F, 0, none⟩), v.agg] w fun e w' => e = .returned (.bool (mayB m n v bs)) ∧ Below w.heap.size w w' := by
  have hsm := h.sm
  have hbA : Below w.heap.size w (w.alloc (.cells #[.int .u8 v.k, .int .i64 v.n, .string (St8 v.s)] 30)) := (Below.refl _ _).alloc (Nat.le_refl _) _
  have hA := Blk.new w 30 #[.int .u8 v.k, .int .i64 v.n, .string (St8 v.s)]
  have hF := Lib.hid (h.below hbA)
  have kF := (h.below hbA).f.cell 1
  simp only [List.getElem?_cons_succ, List.getElem?_cons_zero] at kF
  have hkA := Lib.hid hA
  have hbA' := Lib.hid hbA
  have Hv := Lib.hid hv
  have Hok := Lib.hid hok
  have hR : Hid (∀ t, t ≤ n → bitAt bs (placeV m v t) = false → t < n → mayB m n v bs = false) := Lib.hid (fun t _ hb hlt => mayB_stop m t v bs hb n hlt)
  have hR1 : Hid (mayB m n v bs = mayB m n v bs) := rfl
  obtain ⟨R, hRR⟩ : ∃ R, R = mayB m n v bs := ⟨_, rfl⟩
  rw [← hRR] at hR ⊢
  have HRR := Lib.hid hRR
  clear h hbA hA hv hok hRR hR1
  unfold Va.agg
  go_enter Try.func39, Try.ntmps39
  go_wp2_with fail
  go_loopw [13] (fun i wr => ∃ t : Nat, t ≤ n ∧ i = .int .i64 (t : Int) ∧ Hid (mayB m t v bs = true) ∧ Hid (Flt wr B F G m n bs ∧ Below w.heap.size w wr ∧ Blk wr w.heap.size 30 [.int .u8 v.k, .int .i64 v.n, .string (St8 v.s)])) (fun i _ => n - (intOf i).toNat)
  case atStart => exact ⟨0, by omega, by go_num, rfl, hF.out, hbA'.out, hkA.out⟩
  case round =>
    clear hF hkA kF hbA'
    obtain ⟨t, ht, rfl, hmt, hrest⟩ := hrel
    by_cases hlt : t < n
    · have hnx := Lib.hid (mayB_next m t v bs)
      have hst := Lib.hid (fun hb => hR.out t ht hb hlt)
      have hp := placeV_lt (show 0 < m by omega) v t
      have hpl := Lib.hid (fun w1 (hh : Flt w1 B F G m n bs) => place_any B F G m n bs v t w1 hh (by omega) Hv.out Hok.out)
      generalize placeV m v t = p at *
      have k0 := hrest.out.2.2.cell 0
      have k1 := hrest.out.2.2.cell 1
      have k2 := hrest.out.2.2.cell 2
      simp only [List.getElem?_cons_zero, List.getElem?_cons_succ] at k0 k1 k2
      go_wp2_with fail
      have hplw := hpl.out wr hrest.out.1
      unfold Va.agg at hplw
      refine hplw.mono ?_
      rintro e w2 ⟨rfl, hb2⟩
      have hf2 := hrest.out.1.below hb2
      have hF2 := Lib.hid hf2
      have c2 := hf2.f.cell 2
      simp only [List.getElem?_cons_zero, List.getElem?_cons_succ] at c2
      have hlen := hf2.len
      obtain ⟨q, hq⟩ : ∃ q, q = p / 8 := ⟨_, rfl⟩
      obtain ⟨r, hr⟩ : ∃ r, r = p % 8 := ⟨_, rfl⟩
      have hqK : q < (m + 7) / 8 := by omega
      have cg : w2.cell? ⟨G, q, none⟩ = _ := (hf2.g.cell q).trans (bs_get (by omega))
      have hr8 : r < 8 := by omega
      have e1 : (p : Int) / 8 = (q : Int) := by omega
      have e2 : (p : Int) % 8 = (r : Int) := by omega
      have e3 : (p : Int).tdiv 8 = (q : Int) := by rw [Int.tdiv_eq_ediv_of_nonneg (by omega)]; omega
      have e4 : (p : Int).tmod 8 = (r : Int) := by rw [Int.tmod_eq_emod_of_nonneg (by omega)]; omega
      have e5 : IntKind.i64.wrap (q : Int) = (q : Int) := by rw [IntKind.wrap_i64]; omega
      have hbit : Hid (bitAt bs p = decide ((bs.getD q 0).toNat / 2 ^ r % 2 = 1)) := by show _ = _; rw [hq, hr]; rfl
      obtain ⟨K, hKK⟩ : ∃ K, K = (m + 7) / 8 := ⟨_, rfl⟩
      rw [← hKK] at c2 hqK hlen
      obtain ⟨z, hz⟩ : ∃ z, z = 2 ^ r := ⟨_, rfl⟩
      have hz0 : 0 < z := by rw [hz]; exact Nat.pow_pos (by omega)
      have z1 : (2 : Int) ^ r = (z : Int) := by rw [hz]; simp
      rw [← hz] at hbit
      have hX := (bs.getD q 0).toNat_lt
      generalize hXx : (bs.getD q 0).toNat = X at cg hX hbit
      obtain ⟨Y, hY⟩ : ∃ Y, Y = X / z := ⟨_, rfl⟩
      rw [← hY] at hbit
      have hY256 : Y ≤ X := by rw [hY]; exact Nat.div_le_self _ _
      have y1 : (X : Int) / (z : Int) = (Y : Int) := by rw [hY]; simp
      have y2 : IntKind.u8.wrap (Y : Int) = (Y : Int) := by rw [IntKind.wrap_u8]; omega
      have y3 : bits .and .u8 (Y : Int) 1 = ((Y % 2 : Nat) : Int) := by
        have := u8_and_nat Y 1 (by omega) (by omega)
        rw [Nat.and_one_is_mod] at this
        exact this
      clear hf2 hplw hpl hKK hq hr hz hXx hY
      rcases Nat.mod_two_eq_zero_or_one Y with hb | hb
      · rw [hb] at y3
        have hb0 : Hid (R = false) := Lib.hid (hst.out (by rw [hbit.out, hb]; rfl))
        clear hst hbit hnx
        go_wp2_with fail
        go_ret
        rw [hb0.out]
        exact ⟨rfl, hrest.out.2.1.trans (hb2.mono hrest.out.2.1.size)⟩
      · rw [hb] at y3
        have hnx' := hnx.out
        rw [hmt.out, hbit.out, hb] at hnx'
        have Hnx := Lib.hid hnx'
        clear hst hbit hnx hnx'
        go_wp2_with fail
        go_roundw
        case rel => exact ⟨t + 1, by omega, by go_num, Hnx.out, hF2.out, hrest.out.2.1.trans (hb2.mono hrest.out.2.1.size), hrest.out.2.2.below hb2⟩
        case measure => first | (simp [intOf]; done) | (simp [intOf]; omega)
    · obtain rfl : t = n := by omega
      go_wp2_with fail
      go_ret
      rw [HRR.out, hmt.out]
      exact ⟨rfl, hrest.out.2.1⟩
end Go.Proofs.Ytghaffafglfdlaa
