/- Walks: the reference's filter: whether a value may be there. -/
import Derived.Test.YtghaffafglfdlaaBlB
namespace Go.Proofs.Ytghaffafglfdlaa
open Go.RowKit

attribute [local go_sem ↓] Go.wp_at_zero Go.wp_at_succ

set_option maxHeartbeats 4000000 in
set_option maxRecDepth 100000 in
theorem rmay_any (m n K G : Nat) (bs : List UInt8) (v : Va) (w : World) (hG : Blk w G 5 (Bs bs)) (hK : bs.length = K) (hm8 : m ≤ 8 * K) (h1 : 1 ≤ m) (h2 : m ≤ 8192) (h4 : n ≤ 8) (hK1 : K ≤ 2000) (hv : rightV v = true) (hok : v.ok) :
    Calls Try.prog 21 #[.slice (some ⟨G, 0, none⟩) K K, v.agg, .int .i64 (m : Int), .int .i64 (n : Int)] w fun e w' => e = .returned (.bool (mayB m n v bs)) ∧ Below w.heap.size w w' := by
  have hbA : Below w.heap.size w (w.alloc (.cells #[.int .u8 v.k, .int .i64 v.n, .string (St8 v.s)] 30)) := (Below.refl _ _).alloc (Nat.le_refl _) _
  have hGA := Lib.hid (hG.below hbA)
  have hbA' := Lib.hid hbA
  have hpl := Lib.hid (fun w1 => places_any m n v w1 h1 h2 h4 hv hok)
  have HK := Lib.hid hK
  have hR : Hid (∀ t, t ≤ n → bitAt bs (placeV m v t) = false → t < n → mayB m n v bs = false) := Lib.hid (fun t _ hb hlt => mayB_stop m t v bs hb n hlt)
  have hstep : Hid (∀ t, mayB m (t + 1) v bs = (mayB m t v bs && bitAt bs (placeV m v t))) := Lib.hid (fun t => mayB_next m t v bs)
  have hplt : Hid (∀ j, placeV m v j < m) := Lib.hid (fun j => placeV_lt (by omega) v j)
  obtain ⟨R, hRR⟩ : ∃ R, R = mayB m n v bs := ⟨_, rfl⟩
  rw [← hRR] at hR ⊢
  have HRR := Lib.hid hRR
  clear hG hK hv hok hRR hbA
  unfold Va.agg at *
  go_enter Try.func21, Try.ntmps21
  go_wp2_with fail
  refine (hpl.out _).mono ?_
  rintro e w2 ⟨A2, c2, rfl, ho2, hb2⟩
  have hG2 := Lib.hid (hGA.out.below hb2)
  have hb02 := Lib.hid (hbA'.out.trans (hb2.mono hbA'.out.size))
  have hrd := Lib.hid ho2.rd
  clear hGA hbA' hpl hb2 ho2
  go_wp2_with fail
  go_loopw [10] (fun i wr => ∃ t : Nat, t ≤ n ∧ i = .int .i64 (t : Int) ∧ Hid (mayB m t v bs = true) ∧ Hid (Below w.heap.size w wr ∧ Blk wr G 5 (Bs bs) ∧ Rd wr A2 (Ns (placesV m n v)))) (fun i _ => n - (intOf i).toNat)
  case atStart => exact ⟨0, by omega, by go_num, rfl, hb02.out, hG2.out, hrd.out⟩
  case round =>
    clear hb02 hG2 hrd
    obtain ⟨t, ht, rfl, hmt, hrest⟩ := hrel
    by_cases hlt : t < n
    · have hjl : t < (placesV m n v).length := by rw [placesV_len]; exact hlt
      obtain ⟨y, oy, hAy, hyb, hyr, hy0⟩ := hrest.out.2.2.get (k := t) (by rw [Ns, List.length_map]; exact hjl)
      have hcell : wr.cell? ⟨y, oy + t, none⟩ = some (.int .i64 ((placesV m n v)[t] : Nat)) := hyr _ _ (ns_get _ hjl)
      rw [places_get m n v hlt] at hcell
      have hnx := Lib.hid (hstep.out t)
      have hst := Lib.hid (fun hb => hR.out t ht hb hlt)
      have hp := hplt.out t
      generalize placeV m v t = p at *
      subst hAy
      obtain ⟨q, hq⟩ : ∃ q, q = p / 8 := ⟨_, rfl⟩
      obtain ⟨r, hr⟩ : ∃ r, r = p % 8 := ⟨_, rfl⟩
      have hqK : q < K := by omega
      have cg : wr.cell? ⟨G, q, none⟩ = _ := (hrest.out.2.1.cell q).trans (bs_get (by rw [HK.out]; exact hqK))
      have hr8 : r < 8 := by omega
      have e1 : (p : Int) / 8 = (q : Int) := by omega
      have e2 : (p : Int) % 8 = (r : Int) := by omega
      have e3 : (p : Int).tdiv 8 = (q : Int) := by rw [Int.tdiv_eq_ediv_of_nonneg (by omega)]; omega
      have e4 : (p : Int).tmod 8 = (r : Int) := by rw [Int.tmod_eq_emod_of_nonneg (by omega)]; omega
      have e5 : IntKind.i64.wrap (q : Int) = (q : Int) := by rw [IntKind.wrap_i64]; omega
      have hbit : Hid (bitAt bs p = decide ((bs.getD q 0).toNat / 2 ^ r % 2 = 1)) := by show _ = _; rw [hq, hr]; rfl
      obtain ⟨z, hz⟩ : ∃ z, z = 2 ^ r := ⟨_, rfl⟩
      have hz0 : 0 < z := by rw [hz]; exact Nat.pow_pos (by omega)
      have z1 : (2 : Int) ^ r = (z : Int) := by rw [hz]; simp
      rw [← hz] at hbit
      have hX := (bs.getD q 0).toNat_lt
      generalize hXx : (bs.getD q 0).toNat = X at cg hX hbit
      obtain ⟨Y, hY⟩ : ∃ Y, Y = X / z := ⟨_, rfl⟩
      rw [← hY] at hbit
      have hY256 : Y ≤ X := by rw [hY]; exact Nat.div_le_self _ _
      have y1 : (X : Int) / (z : Int) = (Y : Int) := by rw [hY]; simp
      have y2 : IntKind.u8.wrap (Y : Int) = (Y : Int) := by rw [IntKind.wrap_u8]; omega
      clear hyr hy0 hjl hq hr hz hXx hY hstep hR
      rcases Nat.mod_two_eq_zero_or_one Y with hb | hb
      · have y3 : (Y : Int) % 2 = 0 := by omega
        have y4 : (Y : Int).tmod 2 = 0 := by rw [Int.tmod_eq_emod_of_nonneg (by omega)]; omega
        have hb0 : Hid (R = false) := Lib.hid (hst.out (by rw [hbit.out, hb]; rfl))
        clear hst hbit hnx hb
        go_wp2_with fail
        go_region
        all_goals
          go_wp2_with fail
          go_ret
          rw [hb0.out]
          exact ⟨rfl, hrest.out.1.drew⟩
      · have y3 : (Y : Int) % 2 = 1 := by omega
        have y4 : (Y : Int).tmod 2 = 1 := by rw [Int.tmod_eq_emod_of_nonneg (by omega)]; omega
        have hnx' := hnx.out
        rw [hmt.out, hbit.out, hb] at hnx'
        have Hnx := Lib.hid hnx'
        clear hst hbit hnx hnx' hb
        go_wp2_with fail
        go_region
        all_goals go_wp2_with fail
        exact ⟨⟨t + 1, by omega, by go_num, Hnx.out, hrest.out.1.drew, hrest.out.2.1.drew, hrest.out.2.2.drew⟩, by first | (simp [intOf]; done) | (simp [intOf]; omega)⟩
    · obtain rfl : t = n := by omega
      go_wp2_with fail
      go_ret
      rw [HRR.out, hmt.out]
      exact ⟨rfl, hrest.out.1⟩
end Go.Proofs.Ytghaffafglfdlaa
