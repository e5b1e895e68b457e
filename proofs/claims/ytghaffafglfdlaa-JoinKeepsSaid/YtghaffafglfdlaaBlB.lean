/- Walks: the reference's filter: all bits, and whether a value may be there. -/
import Derived.Test.YtghaffafglfdlaaBlR
namespace Go.Proofs.Ytghaffafglfdlaa
open Go.RowKit

attribute [local go_sem ↓] Go.wp_at_zero Go.wp_at_succ

def Fs (l : List Bool) : List Value := l.map fun b => .bool b
theorem EboolB : ElemT Try.prog 71 4 1 1 (.bool false) := ElemT.mk' (by kernel_rfl) (by kernel_rfl) rfl (by omega)
theorem fs_set (l : List Bool) (p : Nat) : (Fs l).set p (.bool true) = Fs (l.set p true) := by
  unfold Fs
  rw [List.map_set]
theorem fs_get {l : List Bool} {k : Nat} (hk : k < l.length) : (Fs l)[k]? = some (.bool (l.getD k false)) := by
  unfold Fs
  rw [List.getElem?_map, List.getElem?_eq_getElem hk, List.getD_eq_getElem?_getD, List.getElem?_eq_getElem hk]
  rfl
theorem flagAll_take (m n : Nat) (vs : List Va) (on : List Bool) {i : Nat} (hi : i < vs.length) : flagAll m n (vs.take (i + 1)) on = flagN m vs[i] n (flagAll m n (vs.take i) on) := by
  unfold flagAll
  rw [List.take_succ_eq_append_getElem hi, List.foldl_append]
  rfl
/-- Flags with the first of some bits made. -/
def flagJ (ps : List Nat) (j : Nat) (on : List Bool) : List Bool := (ps.take j).foldl (fun l p => l.set p true) on
theorem flagJ_len (ps : List Nat) (j : Nat) (on : List Bool) : (flagJ ps j on).length = on.length := fold_set_len _ _
theorem flagJ_succ (ps : List Nat) (on : List Bool) {j : Nat} (hj : j < ps.length) : flagJ ps (j + 1) on = (flagJ ps j on).set ps[j] true := by
  unfold flagJ
  rw [List.take_succ_eq_append_getElem hj, List.foldl_append]
  rfl
theorem flagJ_all (m n : Nat) (v : Va) (on : List Bool) : flagJ (placesV m n v) n on = flagN m v n on := by
  unfold flagJ flagN
  rw [List.take_of_length_le (by rw [placesV_len]; omega)]
theorem places_get (m n : Nat) (v : Va) {j : Nat} (hj : j < n) : (placesV m n v)[j]'(by rw [placesV_len]; exact hj) = placeV m v j := by simp [placesV]
theorem ns_get (l : List Nat) {j : Nat} (hj : j < l.length) : (Ns l)[j]? = some (.int .i64 ((l[j] : Nat) : Int)) := by
  unfold Ns
  rw [List.getElem?_map, List.getElem?_eq_getElem hj]
  rfl

set_option maxHeartbeats 4000000 in
set_option maxRecDepth 100000 in
theorem bits_any (m n L : Nat) (vs : List Va) (A : Option Addr) (c : Nat) (w : World) (hL : vs.length = L) (hL1 : L ≤ 1000000) (hr : Rd w A (rcells vs)) (h1 : 1 ≤ m) (h2 : m ≤ 8192) (h4 : n ≤ 8) (hv : ∀ v ∈ vs, rightV v = true ∧ v.ok) :
    Calls Try.prog 20 #[.slice A L c, .int .i64 (m : Int), .int .i64 (n : Int)] w fun e w' => ∃ G, e = .returned (.slice (some ⟨G, 0, none⟩) ((m + 7) / 8) ((m + 7) / 8)) ∧ Blk w' G 5 (Bs (bitsB m n vs)) ∧ Below w.heap.size w w' := by
  have HL := Lib.hid hL
  have Hr := Lib.hid hr
  have Hv := Lib.hid hv
  have hB0 : Hid (bitsB m n vs = packN (flagAll m n vs (List.replicate m false)) m (List.replicate ((m + 7) / 8) 0)) := rfl
  clear hL hr hv
  go_enter Try.func20, Try.ntmps20
  go_wp2_with (first | (at_builtin; refine hold ?_) | (at_make; refine hold ?_))
  (with_reducible refine unhold ?_)
  refine wpList_mkn rfl _ _ _ rfl EboolB w.heap.size _ _ _ _ m rfl rfl rfl rfl (by omega) (by unfold maxLen; omega) (Nat.le_refl _) ?_
  intro w1 ho1 hb1 hlt1
  rw [Nat.mul_one] at ho1
  have hk := ho1.blk
  rw [show (Value.cells (.bool false)) = #[.bool false] from rfl, toList_madeCells_one] at hk
  have hkk : Hid (Blk w1 w.heap.size 4 (Fs (List.replicate m false))) := by show Blk _ _ _ _; rw [Fs, List.map_replicate]; exact hk.1
  have hb1' := Lib.hid hb1
  clear ho1 hk
  go_wp2_with fail
  go_loopw [8] (fun i wr => ∃ t : Nat, t ≤ L ∧ i = .int .i64 (t : Int) ∧ w.heap.size ≤ wr.heap.size ∧ Hid (Below w.heap.size w wr ∧ Blk wr w.heap.size 4 (Fs (flagAll m n (vs.take t) (List.replicate m false))))) (fun i _ => L - (intOf i).toNat)
  case atStart => exact ⟨0, by omega, by go_num, hb1'.out.size, hb1'.out, hkk.out⟩
  case round =>
    clear hkk hb1' hb1 hlt1
    obtain ⟨t, ht, rfl, hzr, hrest⟩ := hrel
    by_cases hlt : t < L
    · have hlt' : t < vs.length := by rw [HL.out]; exact hlt
      have hnx := Lib.hid (flagAll_take m n vs (List.replicate m false) hlt')
      have hvt := Hv.out vs[t] (List.getElem_mem hlt')
      have hpl := Lib.hid (fun w1 => places_any m n vs[t] w1 h1 h2 h4 hvt.1 hvt.2)
      have hrd := Hr.out.below hrest.out.1
      have hlen : (flagAll m n (vs.take t) (List.replicate m false)).length = m := by rw [flagAll_len, List.length_replicate]
      obtain ⟨x, o, hAx, hxb, hxr, hx0⟩ := hrd.get (k := t * 3) (by rw [rcells_len]; omega)
      have d0 : wr.cell? ⟨x, o + t * 3, none⟩ = some (.int .u8 vs[t].k) := hxr _ _ (rcells_get vs t vs[t] 0 (List.getElem?_eq_getElem hlt') (by omega))
      have d1 : wr.cell? ⟨x, o + t * 3 + 1, none⟩ = some (.int .i64 vs[t].n) := hxr _ _ (rcells_get vs t vs[t] 1 (List.getElem?_eq_getElem hlt') (by omega))
      have d2 : wr.cell? ⟨x, o + t * 3 + 2, none⟩ = some (.string (St8 vs[t].s)) := hxr _ _ (rcells_get vs t vs[t] 2 (List.getElem?_eq_getElem hlt') (by omega))
      have hpp : Hid (∀ j, (hj : j < n) → (placesV m n vs[t])[j]'(by rw [placesV_len]; exact hj) = placeV m vs[t] j) := Lib.hid (fun j hj => places_get m n vs[t] hj)
      have hplt : Hid (∀ j, placeV m vs[t] j < m) := Lib.hid (fun j => placeV_lt (by omega) vs[t] j)
      generalize vs[t] = v at *
      generalize hfl : flagAll m n (vs.take t) (List.replicate m false) = on at *
      subst hAx
      unfold Va.agg at hpl
      have Hlen := Lib.hid hlen
      clear hvt hrd hxr hx0 hfl hlt' hlen
      go_wp2_with fail
      refine (hpl.out wr).mono ?_
      rintro e w2 ⟨A2, c2, rfl, ho2, hb2⟩
      have hk2 := hrest.out.2.below hb2
      have hb02 := hrest.out.1.trans (hb2.mono hrest.out.1.size)
      have Ho2 := Lib.hid ho2
      have Hk2 := Lib.hid hk2
      have Hb2 := Lib.hid hb02
      have hz2 := hb02.size
      clear ho2 hk2 hb02 hpl d0 d1 d2
      go_wp2_with fail
      go_loopw [10] (fun i wr => ∃ j : Nat, j ≤ n ∧ i = .int .i64 (j : Int) ∧ w2.heap.size ≤ wr.heap.size ∧ Hid (Keeps [4] w.heap.size w2 wr ∧ Blk wr w.heap.size 4 (Fs (flagJ (placesV m n v) j on)))) (fun i _ => n - (intOf i).toNat)
      case atStart => exact ⟨0, by omega, by go_num, Nat.le_refl _, Keeps.refl _ _ _, Hk2.out⟩
      case round =>
        obtain ⟨j, hj, rfl, hzq, hq⟩ := hrel
        by_cases hjlt : j < n
        · have hjl : j < (placesV m n v).length := by rw [placesV_len]; exact hjlt
          have hfn := Lib.hid (flagJ_succ (placesV m n v) on hjl)
          have hrp := (Ho2.out.keeps (by decide) hq.out.1).rd
          obtain ⟨y, oy, hAy, hyb, hyr, hy0⟩ := hrp.get (k := j) (by rw [Ns, List.length_map]; exact hjl)
          have hcell : wr.cell? ⟨y, oy + j, none⟩ = some (.int .i64 ((placesV m n v)[j] : Nat)) := hyr _ _ (ns_get _ hjl)
          rw [hpp.out j hjlt] at hcell hfn
          have hpm := hplt.out j
          generalize placeV m v j = p at *
          subst hAy
          have hthere : (flagJ (placesV m n v) j on).length = m := by rw [flagJ_len, Hlen.out]
          have hon : wr.cell? ⟨w.heap.size, p, none⟩ = _ := (hq.out.2.cell p).trans (fs_get (by rw [hthere]; exact hpm))
          have hfz := hq.out.2.frozen p
          have hset := Lib.hid (hq.out.2.set_ p (.bool true))
          have hkeep := Lib.hid (hq.out.1.setCell (i := p) hq.out.2 (by simp) (Nat.le_refl _) (.bool true))
          clear hrp hyr hy0 hjl hthere
          go_wp2_with fail
          go_roundw
          case rel =>
            refine ⟨j + 1, by omega, by go_num, ?_, ?_⟩
            · rw [World.size_setCell]; exact hzq
            · refine ⟨hkeep.out, ?_⟩
              rw [hfn.out, ← fs_set]
              exact hset.out
          case measure => first | (simp [intOf]; done) | (simp [intOf]; omega)
        · obtain rfl : j = n := by omega
          have hlast := hq.out.2
          rw [flagJ_all, ← hnx.out] at hlast
          have Hlast := Lib.hid hlast
          have hbq : Hid (Below w.heap.size w wr) := Lib.hid (Hb2.out.trans (hq.out.1.below hz2))
          clear hlast hq
          go_wp2_with fail
          go_roundw
          case rel => exact ⟨t + 1, by omega, by go_num, hbq.out.size, hbq.out, Hlast.out⟩
          case measure => first | (simp [intOf]; done) | (simp [intOf]; omega)
    · obtain rfl : t = L := by omega
      have hfull : vs.take t = vs := by rw [← HL.out]; exact List.take_length
      rw [hfull] at hrest
      have honl : (flagAll m n vs (List.replicate m false)).length = m := by rw [flagAll_len, List.length_replicate]
      generalize flagAll m n vs (List.replicate m false) = on at *
      obtain ⟨K, hK⟩ : ∃ K, K = (m + 7) / 8 := ⟨_, rfl⟩
      rw [← hK] at hB0
      have HK := Lib.hid hK
      have e1 : ((m : Int) + 7) / 8 = (K : Int) := by omega
      have e2 : ((m : Int) + 7).tdiv 8 = (K : Int) := by rw [Int.tdiv_eq_ediv_of_nonneg (by omega)]; omega
      have hK1 : K ≤ 1024 := by omega
      have Honl := Lib.hid honl
      clear hfull honl hK
      go_wp2_with (first | (at_builtin; refine hold ?_) | (at_make; refine hold ?_))
      (with_reducible refine unhold ?_)
      refine wpList_mkn rfl _ _ _ rfl E8 w.heap.size _ _ _ _ K rfl rfl rfl rfl (by omega) (by unfold maxLen; omega) hzr ?_
      intro w3 ho3 hb3 hlt3
      rw [Nat.mul_one] at ho3
      have hk3 := ho3.blk
      rw [show (Value.cells (.int .u8 0)) = #[.int .u8 0] from rfl, toList_madeCells_one] at hk3
      have hk3' : Hid (Blk w3 wr.heap.size 5 (Bs (List.replicate K 0))) := by show Blk _ _ _ _; rw [Bs, List.map_replicate]; exact hk3.1
      have ho3' := Lib.hid (hrest.out.2.below hb3)
      have hb3' := Lib.hid (hrest.out.1.trans (hb3.mono hzr))
      clear ho3 hk3 hb3 hrest
      go_wp2_with fail
      generalize wr.heap.size = gb at *
      go_loopw [12] (fun i wr => ∃ j : Nat, j ≤ m ∧ i = .int .i64 (j : Int) ∧ w.heap.size ≤ wr.heap.size ∧ Hid (Below w.heap.size w wr ∧ Blk wr w.heap.size 4 (Fs on) ∧ Blk wr gb 5 (Bs (packN on j (List.replicate K 0))))) (fun i _ => m - (intOf i).toNat)
      case atStart => exact ⟨0, by omega, by go_num, hb3'.out.size, hb3'.out, ho3'.out, hk3'.out⟩
      case round =>
        clear hb3' ho3' hk3'
        obtain ⟨j, hj, rfl, hzq, hq⟩ := hrel
        by_cases hjlt : j < m
        · have hpk : Hid (packN on (j + 1) (List.replicate K 0) = if on.getD j false then plusBit (packN on j (List.replicate K 0)) j else packN on j (List.replicate K 0)) := rfl
          have hcl : (packN on j (List.replicate K 0)).length = K := by rw [packN_len, List.length_replicate]
          have hsm := Lib.hid (fun hb => (packN_at on (List.replicate K 0) (fun q => bitAt_zero K q) j hb).2)
          generalize hcc : packN on j (List.replicate K 0) = cur at *
          have hon : wr.cell? ⟨w.heap.size, j, none⟩ = _ := (hq.out.2.1.cell j).trans (fs_get (by rw [Honl.out]; exact hjlt))
          have HK8 : 8 * K ≥ m := by rw [HK.out]; omega
          obtain ⟨q, hqq⟩ : ∃ q, q = j / 8 := ⟨_, rfl⟩
          obtain ⟨r, hrr⟩ : ∃ r, r = j % 8 := ⟨_, rfl⟩
          have hqK : q < K := by omega
          have hsm2 : (cur.getD q 0).toNat < 2 ^ r := by
            rcases hsm.out (by rw [List.length_replicate]; omega) q with h | h
            · rwa [show j - 8 * q = r from by omega] at h
            · omega
          by_cases hf : on.getD j false = true
          · have hpk2 : Hid (packN on (j + 1) (List.replicate K 0) = plusBit cur j) := Lib.hid (by rw [hpk.out, if_pos hf])
            rw [hf] at hon
            have cg : wr.cell? ⟨gb, q, none⟩ = _ := (hq.out.2.2.cell q).trans (bs_get (by omega))
            have fg := hq.out.2.2.frozen q
            have hr8 : r < 8 := by omega
            have e1 : (j : Int) / 8 = (q : Int) := by omega
            have e2 : (j : Int) % 8 = (r : Int) := by omega
            have e3 : (j : Int).tdiv 8 = (q : Int) := by rw [Int.tdiv_eq_ediv_of_nonneg (by omega)]; omega
            have e4 : (j : Int).tmod 8 = (r : Int) := by rw [Int.tmod_eq_emod_of_nonneg (by omega)]; omega
            have e5 : IntKind.i64.wrap (q : Int) = (q : Int) := by rw [IntKind.wrap_i64]; omega
            obtain ⟨z, hz⟩ : ∃ z, z = 2 ^ r := ⟨_, rfl⟩
            have hz128 : z ≤ 128 := by rw [hz]; exact Nat.le_trans (Nat.pow_le_pow_right (by omega) (show r ≤ 7 by omega)) (by decide)
            have z1 : (2 : Int) ^ r = (z : Int) := by rw [hz]; simp
            have z2 : IntKind.u8.wrap (z : Int) = (z : Int) := by rw [IntKind.wrap_u8]; omega
            have z3 : (z : Int) % 256 = (z : Int) := by omega
            have hset : Hid (Blk (wr.setCell ⟨gb, q, none⟩ (.int .u8 (((cur.getD q 0).toNat + z : Nat) : Int))) gb 5 (Bs (plusBit cur j))) := by
              have := hq.out.2.2.set_ q (.int .u8 (((cur.getD q 0).toNat + z : Nat) : Int))
              rw [bs_set _ _ _ (by omega)] at this
              show Blk _ _ _ _
              unfold plusBit
              rw [← hqq, ← hrr, ← hz]
              exact this
            have hne : w.heap.size ≠ gb := hq.out.2.1.ne_of_type hq.out.2.2 (by decide)
            rw [← hz] at hsm2
            generalize (cur.getD q 0).toNat = X at *
            have x1 : IntKind.u8.wrap ((X : Int) + (z : Int)) = (X : Int) + (z : Int) := by rw [IntKind.wrap_u8]; omega
            have x2 : ((X : Int) + (z : Int)) % 256 = (X : Int) + (z : Int) := by omega
            rw [show (((X + z : Nat) : Nat) : Int) = (X : Int) + (z : Int) from by omega] at hset
            have hsetB := Lib.hid (hq.out.1.setCell (p := ⟨gb, q, none⟩) hzr (.int .u8 ((X : Int) + (z : Int))))
            have hsetO := Lib.hid (hq.out.2.1.far (p := ⟨gb, q, none⟩) hne (.int .u8 ((X : Int) + (z : Int))))
            clear hsm hqq hrr hz hne
            go_wp2_with fail
            go_region
            all_goals go_wp2_with fail
            refine ⟨⟨j + 1, by omega, by go_num, ?_, hsetB.out.drew, hsetO.out.drew, ?_⟩, by first | (simp [intOf]; done) | (simp [intOf]; omega)⟩
            · exact hsetB.out.drew.size
            · rw [hpk2.out]
              exact hset.out.drew
          · have hf' := Bool.eq_false_iff.2 hf
            have hpk2 : Hid (packN on (j + 1) (List.replicate K 0) = cur) := Lib.hid (by rw [hpk.out, if_neg hf])
            rw [hf'] at hon
            clear hsm hqq hrr hsm2
            go_wp2_with fail
            go_roundw
            case rel => exact ⟨j + 1, by omega, by go_num, hzq, hq.out.1, hq.out.2.1, by rw [hpk2.out]; exact hq.out.2.2⟩
            case measure => first | (simp [intOf]; done) | (simp [intOf]; omega)
        · obtain rfl : j = m := by omega
          go_wp2_with fail
          go_ret
          rw [hB0.out, ← HK.out]
          exact ⟨_, rfl, hq.out.2.2, hq.out.1⟩
end Go.Proofs.Ytghaffafglfdlaa
