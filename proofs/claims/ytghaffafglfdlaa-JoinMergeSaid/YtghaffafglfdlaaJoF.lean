/- Walks: which values and rows may be laid; the first rows of a list. -/
import Derived.Test.YtghaffafglfdlaaJoW
namespace Go.Proofs.Ytghaffafglfdlaa
open Go.RowKit

attribute [local go_sem ↓] Go.wp_at_zero Go.wp_at_succ

/-- Whether a value may be. -/
def rightV (v : Va) : Bool :=
  if v.k = 0 then decide (v.n = 0 ∧ v.s = []) else if v.k = 1 then decide ((v.n = 0 ∨ v.n = 1) ∧ v.s = []) else if v.k = 2 then decide (v.s = []) else if v.k = 3 then decide (v.n = 0 ∧ v.s.length ≤ 1024) else false
/-- Why a row can't be laid. -/
def mayR (r : RowM) : Int := if 32 < r.length then 3 else if r.all rightV then 0 else 7

theorem St8_nil_cmp (s : List UInt8) : ((St8 s).toList == (⟨#[]⟩ : ByteArray).toList) = decide (s = []) := St8_cmp s []
theorem St8_empty (s : List UInt8) : (St8 s).toList.isEmpty = decide (s = []) := by
  rw [St8_list]
  cases s <;> simp
theorem St8_nil_eq (s : List UInt8) : (St8 s == ⟨#[]⟩) = decide (s = []) := St8_eq s []
theorem St8_nil_iff (s : List UInt8) : (St8 s = ⟨#[]⟩) ↔ s = [] := ⟨fun h => St8_inj (m := []) h, fun h => by rw [h]; rfl⟩

set_option maxHeartbeats 4000000 in
set_option maxRecDepth 100000 in
theorem right_any (v : Va) (w : World) : Calls Try.prog 50 #[v.agg] w fun e w' => e = .returned (.bool (rightV v)) ∧ Below w.heap.size w w' := by
  have e1 := St8_nil_cmp v.s
  have e2 := St8_nil_eq v.s
  have e3 := St8_nil_iff v.s
  have e4 := St8_size v.s
  have e5 := St8_empty v.s
  have hv : Hid (rightV v = if v.k = 0 then decide (v.n = 0 ∧ v.s = []) else if v.k = 1 then decide ((v.n = 0 ∨ v.n = 1) ∧ v.s = []) else if v.k = 2 then decide (v.s = []) else if v.k = 3 then decide (v.n = 0 ∧ v.s.length ≤ 1024) else false) := rfl
  obtain ⟨k, n, s⟩ := v
  unfold Va.agg
  dsimp only at *
  generalize rightV ⟨k, n, s⟩ = R at *
  by_cases h0 : k = 0
  · subst h0
    by_cases hn : n = 0
    · subst hn
      by_cases hs : s = []
      · rw [decide_eq_true hs] at e1 e2 e5
        have e3 := e3.2 hs
        subst hs
        have hv' : Hid (R = true) := by show _ = _; rw [hv.out]; simp
        clear hv
        go_enter Try.func50, Try.ntmps50
        go_wp2_with fail
        go_returns
        rw [hv'.out]
        exact ⟨rfl, by go_grown⟩
      · rw [decide_eq_false hs] at e1 e2 e5
        have e3 := fun h => hs (e3.1 h)
        have hv' : Hid (R = false) := by show _ = _; rw [hv.out]; simp [Nat.le_refl, hs]
        clear hv
        go_enter Try.func50, Try.ntmps50
        go_wp2_with fail
        go_returns
        rw [hv'.out]
        exact ⟨rfl, by go_grown⟩
    · have hv' : Hid (R = false) := by show _ = _; rw [hv.out]; simp [hn]
      clear hv
      go_enter Try.func50, Try.ntmps50
      go_wp2_with fail
      go_returns
      rw [hv'.out]
      exact ⟨rfl, by go_grown⟩
  · by_cases h1 : k = 1
    · subst h1
      by_cases hn : n = 0
      · subst hn
        by_cases hs : s = []
        · rw [decide_eq_true hs] at e1 e2 e5
          have e3 := e3.2 hs
          subst hs
          have hv' : Hid (R = true) := by show _ = _; rw [hv.out]; simp
          clear hv
          go_enter Try.func50, Try.ntmps50
          go_wp2_with fail
          go_returns
          rw [hv'.out]
          exact ⟨rfl, by go_grown⟩
        · rw [decide_eq_false hs] at e1 e2 e5
          have e3 := fun h => hs (e3.1 h)
          have hv' : Hid (R = false) := by show _ = _; rw [hv.out]; simp [Nat.le_refl, hs]
          clear hv
          go_enter Try.func50, Try.ntmps50
          go_wp2_with fail
          go_returns
          rw [hv'.out]
          exact ⟨rfl, by go_grown⟩
      · by_cases hn1 : n = 1
        · subst hn1
          by_cases hs : s = []
          · rw [decide_eq_true hs] at e1 e2 e5
            have e3 := e3.2 hs
            subst hs
            have hv' : Hid (R = true) := by show _ = _; rw [hv.out]; simp
            clear hv
            go_enter Try.func50, Try.ntmps50
            go_wp2_with fail
            go_returns
            rw [hv'.out]
            exact ⟨rfl, by go_grown⟩
          · rw [decide_eq_false hs] at e1 e2 e5
            have e3 := fun h => hs (e3.1 h)
            have hv' : Hid (R = false) := by show _ = _; rw [hv.out]; simp [Nat.le_refl, hs]
            clear hv
            go_enter Try.func50, Try.ntmps50
            go_wp2_with fail
            go_returns
            rw [hv'.out]
            exact ⟨rfl, by go_grown⟩
        · have hv' : Hid (R = false) := by show _ = _; rw [hv.out]; simp [hn, hn1]
          clear hv
          go_enter Try.func50, Try.ntmps50
          go_wp2_with fail
          go_returns
          rw [hv'.out]
          exact ⟨rfl, by go_grown⟩
    · by_cases h2 : k = 2
      · subst h2
        by_cases hs : s = []
        · rw [decide_eq_true hs] at e1 e2 e5
          have e3 := e3.2 hs
          subst hs
          have hv' : Hid (R = true) := by show _ = _; rw [hv.out]; simp
          clear hv
          go_enter Try.func50, Try.ntmps50
          go_wp2_with fail
          go_returns
          rw [hv'.out]
          exact ⟨rfl, by go_grown⟩
        · rw [decide_eq_false hs] at e1 e2 e5
          have e3 := fun h => hs (e3.1 h)
          have hv' : Hid (R = false) := by show _ = _; rw [hv.out]; simp [Nat.le_refl, hs]
          clear hv
          go_enter Try.func50, Try.ntmps50
          go_wp2_with fail
          go_returns
          rw [hv'.out]
          exact ⟨rfl, by go_grown⟩
      · by_cases h3 : k = 3
        · subst h3
          by_cases hn : n = 0
          · subst hn
            by_cases hl : s.length ≤ 1024
            · have e6 : decide ((s.length : Int) ≤ 1024) = true := decide_eq_true (by omega)
              have hv' : Hid (R = true) := by show _ = _; rw [hv.out]; simp [hl]
              clear hv
              go_enter Try.func50, Try.ntmps50
              go_wp2_with fail
              go_returns
              rw [hv'.out]
              exact ⟨rfl, by go_grown⟩
            · have e6 : decide ((s.length : Int) ≤ 1024) = false := decide_eq_false (by omega)
              have hv' : Hid (R = false) := by show _ = _; rw [hv.out]; simp [hl]
              clear hv
              go_enter Try.func50, Try.ntmps50
              go_wp2_with fail
              go_returns
              rw [hv'.out]
              exact ⟨rfl, by go_grown⟩
          · have hv' : Hid (R = false) := by show _ = _; rw [hv.out]; simp [hn]
            clear hv
            go_enter Try.func50, Try.ntmps50
            go_wp2_with fail
            go_returns
            rw [hv'.out]
            exact ⟨rfl, by go_grown⟩
        · have hv' : Hid (R = false) := by show _ = _; rw [hv.out]; simp [h0, h1, h2, h3]
          clear hv
          go_enter Try.func50, Try.ntmps50
          go_wp2_with fail
          go_returns
          rw [hv'.out]
          exact ⟨rfl, by go_grown⟩

theorem rcells_ne {r : RowM} (h : 0 < r.length) : rcells r ≠ [] := fun e => by
  have := rcells_len r
  rw [e] at this
  simp at this
  omega
set_option maxHeartbeats 4000000 in
set_option maxRecDepth 100000 in
theorem may_any (r : RowM) (n c : Nat) (A : Option Addr) (w : World) (hn : r.length = n) (hr : Rd w A (rcells r)) (hc : n ≤ 9223372036854775807) :
    Calls Try.prog 27 #[.slice A n c] w fun e w' => e = .returned (.int .i64 (mayR r)) ∧ Below w.heap.size w w' := by
  have Hn := Lib.hid hn
  by_cases h32 : 32 < n
  · have hv : Hid (mayR r = 3) := by show _ = _; unfold mayR; rw [if_pos (by omega)]
    clear hn
    go_enter Try.func27, Try.ntmps27
    go_wp2_with fail
    go_ret
    rw [hv.out]
    exact ⟨rfl, Below.refl _ _⟩
  · have hv : Hid (mayR r = if r.all rightV then 0 else 7) := by show _ = _; unfold mayR; rw [if_neg (by omega)]
    clear hn
    go_enter Try.func27, Try.ntmps27
    go_wp2_with fail
    go_loopw [3] (fun i wr => ∃ j : Nat, j ≤ n ∧ i = .int .i64 j ∧ Below w.heap.size w wr ∧ Hid (∀ v ∈ r.take j, rightV v = true)) (fun i _ => n - (intOf i).toNat)
    case atStart => exact ⟨0, by omega, rfl, Below.refl _ _, fun v h => by simp at h⟩
    case round =>
      obtain ⟨j, hj, rfl, hb, hall⟩ := hrel
      by_cases hlt : j < n
      · have hjl : j < r.length := by rw [Hn.out]; exact hlt
        obtain ⟨b, o, rfl, c0, c1, c2⟩ := row_cells (hr.below hb) hjl
        have htk := Lib.hid (List.take_succ_eq_append_getElem (l := r) (i := j) hjl)
        have hmem := Lib.hid (List.getElem_mem hjl)
        generalize r[j] = v at *
        have hri := right_any v wr
        unfold Va.agg at hri
        clear hr hjl
        cases hrv : rightV v
        · rw [hrv] at hri
          have hf : Hid (mayR r = 7) := by
            show _ = _
            rw [hv.out, if_neg]
            intro h
            have := List.all_eq_true.1 h v hmem.out
            rw [hrv] at this
            cases this
          have Hri := Lib.hid hri
          clear hri hrv
          go_wp2_with fail
          refine Hri.out.mono ?_
          rintro e w2 ⟨rfl, hb2⟩
          go_wp2_with fail
          go_ret
          rw [hf.out]
          exact ⟨rfl, hb.trans (hb2.mono hb.size)⟩
        · rw [hrv] at hri
          have Hri := Lib.hid hri
          have Hrv := Lib.hid hrv
          clear hri hrv
          go_wp2_with fail
          refine Hri.out.mono ?_
          rintro e w2 ⟨rfl, hb2⟩
          go_wp2_with fail
          go_roundw
          case rel =>
            refine ⟨j + 1, by omega, by go_num, hb.trans (hb2.mono hb.size), fun u hu => ?_⟩
            rw [htk.out] at hu
            rcases List.mem_append.1 hu with hu | hu
            · exact hall.out u hu
            · rw [List.mem_singleton.1 hu]; exact Hrv.out
          case measure => simp [intOf]; omega
      · obtain rfl : j = n := by omega
        have hf : Hid (mayR r = 0) := by
          show _ = _
          rw [hv.out, if_pos]
          refine List.all_eq_true.2 fun u hu => hall.out u ?_
          rw [List.take_of_length_le (by rw [Hn.out]; exact Nat.le_refl _)]
          exact hu
        go_wp2_with fail
        go_ret
        rw [hf.out]
        exact ⟨rfl, hb⟩

/-- A row that may be laid, of short texts. -/
structure small (r : RowM) : Prop where
  may : mayR r = 0
  txt : ∀ v ∈ r, v.s.length ≤ 200
theorem small_len {r : RowM} (h : small r) : r.length ≤ 32 := by
  have := h.may
  unfold mayR at this
  split at this
  · exact absurd this (by decide)
  · omega
theorem small_right {r : RowM} (h : small r) : ∀ v ∈ r, rightV v = true := by
  have := h.may
  unfold mayR at this
  split at this
  · exact absurd this (by decide)
  · split at this
    · rename_i e; exact List.all_eq_true.1 e
    · exact absurd this (by decide)

set_option maxHeartbeats 4000000 in
set_option maxRecDepth 100000 in
theorem few_c (rs : List RowM) (hs : List Value) (n c : Nat) (A : Option Addr) (w : World) (hn : rs.length = n) (hnc : n ≤ c) (hc : c ≤ 9223372036854775807) (hA : Rd w A hs) (hR : Rows w hs rs) :
    Calls Try.prog 8 #[.slice A n c] w fun e w' => (∃ k, k ≤ n ∧ k ≤ 40 ∧ (∀ r ∈ rs.take k, small r) ∧ e = .returned (.slice A k c)) ∧ Below w.heap.size w w' := by
  have Hn := Lib.hid hn
  clear hn
  go_enter Try.func8, Try.ntmps8
  go_wp2_with fail
  go_loopw [3, 10] (fun s i wr => ∃ (j : Nat) (z : Int), j ≤ n ∧ j ≤ 40 ∧ i = .int .i64 j ∧ s = .int .i64 z ∧ 0 ≤ z ∧ z ≤ 6000 ∧ Below w.heap.size w wr ∧ Hid (∀ r ∈ rs.take j, small r)) (fun _ i _ => n - (intOf i).toNat)
  case atStart => exact ⟨0, 6000, by omega, by omega, rfl, rfl, by omega, by omega, Below.refl _ _, fun v h => by simp at h⟩
  case round =>
    obtain ⟨j, z, hj, hj40, rfl, rfl, hz1, hz2, hb, hall⟩ := hrel
    by_cases hlt : j < n
    · have hjl : j < rs.length := by rw [Hn.out]; exact hlt
      obtain ⟨E, d, hh1, hcc, hcm, hr, hok⟩ := hR.at_ j rs[j] (List.getElem?_eq_getElem hjl)
      obtain ⟨b, o, rfl, hh⟩ := (hA.below hb) (fun e => by rw [e] at hh1; simp at hh1)
      have c0 := hh j _ hh1
      have htk := Lib.hid (List.take_succ_eq_append_getElem (l := rs) (i := j) hjl)
      have hrr := hr.below hb
      unfold maxLen at hcm
      clear hh hh1 hok hA hR hr
      generalize rs[j] = x at *
      generalize hx : x.length = xl at *
      have Hx := Lib.hid hx
      by_cases h40 : 40 ≤ j
      · go_wp2_with fail
        go_ret
        exact ⟨⟨j, by omega, by omega, hall.out, rfl⟩, hb⟩
      · have hzw := hb.size
        have hmy := may_any x xl d E wr hx hrr (by omega)
        have hmr := Lib.hid (rfl : mayR x = mayR x)
        cases hm : (mayR x != 0)
        · have hm0 : Hid (mayR x = 0) := by show mayR x = 0; simpa using hm
          rw [hm0.out] at hmy
          have Hmy := Lib.hid hmy
          clear hm hmy hx
          go_wp2_with fail
          refine Hmy.out.mono ?_
          rintro e w2 ⟨rfl, hb2⟩
          have hbw2 := hb.trans (hb2.mono hzw)
          have hr2 := hrr.below hb2
          have hz3 := hbw2.size
          clear hb hb2 hrr c0
          go_wp2_with fail
          go_loopw [3, 27] (fun s i wr => ∃ (q : Nat) (z : Int), q ≤ xl ∧ i = .int .i64 q ∧ s = .int .i64 z ∧ 0 ≤ z ∧ z ≤ 6000 ∧ Below w2.heap.size w2 wr ∧ Hid (∀ v ∈ x.take q, v.s.length ≤ 200)) (fun _ i _ => xl - (intOf i).toNat)
          case atStart => exact ⟨0, z, by omega, rfl, rfl, by omega, by omega, Below.refl _ _, fun v h => by simp at h⟩
          case round =>
            clear hz1 hz2
            obtain ⟨q, z, hq, rfl, rfl, hz1, hz2, hbq, htx⟩ := hrel
            have hbwr := hbw2.trans (hbq.mono hz3)
            by_cases hlq : q < xl
            · have hql : q < x.length := by rw [Hx.out]; exact hlq
              obtain ⟨g, o2, rfl, d0, d1, d2⟩ := row_cells (hr2.below hbq) hql
              have htq := Lib.hid (List.take_succ_eq_append_getElem (l := x) (i := q) hql)
              generalize x[q] = v at *
              obtain ⟨vk, vn, vs⟩ := v
              dsimp only at d0 d1 d2
              have hsz := St8_size vs
              have hbx : Below wr.heap.size wr (wr.alloc (.cells #[.int .u8 vk, .int .i64 vn, .string (St8 vs)] 30)) := (Below.refl _ _).alloc (Nat.le_refl _) _
              by_cases h200 : 200 < vs.length
              · go_wp2_with fail
                go_ret
                exact ⟨⟨j, by omega, by omega, hall.out, rfl⟩, hbwr.trans (hbx.mono hbwr.size)⟩
              · by_cases hvz : z < (vs.length : Int)
                · go_wp2_with fail
                  go_ret
                  exact ⟨⟨j, by omega, by omega, hall.out, rfl⟩, hbwr.trans (hbx.mono hbwr.size)⟩
                · go_wp2_with fail
                  go_roundw
                  case rel =>
                    refine ⟨q + 1, z - vs.length, by omega, by go_num, by go_num, by omega, by omega, hbq.trans (hbx.mono hbq.size), fun u hu => ?_⟩
                    rw [htq.out] at hu
                    rcases List.mem_append.1 hu with hu | hu
                    · exact htx.out u hu
                    · rw [List.mem_singleton.1 hu]; show vs.length ≤ 200; omega
                  case measure => simp [intOf]; omega
            · obtain rfl : q = xl := by omega
              have hsm : Hid (small x) := ⟨hm0.out, fun v hv => htx.out v (by rw [List.take_of_length_le (by rw [Hx.out]; exact Nat.le_refl _)]; exact hv)⟩
              go_wp2_with fail
              go_roundw
              case rel =>
                refine ⟨j + 1, z, by omega, by omega, by go_num, rfl, hz1, hz2, hbwr, fun r hr => ?_⟩
                rw [htk.out] at hr
                rcases List.mem_append.1 hr with hr | hr
                · exact hall.out r hr
                · rw [List.mem_singleton.1 hr]; exact hsm.out
              case measure => simp [intOf]; omega
        · have Hmy := Lib.hid hmy
          clear hmy hx
          go_wp2_with fail
          refine Hmy.out.mono ?_
          rintro e w2 ⟨rfl, hb2⟩
          go_wp2_with fail
          go_ret
          exact ⟨⟨j, by omega, by omega, hall.out, rfl⟩, hb.trans (hb2.mono hzw)⟩
    · obtain rfl : j = n := by omega
      go_wp2_with fail
      go_ret
      exact ⟨⟨j, by omega, by omega, hall.out, rfl⟩, hb⟩
end Go.Proofs.Ytghaffafglfdlaa
