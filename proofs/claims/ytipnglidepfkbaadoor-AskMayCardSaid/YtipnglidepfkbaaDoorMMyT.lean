/- Walks: what may come of rows, as the reference finds it: from the last node to the first. (Printed by gen_myt.py.) -/
import Derived.Test.YtipnglidepfkbaaDoorMMyR
import Derived.Test.YtipnglidepfkbaaDoorMMyH
import Derived.Test.YtipnglidepfkbaaDoorMGlV
namespace Go.Proofs.YtipnglidepfkbaaDoor
set_option linter.unusedVariables false
set_option linter.unusedSimpArgs false
open Go.RowKit

attribute [local go_sem ↓] Go.wp_at_zero Go.wp_at_succ

theorem Et3 : ElemT Tryd.prog 68 37 3 3 (.agg #[.bool false, .bool false, .bool false]) := ElemT.mk' (by kernel_rfl) (by kernel_rfl) rfl (by omega)
def tcells (l : List T3) : List Value := l.flatMap T3.cells
theorem tcells_append (l m : List T3) : tcells (l ++ m) = tcells l ++ tcells m := List.flatMap_append
theorem tcells_one (x : T3) : tcells [x] = [.bool x.no, .bool x.un, .bool x.ye] := rfl
theorem tcells_len : ∀ l : List T3, (tcells l).length = l.length * 3
  | [] => rfl
  | x :: l => by
    have := tcells_len l
    unfold tcells at *
    rw [List.flatMap_cons, List.length_append, this, List.length_cons]
    show 3 + _ = _
    omega
theorem Own.shrink3 {w : World} {base : Nat} {e : TypeId} {A : Option Addr} {n c : Nat} {xs : List Value} (h : Own w base e 3 A n c xs) {m : Nat} (hm : m ≤ n) (hA : A ≠ none) : Own w base e 3 A m c (xs.take (m * 3)) := by
  have hl := h.1
  refine ⟨by rw [List.length_take, hl]; omega, ?_⟩
  rcases h.2 with ⟨hv, h0⟩ | ⟨g, cap, cur, hv, hg, hh, hnc, hcm, hcs, ht⟩
  · injection hv with h1 h2 h3
    exact absurd h1 hA
  · injection hv with h1 h2 h3
    subst h1; subst h3
    refine .inr ⟨g, c, cur, rfl, hg, hh, by omega, hcm, hcs, ?_⟩
    rw [← ht, List.take_take, Nat.min_eq_left (by omega)]
theorem tcells_top {w : World} {base : Nat} {e : TypeId} {A : Option Addr} {d c : Nat} {x : T3} {st : List T3} (h : Own w base e 3 A (d + 1) c (tcells (x :: st).reverse)) (hl : st.length = d) :
    ∃ b o, A = some ⟨b, o, none⟩ ∧ (w.cell? ⟨b, o + d * 3, none⟩ = some (.bool x.no) ∧ w.cell? ⟨b, o + d * 3 + 1, none⟩ = some (.bool x.un) ∧ w.cell? ⟨b, o + d * 3 + 2, none⟩ = some (.bool x.ye)) ∧ Own w base e 3 A d c (tcells st.reverse) ∧ d + 1 ≤ c ∧ c ≤ maxLen := by
  have hlen : (tcells st.reverse).length = d * 3 := by rw [tcells_len, List.length_reverse, hl]
  have hsp : tcells (x :: st).reverse = tcells st.reverse ++ [.bool x.no, .bool x.un, .bool x.ye] := by rw [List.reverse_cons, tcells_append]; rfl
  obtain ⟨b, o, rfl, hr⟩ := h.rd (by rw [hsp]; simp)
  have hx : ∀ t v, [Value.bool x.no, .bool x.un, .bool x.ye][t]? = some v → w.cell? ⟨b, o + d * 3 + t, none⟩ = some v := fun t v hv => by
    rw [Nat.add_assoc]
    refine hr (d * 3 + t) v ?_
    rw [hsp, List.getElem?_append_right (by omega), hlen, Nat.add_sub_cancel_left]
    exact hv
  have h2 := h.shrink3 (Nat.le_succ d) (by simp)
  rw [hsp, List.take_left' hlen] at h2
  exact ⟨b, o, rfl, ⟨hx 0 _ rfl, hx 1 _ rfl, hx 2 _ rfl⟩, h2, h.cap⟩
theorem tcells_push (x : T3) (st : List T3) : tcells st.reverse ++ [.bool x.no, .bool x.un, .bool x.ye] = tcells (x :: st).reverse := by
  rw [List.reverse_cons, tcells_append]
  rfl
theorem popsT_len (op : Int) : ∀ (k : Nat) (a : Bool × T3) (st : List T3) (x : T3) (st' : List T3), popsT op k a st = some (x, st') → st'.length ≤ st.length
  | 0, a, st, x, st', h => by rw [popsT] at h; cases h; exact Nat.le_refl _
  | k + 1, a, [], x, st', h => by rw [popsT] at h; cases h
  | k + 1, a, y :: st, x, st', h => by
    rw [popsT] at h
    have := popsT_len op k _ st x st' h
    rw [List.length_cons]
    omega
theorem foT_len (z : List Zo) : ∀ (l : List Nd) (st : List T3), foT z l = some st → st.length ≤ l.length
  | [], st, h => by rw [foT] at h; cases h; exact Nat.le_refl _
  | n :: t, st, h => by
    rw [foT] at h
    obtain ⟨s0, h0, h⟩ := Option.bind_eq_some_iff.1 h
    have h1 := foT_len z t s0 h0
    rw [List.length_cons]
    split at h
    · cases h
      rw [List.length_cons]
      omega
    · obtain ⟨p, hp, rfl⟩ := Option.map_eq_some_iff.1 h
      have := popsT_len _ _ _ _ p.1 p.2 hp
      rw [List.length_cons]
      omega

/-- What stands while a node is looked at: the answer's own array, the node, and what was found so far. -/
structure RpAt (w wo wr : World) (T : TypeId) (ns : List Value) (t : T3) : Prop where
  r : T3At wr w.heap.size 37 ⟨false, false, false⟩
  nd : Blk wr wo.heap.size T ns
  o : T3At wr (wo.heap.size + 1) 37 t
  hg : w.heap.size < wo.heap.size
  below : Below wo.heap.size wo wr
namespace RpAt
variable {w wo wr w' : World} {T : TypeId} {ns : List Value} {t : T3}
theorem keep (h : RpAt w wo wr T ns t) (hb : Below wr.heap.size wr w') : RpAt w wo w' T ns t :=
  ⟨h.r.below hb, h.nd.below hb, h.o.below hb, h.hg, h.below.trans (hb.mono h.below.size)⟩
theorem put (h : RpAt w wo wr T ns t) (x : T3) : RpAt w wo (((wr.setCell ⟨wo.heap.size + 1, 0, none⟩ (.bool x.no)).setCell ⟨wo.heap.size + 1, 1, none⟩ (.bool x.un)).setCell ⟨wo.heap.size + 1, 2, none⟩ (.bool x.ye)) T ns x :=
  have h1 := h.hg
  ⟨((h.r.far (by omega) 0 _).far (by omega) 1 _).far (by omega) 2 _, ((h.nd.far (p := ⟨wo.heap.size + 1, 0, none⟩) (by show _ ≠ wo.heap.size + 1; omega) _).far (p := ⟨wo.heap.size + 1, 1, none⟩) (by show _ ≠ wo.heap.size + 1; omega) _).far (p := ⟨wo.heap.size + 1, 2, none⟩) (by show _ ≠ wo.heap.size + 1; omega) _, h.o.three x, h.hg, below_three h.below (by omega) _ _ _⟩
end RpAt

set_option maxHeartbeats 16000000 in
set_option maxRecDepth 100000 in
theorem rmay_c (kinds : List Int) (l : List Nd) (z : List Zo) (L X : Option Addr) (n c rn rc : Nat) (w : World) (hl : l.length = n) (hr : z.length = rn) (hk : z.length = kinds.length) (hri : rightN kinds l = true) (hL : Rd w L (ncells l)) (hX : Rd w X (zcells z)) (hn : n ≤ 1000) (hrn : rn ≤ 1000000) (hs1 : ∀ x ∈ l, x.v.s.length ≤ 1000000) (hlk : ∀ x ∈ l, x.op = 7 → (partsM x.v.s).2 = true) (hT : Lib.Utf8Tabs 0 1 w) :
    Calls Tryd.prog 15 #[.slice L n c, .slice X rn rc] w fun e w' => e = .returned (mayM l z).agg ∧ Below w.heap.size w w' := by
  have hfo := right_foT hk hri
  generalize mayM l z = V at *
  have hmay : ∀ x ∈ l, mayN kinds x = true := by
    unfold rightN at hri
    exact List.all_eq_true.1 (Bool.and_eq_true_iff.1 (Bool.and_eq_true_iff.1 hri).1).2
  have hkr : kinds.length = rn := by rw [← hk, hr]
  have HL := Lib.hid hL
  have HX := Lib.hid hX
  have Hl := Lib.hid hl
  have Hr := Lib.hid hr
  have Hmay := Lib.hid hmay
  have Hfo := Lib.hid hfo
  have Hle := Lib.hid (fun x (hx : x ∈ l) (hop : 5 ≤ x.op ∧ x.op ≤ 8) v w' (hb : Below w.heap.size w w') => rknownZ_c x v w' hop (hs1 x hx) (hlk x hx) (Utf8Tabs_below hT hb))
  have hwn : IntKind.i64.wrap ((n : Int) - 1) = (n : Int) - 1 := by rw [IntKind.wrap_i64]; omega
  have hbW : Below w.heap.size w (w.alloc (.cells #[.bool false, .bool false, .bool false] 37)) := (Below.refl _ _).alloc (Nat.le_refl _) _
  have HbW := Lib.hid hbW
  have HrW := Lib.hid (T3At.new w 37 ⟨false, false, false⟩)
  clear hL hX hl hr hmay hfo hs1 hlk hT hri hk hbW
  go_enter Tryd.func15, Tryd.ntmps15
  go_wp2_with fail
  go_loopw [5, 6] (fun vs vi wr => ∃ (i : Int) (m k c : Nat) (A : Option Addr) (st : List T3), vs = .slice A k c ∧ vi = .int .i64 i ∧ i = (m : Int) - 1 ∧ m ≤ n ∧ Hid (st.length = k) ∧ Hid (foT z (l.drop m) = some st) ∧ Hid (Own wr (w.heap.size + 1) 37 3 A k c (tcells st.reverse)) ∧ Hid (T3At wr w.heap.size 37 ⟨false, false, false⟩) ∧ Hid (Below w.heap.size w wr)) (fun _ vi _ => (intOf vi + 1).toNat)
  case atStart => exact ⟨(n : Int) - 1, n, 0, 0, none, [], rfl, rfl, rfl, by omega, rfl, (by show _ = _; rw [List.drop_eq_nil_of_le (by rw [Hl.out]; omega)]; rfl), Own.nil _ _ _ _, HrW, HbW⟩
  case round =>
    clear HrW HbW
    obtain ⟨i, m, kk, cc, A, st, rfl, rfl, him, hm, Hst, Hf, Ho, HR0, Hb⟩ := hrel
    clear hwn
    by_cases hi : i = -1
    · have hneg : ¬ (0 : Int) ≤ i := by omega
      obtain rfl : m = 0 := by omega
      clear hi him
      have hst1 : st = [V] := by
        have := Hf.out
        rw [List.drop_zero, Hfo.out] at this
        exact (Option.some.inj this).symm
      subst hst1
      obtain rfl : kk = 1 := by have := Hst.out; simpa using this.symm
      obtain ⟨b, o, rfl, ⟨t0, t1, t2⟩, _, _, _⟩ := tcells_top (d := 0) Ho.out rfl
      rw [Nat.zero_mul, Nat.add_zero] at t0 t1 t2
      obtain ⟨r0, r1, r2⟩ := HR0.out.cells
      have rF := fun i => HR0.out.frozen i
      have HS := Lib.hid (HR0.out.three V)
      have HE := Lib.hid (below_three Hb.out (Nat.le_refl w.heap.size) (.bool V.no) (.bool V.un) (.bool V.ye))
      clear Ho Hf Hfo Hle
      go_wp2_with fail
      (try simp only [Exit.inBlock, Exit.then])
      refine bodyPost_ret (results_cell_row rfl _ _ w.heap.size 37 #[.bool V.no, .bool V.un, .bool V.ye] (0, 0) _ rfl HS.out Tryd.underlying37 rfl (by kernel_rfl)) rfl ?_
      exact ⟨rfl, HE.out⟩
    · obtain ⟨j, rfl⟩ : ∃ j, m = j + 1 := ⟨m - 1, by omega⟩
      obtain rfl : i = (j : Int) := by omega
      have hjn : j < n := by omega
      have hjI0 : (0 : Int) ≤ (j : Int) := by omega
      have hjI1 : (j : Int) < (n : Int) := by omega
      have hwj : IntKind.i64.wrap ((j : Int) - 1) = (j : Int) - 1 := by rw [IntKind.wrap_i64]; omega
      clear him hi
      have hjl : j < l.length := by rw [Hl.out]; exact hjn
      have hg := List.getElem?_eq_getElem hjl
      have hkk : kk ≤ 1000 := by
        have h1 := foT_len z _ _ Hf.out
        rw [List.length_drop, Hl.out, Hst.out] at h1
        omega
      have hfs := foT_drop z l j (by rw [Hfo.out]; rfl)
      rw [List.drop_eq_getElem_cons hjl, foT, Hf.out, Option.bind_some] at hfs
      have hfj : Hid (foT z (l.drop j) = if l[j].asks then some (knownZ l[j] (zAt z l[j].col) :: st) else (popsT l[j].op l[j].parts.toNat (firstZ l[j].op) st).map fun p => p.1 :: p.2) := by
        show _ = _
        rw [List.drop_eq_getElem_cons hjl, foT, Hf.out, Option.bind_some]
      obtain ⟨b, o, rfl, c0, c1, c2, c3, c4, c5⟩ := node_cells (HL.out.below Hb.out) hg
      have hmx := Hmay.out l[j] (List.getElem_mem hjl)
      have hop := may_op hmx
      have hpx := may_parts hmx
      have hcx := Lib.hid (may_col hmx)
      have hki := fun w' => rkids_c l[j] w'
      rw [may_kids hmx] at hki
      have Hki := Lib.hid hki
      have hco := Lib.hid (fun w' => column_c l[j].op w')
      have has : Hid (l[j].asks = decide (5 ≤ l[j].op ∧ l[j].op ≤ 8)) := rfl
      have hlx := Lib.hid (Hle.out l[j] (List.getElem_mem hjl))
      have hlw : w.heap.size < wr.heap.size := Blk.lt HR0.out
      generalize wr = wo at *
      generalize l[j] = x at *
      clear hmx hki hg hjl Hf
      have hzo := Hb.out.size
      obtain ⟨op, col, kids, k, nn, s⟩ := x
      unfold Nd.agg at Hki hlx
      dsimp only at c0 c1 c2 c3 c4 c5 hop hcx hco has hlx hfj hfs
      by_cases ha : 5 ≤ op
      · have hasT := has.out
        rw [decide_eq_true ⟨ha, hop.2⟩] at hasT
        have hco2 := fun w' => hco.out w'
        rw [decide_eq_true ⟨ha, hop.2⟩] at hco2
        rw [hasT, if_pos rfl] at hfj
        have hp0 := asks_parts hasT
        rw [hp0] at Hki
        obtain ⟨hc0, hc1⟩ := hcx.out hasT
        obtain ⟨cj, rfl⟩ := Int.eq_ofNat_of_zero_le hc0
        have hcr1 : cj < z.length := by rw [Hr.out, ← hkr]; omega
        have hcjI0 : (0 : Int) ≤ (cj : Int) := by omega
        have hcjI : (cj : Int) < (rn : Int) := by rw [← hkr]; omega
        rw [zAt_get hcr1] at hfj
        have hlf := hlx.out ⟨ha, hop.2⟩ z[cj]
        obtain ⟨b2, o2, hXe, hzc⟩ := zone_cells (HX.out.below Hb.out) hcr1
        obtain ⟨Y, hY⟩ : ∃ Y, knownZ ⟨op, (cj : Int), kids, ⟨k, nn, s⟩⟩ z[cj] = Y := ⟨_, rfl⟩
        rw [hY] at hfj hlf
        obtain ⟨P, hP⟩ : ∃ P : Nat, P = 0 := ⟨0, rfl⟩
        have hPle : (P : Int) ≤ 40 := by omega
        obtain ⟨stF, hstF⟩ : ∃ stF, stF = st := ⟨_, rfl⟩
        have Hfj : Hid (foT z (l.drop j) = some (Y :: stF)) := by show _ = _; rw [hstF]; exact hfj.out
        have Hpop : Hid (popsT op (P - 0) (true, Y) st = some (Y, stF)) := by show _ = _; rw [hP, hstF]; rfl
        have Hpar : Hid (0 < P → op = 2 ∨ op = 3 ∨ op = 4) := fun h => by omega
        rw [show (0 : Int) = (P : Int) by omega] at Hki
        generalize z[cj] = zz at *
        subst hXe
        obtain ⟨⟨lk, ln, ls⟩, ⟨mk, mn, ms⟩, nu, ma⟩ := zz
        unfold Zo.agg at hlf
        dsimp only at hlf hzc
        have v0 := hzc 0 (.int .u8 lk) (by omega) rfl
        have v1 := hzc 1 (.int .i64 ln) (by omega) rfl
        have v2 := hzc 2 (.string (St8 ls)) (by omega) rfl
        have v3 := hzc 3 (.int .u8 mk) (by omega) rfl
        have v4 := hzc 4 (.int .i64 mn) (by omega) rfl
        have v5 := hzc 5 (.string (St8 ms)) (by omega) rfl
        have v6 := hzc 6 (.int .i64 nu) (by omega) rfl
        have v7 := hzc 7 (.int .i64 ma) (by omega) rfl
        rw [Nat.add_zero] at v0
        have hb2 := cell_lt' v0
        dsimp only at hb2
        have Hlf := Lib.hid hlf
        have Hco2 := Lib.hid hco2
        have hRp : RpAt w wo ((wo.alloc (.cells #[.int .u8 op, .int .i64 (cj : Int), .int .i64 kids, .int .u8 k, .int .i64 nn, .string (St8 s)] 46)).alloc (.cells #[.bool false, .bool false, .bool true] 37)) 46 [.int .u8 op, .int .i64 (cj : Int), .int .i64 kids, .int .u8 k, .int .i64 nn, .string (St8 s)] ⟨false, false, true⟩ := by
          have h1 := (Blk.new wo 46 #[.int .u8 op, .int .i64 (cj : Int), .int .i64 kids, .int .u8 k, .int .i64 nn, .string (St8 s)]).alloc (.cells #[.bool false, .bool false, .bool true] 37)
          have h2 := T3At.new (wo.alloc (.cells #[.int .u8 op, .int .i64 (cj : Int), .int .i64 kids, .int .u8 k, .int .i64 nn, .string (St8 s)] 46)) 37 ⟨false, false, true⟩
          rw [World.size_alloc] at h2
          exact ⟨(HR0.out.alloc _).alloc _, h1, h2, hlw, ((Below.refl _ _).alloc (Nat.le_refl _) _).alloc (by rw [World.size_alloc]; omega) _⟩
        have n0 := hRp.nd.cell 0
        have n1 := hRp.nd.cell 1
        have n2 := hRp.nd.cell 2
        have n3 := hRp.nd.cell 3
        have n4 := hRp.nd.cell 4
        have n5 := hRp.nd.cell 5
        simp only [List.getElem?_cons_zero, List.getElem?_cons_succ] at n0 n1 n2 n3 n4 n5
        have HRp := Lib.hid hRp
        clear hRp
        generalize hWE : ((wo.alloc (.cells #[.int .u8 op, .int .i64 (cj : Int), .int .i64 kids, .int .u8 k, .int .i64 nn, .string (St8 s)] 46)).alloc (.cells #[.bool false, .bool false, .bool true] 37)) = WE at *
        have HWE := Lib.hid hWE
        clear hWE
        have hbd : Below WE.heap.size WE WE.drew := (Below.refl _ _).drew
        have HRd := Lib.hid (HRp.out.keep hbd)
        have Hcc : Hid (∀ w', RpAt w wo w' 46 [.int .u8 op, .int .i64 (cj : Int), .int .i64 kids, .int .u8 k, .int .i64 nn, .string (St8 s)] ⟨false, false, true⟩ → (w'.cell? ⟨wo.heap.size, 0, none⟩ = some (.int .u8 op) ∧ w'.cell? ⟨wo.heap.size, 1, none⟩ = some (.int .i64 (cj : Int)) ∧ w'.cell? ⟨wo.heap.size, 2, none⟩ = some (.int .i64 kids) ∧ w'.cell? ⟨wo.heap.size, 3, none⟩ = some (.int .u8 k) ∧ w'.cell? ⟨wo.heap.size, 4, none⟩ = some (.int .i64 nn) ∧ w'.cell? ⟨wo.heap.size, 5, none⟩ = some (.string (St8 s)) ∧ w'.cell? ⟨b2, o2 + cj * 8, none⟩ = some (.int .u8 lk) ∧ w'.cell? ⟨b2, o2 + cj * 8 + 1, none⟩ = some (.int .i64 ln) ∧ w'.cell? ⟨b2, o2 + cj * 8 + 2, none⟩ = some (.string (St8 ls)) ∧ w'.cell? ⟨b2, o2 + cj * 8 + 3, none⟩ = some (.int .u8 mk) ∧ w'.cell? ⟨b2, o2 + cj * 8 + 4, none⟩ = some (.int .i64 mn) ∧ w'.cell? ⟨b2, o2 + cj * 8 + 5, none⟩ = some (.string (St8 ms)) ∧ w'.cell? ⟨b2, o2 + cj * 8 + 6, none⟩ = some (.int .i64 nu) ∧ w'.cell? ⟨b2, o2 + cj * 8 + 7, none⟩ = some (.int .i64 ma))) := fun w' h => ⟨h.nd.cell 0, h.nd.cell 1, h.nd.cell 2, h.nd.cell 3, h.nd.cell 4, h.nd.cell 5, cell_keep h.below v0, cell_keep h.below v1, cell_keep h.below v2, cell_keep h.below v3, cell_keep h.below v4, cell_keep h.below v5, cell_keep h.below v6, cell_keep h.below v7⟩
        have hx2 := Hcc.out _ HRd.out
        clear hlf hco2 hco has hasT hp0 hcx hlx hfs v0 v1 v2 v3 v4 v5 v6 v7 hcr1 Hle hc0 hc1 ha hpx hbd hzc hY hP hstF hfj
        go_wp2_with fail
        rw [HWE.out]
        refine (Hco2.out _).mono ?_
        rintro e w1 ⟨rfl, rfl⟩
        go_wp2_with fail
        go_region_held3 (fun w' => w'.cell? ⟨wo.heap.size, 0, none⟩ = some (.int .u8 op) ∧ w'.cell? ⟨wo.heap.size, 1, none⟩ = some (.int .i64 (cj : Int)) ∧ w'.cell? ⟨wo.heap.size, 2, none⟩ = some (.int .i64 kids) ∧ w'.cell? ⟨wo.heap.size, 3, none⟩ = some (.int .u8 k) ∧ w'.cell? ⟨wo.heap.size, 4, none⟩ = some (.int .i64 nn) ∧ w'.cell? ⟨wo.heap.size, 5, none⟩ = some (.string (St8 s)) ∧ w'.cell? ⟨b2, o2 + cj * 8, none⟩ = some (.int .u8 lk) ∧ w'.cell? ⟨b2, o2 + cj * 8 + 1, none⟩ = some (.int .i64 ln) ∧ w'.cell? ⟨b2, o2 + cj * 8 + 2, none⟩ = some (.string (St8 ls)) ∧ w'.cell? ⟨b2, o2 + cj * 8 + 3, none⟩ = some (.int .u8 mk) ∧ w'.cell? ⟨b2, o2 + cj * 8 + 4, none⟩ = some (.int .i64 mn) ∧ w'.cell? ⟨b2, o2 + cj * 8 + 5, none⟩ = some (.string (St8 ms)) ∧ w'.cell? ⟨b2, o2 + cj * 8 + 6, none⟩ = some (.int .i64 nu) ∧ w'.cell? ⟨b2, o2 + cj * 8 + 7, none⟩ = some (.int .i64 ma))
          (first | exact hx4 | exact hx3 | exact hx2)
          (first | (go_at_call 45; refine (Hlf.out _ (Hb.out.trans (HRd.out.below.mono hzo))).mono ?_; rintro e w2 ⟨rfl, hb2'⟩; have HR2 := HRd.out.keep hb2'; have hx3 := Hcc.out w2 HR2; have HP2 := Lib.hid (HR2.put Y); obtain ⟨q0, q1, q2⟩ := HR2.o.cells; have qf := fun i => HR2.o.frozen i; have hx4 : (fun w' => w'.cell? ⟨wo.heap.size, 0, none⟩ = some (.int .u8 op) ∧ w'.cell? ⟨wo.heap.size, 1, none⟩ = some (.int .i64 (cj : Int)) ∧ w'.cell? ⟨wo.heap.size, 2, none⟩ = some (.int .i64 kids) ∧ w'.cell? ⟨wo.heap.size, 3, none⟩ = some (.int .u8 k) ∧ w'.cell? ⟨wo.heap.size, 4, none⟩ = some (.int .i64 nn) ∧ w'.cell? ⟨wo.heap.size, 5, none⟩ = some (.string (St8 s)) ∧ w'.cell? ⟨b2, o2 + cj * 8, none⟩ = some (.int .u8 lk) ∧ w'.cell? ⟨b2, o2 + cj * 8 + 1, none⟩ = some (.int .i64 ln) ∧ w'.cell? ⟨b2, o2 + cj * 8 + 2, none⟩ = some (.string (St8 ls)) ∧ w'.cell? ⟨b2, o2 + cj * 8 + 3, none⟩ = some (.int .u8 mk) ∧ w'.cell? ⟨b2, o2 + cj * 8 + 4, none⟩ = some (.int .i64 mn) ∧ w'.cell? ⟨b2, o2 + cj * 8 + 5, none⟩ = some (.string (St8 ms)) ∧ w'.cell? ⟨b2, o2 + cj * 8 + 6, none⟩ = some (.int .i64 nu) ∧ w'.cell? ⟨b2, o2 + cj * 8 + 7, none⟩ = some (.int .i64 ma)) (((w2.setCell ⟨wo.heap.size + 1, 0, none⟩ (.bool Y.no)).setCell ⟨wo.heap.size + 1, 1, none⟩ (.bool Y.un)).setCell ⟨wo.heap.size + 1, 2, none⟩ (.bool Y.ye)) := ⟨cell_three hx3.1 (by show wo.heap.size ≠ _; omega) _ _ _, cell_three hx3.2.1 (by show wo.heap.size ≠ _; omega) _ _ _, cell_three hx3.2.2.1 (by show wo.heap.size ≠ _; omega) _ _ _, cell_three hx3.2.2.2.1 (by show wo.heap.size ≠ _; omega) _ _ _, cell_three hx3.2.2.2.2.1 (by show wo.heap.size ≠ _; omega) _ _ _, cell_three hx3.2.2.2.2.2.1 (by show wo.heap.size ≠ _; omega) _ _ _, cell_three hx3.2.2.2.2.2.2.1 (by show b2 ≠ _; omega) _ _ _, cell_three hx3.2.2.2.2.2.2.2.1 (by show b2 ≠ _; omega) _ _ _, cell_three hx3.2.2.2.2.2.2.2.2.1 (by show b2 ≠ _; omega) _ _ _, cell_three hx3.2.2.2.2.2.2.2.2.2.1 (by show b2 ≠ _; omega) _ _ _, cell_three hx3.2.2.2.2.2.2.2.2.2.2.1 (by show b2 ≠ _; omega) _ _ _, cell_three hx3.2.2.2.2.2.2.2.2.2.2.2.1 (by show b2 ≠ _; omega) _ _ _, cell_three hx3.2.2.2.2.2.2.2.2.2.2.2.2.1 (by show b2 ≠ _; omega) _ _ _, cell_three hx3.2.2.2.2.2.2.2.2.2.2.2.2.2 (by show b2 ≠ _; omega) _ _ _⟩; clear HR2; rw [T3.agg_eq]))
        clear hx2 hb2' q0 q1 q2 qf hx3 hx4 n0 n1 n2 n3 n4 n5 HRd HRp
        go_wp2_with fail
        go_loopw [5, 9] (fun v5 v9 wr => ∃ (q k5 cq5 : Nat) (A5 : Option Addr) (a : Bool × T3) (st5 : List T3), v5 = .slice A5 k5 cq5 ∧ v9 = .int .i64 (q : Int) ∧ q ≤ P ∧ k5 ≤ 1000 ∧ Hid (st5.length = k5) ∧ Hid (a.1 = decide (q = 0)) ∧ Hid (popsT op (P - q) a st5 = some (Y, stF)) ∧ Hid (Own wo (w.heap.size + 1) 37 3 A5 k5 cq5 (tcells st5.reverse)) ∧ Hid (RpAt w wo wr 46 [.int .u8 op, .int .i64 (cj : Int), .int .i64 kids, .int .u8 k, .int .i64 nn, .string (St8 s)] a.2)) (fun _ v9 _ => P - (intOf v9).toNat)
        case atStart => exact ⟨0, kk, cc, A, (true, Y), st, rfl, rfl, by omega, hkk, Hst, rfl, Hpop, Ho, HP2⟩
        case round =>
          obtain ⟨q, k5, cq5, A5, a, st5, rfl, rfl, hqP, hk5, Hl5, Ha, Hp5, Ho5, HRq⟩ := hrel
          have d0 := HRq.out.nd.cell 0
          have d1 := HRq.out.nd.cell 1
          have d2 := HRq.out.nd.cell 2
          have d3 := HRq.out.nd.cell 3
          have d4 := HRq.out.nd.cell 4
          have d5 := HRq.out.nd.cell 5
          simp only [List.getElem?_cons_zero, List.getElem?_cons_succ] at d0 d1 d2 d3 d4 d5
          by_cases hq : q < P
          · have hqI : (q : Int) < (P : Int) := by omega
            obtain ⟨x5, st6, rfl⟩ : ∃ x5 st6, st5 = x5 :: st6 := by
              cases st5 with
              | nil =>
                have := Hp5.out
                rw [show P - q = (P - q - 1) + 1 from by omega, popsT] at this
                cases this
              | cons a t => exact ⟨a, t, rfl⟩
            obtain ⟨d, rfl⟩ : ∃ d, k5 = d + 1 := ⟨k5 - 1, by have := Hl5.out; simp at this; omega⟩
            have hl6 : st6.length = d := by have := Hl5.out; simpa using this
            have hp6 := Hp5.out
            rw [show P - q = (P - (q + 1)) + 1 from by omega, popsT] at hp6
            have Hp6 := Lib.hid hp6
            obtain ⟨b5, o5, rfl, htop, ho6, hdc, hcm5⟩ := tcells_top Ho5.out hl6
            have Hl6 := Lib.hid hl6
            have Ho6 := Lib.hid ho6
            have Htop := Lib.hid htop
            have hwd : IntKind.i64.wrap (d : Int) = (d : Int) := by rw [IntKind.wrap_i64]; omega
            have hdI0 : (0 : Int) ≤ (d : Int) := by omega
            have hdI1 : (d : Int) < (d : Int) + 1 := by omega
            have hdc2 : (d : Int) ≤ (cq5 : Int) := by omega
            have hdc3 : d ≤ cq5 := by omega
            have hdc4 : d ≤ d + 1 := by omega
            have hor := Hpar.out (by omega)
            clear hp6 Hp5 htop ho6
            go_wp2_with fail
            refine (Hki.out _).mono ?_
            rintro e w5 ⟨rfl, hb5⟩
            have HR5 := HRq.out.keep hb5
            have t0 := cell_keep HR5.below Htop.out.1
            have t1 := cell_keep HR5.below Htop.out.2.1
            have t2 := cell_keep HR5.below Htop.out.2.2
            have HR6 := Lib.hid (HR5.keep ((Below.refl w5.heap.size w5).alloc (Nat.le_refl _) (.cells #[.bool x5.no, .bool x5.un, .bool x5.ye] 37)))
            have HX5 := Lib.hid (T3At.new w5 37 x5)
            obtain ⟨x0, x1, x2⟩ := HX5.out.cells
            obtain ⟨u0, u1, u2⟩ := HR6.out.o.cells
            have uF := fun i => HR6.out.o.frozen i
            have e0 := HR6.out.nd.cell 0
            simp only [List.getElem?_cons_zero] at e0
            clear hb5 HR5 d0 d1 d2 d3 d4 d5
            by_cases h4' : op = 4
            · have HJ : Hid (joinZ op a x5 = (false, x5.rev)) := by show _ = _; unfold joinZ; rw [if_pos h4']
              rw [HJ.out] at Hp6
              have k4 : (op == 4) = true := by rw [beq_iff_eq]; exact h4'
              have HP := Lib.hid (HR6.out.put x5.rev)
              clear hor h4'
              go_wp2_with fail
              go_roundw
              case rel => exact ⟨q + 1, d, cq5, _, (false, x5.rev), st6, rfl, by go_num, by omega, by omega, Hl6, (by show false = decide _; rw [decide_eq_false (by omega)]), Hp6, Ho6, HP⟩
              case measure => simp [intOf]; omega
            · have k4 : (op == 4) = false := by rw [beq_eq_false_iff_ne]; exact h4'
              by_cases hj0 : q = 0
              · subst hj0
                have HJ : Hid (joinZ op a x5 = (false, x5)) := by show _ = _; unfold joinZ; rw [if_neg h4', if_pos (by rw [Ha.out]; rfl)]
                rw [HJ.out] at Hp6
                have HP := Lib.hid (HR6.out.put x5)
                clear hor h4'
                go_wp2_with fail
                go_roundw
                case rel => exact ⟨0 + 1, d, cq5, _, (false, x5), st6, rfl, by go_num, by omega, by omega, Hl6, (by show false = decide _; rw [decide_eq_false (by omega)]), Hp6, Ho6, HP⟩
                case measure => simp [intOf]; omega
              · have hjz : ((q : Int) == 0) = false := by rw [beq_eq_false_iff_ne]; omega
                have hjn0 : ¬ (q : Int) = 0 := by omega
                have hae : a.1 = false := by rw [Ha.out, decide_eq_false hj0]
                rcases (show op = 2 ∨ op = 3 by omega) with e2 | e2
                · have HJ : Hid (joinZ op a x5 = (false, bothZ false a.2 x5)) := by show _ = _; unfold joinZ; rw [if_neg h4', if_neg (by rw [hae]; decide), decide_eq_false (show ¬ op = 3 by omega)]
                  rw [HJ.out] at Hp6
                  have k3 : (op == 3) = false := by rw [e2]; rfl
                  have hbo := Lib.hid (fun w' => rboth_and a.2 x5 w')
                  generalize bothZ false a.2 x5 = B at *
                  rw [T3.agg_eq] at hbo
                  rw [T3.agg_eq] at hbo
                  clear h4' hj0 e2 hor
                  go_wp2_with fail
                  refine (hbo.out _).mono ?_
                  rintro e w7 ⟨rfl, hb7⟩
                  have HR7 := Lib.hid (HR6.out.keep hb7)
                  obtain ⟨r0, r1, r2⟩ := HR7.out.o.cells
                  have rF := fun i => HR7.out.o.frozen i
                  have HP := Lib.hid (HR7.out.put B)
                  rw [T3.agg_eq]
                  clear hb7 u0 u1 u2 uF x0 x1 x2 e0 t0 t1 t2
                  go_wp2_with fail
                  go_roundw
                  case rel => exact ⟨q + 1, d, cq5, _, (false, B), st6, rfl, by go_num, by omega, by omega, Hl6, (by show false = decide _; rw [decide_eq_false (by omega)]), Hp6, Ho6, HP⟩
                  case measure => simp [intOf]; omega
                · have HJ : Hid (joinZ op a x5 = (false, bothZ true a.2 x5)) := by show _ = _; unfold joinZ; rw [if_neg h4', if_neg (by rw [hae]; decide), decide_eq_true e2]
                  rw [HJ.out] at Hp6
                  have k3 : (op == 3) = true := by rw [e2]; rfl
                  have hbo := Lib.hid (fun w' => rboth_or a.2 x5 w')
                  generalize bothZ true a.2 x5 = B at *
                  rw [T3.agg_eq] at hbo
                  rw [T3.agg_eq] at hbo
                  clear h4' hj0 e2 hor
                  go_wp2_with fail
                  refine (hbo.out _).mono ?_
                  rintro e w7 ⟨rfl, hb7⟩
                  have HR7 := Lib.hid (HR6.out.keep hb7)
                  obtain ⟨r0, r1, r2⟩ := HR7.out.o.cells
                  have rF := fun i => HR7.out.o.frozen i
                  have HP := Lib.hid (HR7.out.put B)
                  rw [T3.agg_eq]
                  clear hb7 u0 u1 u2 uF x0 x1 x2 e0 t0 t1 t2
                  go_wp2_with fail
                  go_roundw
                  case rel => exact ⟨q + 1, d, cq5, _, (false, B), st6, rfl, by go_num, by omega, by omega, Hl6, (by show false = decide _; rw [decide_eq_false (by omega)]), Hp6, Ho6, HP⟩
                  case measure => simp [intOf]; omega
          · obtain rfl : q = P := by omega
            have hp := Hp5.out
            rw [Nat.sub_self, popsT] at hp
            obtain ⟨hY, rfl⟩ : a.2 = Y ∧ st5 = stF := by have := Option.some.inj hp; exact ⟨congrArg Prod.fst this, congrArg Prod.snd this⟩
            rw [hY] at HRq
            clear hp Hp5 hY
            go_wp2_with fail
            refine (Hki.out _).mono ?_
            rintro e w5 ⟨rfl, hb5⟩
            have HR5 := Lib.hid (HRq.out.keep hb5)
            obtain ⟨u0, u1, u2⟩ := HR5.out.o.cells
            clear hb5 d0 d1 d2 d3 d4 d5
            have hbP := HR5.out.below.alloc HR5.out.below.size (.cells #[.bool Y.no, .bool Y.un, .bool Y.ye] 37)
            have hnewP := (Blk.new w5 37 #[.bool Y.no, .bool Y.un, .bool Y.ye]).range
            have hoP := Own.below Ho5.out hbP
            have hrP := HR5.out.r.alloc (.cells #[.bool Y.no, .bool Y.un, .bool Y.ye] 37)
            have hbP2 := Hb.out.trans (hbP.mono hzo)
            have hzP := hbP.size
            have hzP2 : w.heap.size + 1 ≤ (w5.alloc (.cells #[.bool Y.no, .bool Y.un, .bool Y.ye] 37)).heap.size := by omega
            have hlenP : (tcells st5.reverse).length = k5 * 3 := by rw [tcells_len, List.length_reverse, Hl5.out]
            have HhbP2 := Lib.hid hbP2
            have HrP := Lib.hid hrP
            have HoP := Lib.hid hoP
            have hz6 := HhbP2.out.size
            clear hbP hbP2 hrP
            go_wp2_with (first | (at_builtin; refine hold ?_) | (at_make; refine hold ?_))
            (with_reducible refine unhold ?_)
            refine wpList_apd rfl _ _ _ rfl Et3 (w.heap.size + 1) _ (k5) _ (tcells st5.reverse) rfl hoP _ 1 _ [.bool Y.no, .bool Y.un, .bool Y.ye] rfl rfl (fun _ => ⟨_, _, rfl, hnewP⟩) (by simp [Value.oneCell']) (k5 + 1) rfl _ rfl (by omega) (by omega) hzP2 ?_
            intro A9 c9 w9 ho9 hg9 _
            have Hb9 := Lib.hid (HhbP2.out.grown hg9 hz6 (fun k hk => by have := HoP.out.row_ge k hk; omega))
            have Hr9 : Hid (T3At w9 w.heap.size 37 ⟨false, false, false⟩) := Blk.grown HrP.out hg9 (fun e => by have := HoP.out.row_ge _ e.symm; omega)
            rw [tcells_push] at ho9
            have Ho9 := Lib.hid ho9
            clear ho9 hg9 hoP hnewP
            go_wp2_with fail
            go_roundw
            case rel => exact ⟨(j : Int) - 1, j, k5 + 1, c9, A9, Y :: st5, rfl, rfl, rfl, by omega, (by show _ = _; rw [List.length_cons]; exact congrArg (· + 1) Hl5.out), Hfj, Ho9, Hr9, Hb9⟩
            case measure => first | (simp [intOf]; done) | (simp [intOf]; omega)
      · have hasF := has.out
        rw [decide_eq_false (by omega)] at hasF
        have hco2 := fun w' => hco.out w'
        rw [decide_eq_false (by omega)] at hco2
        rw [hasF, if_neg (by decide)] at hfj hfs
        obtain ⟨P, hP⟩ := Int.eq_ofNat_of_zero_le hpx.1
        have hPle : (P : Int) ≤ 40 := by rw [← hP]; exact hpx.2
        rw [hP] at Hki
        rw [hP, Int.toNat_natCast] at hfj hfs
        obtain ⟨⟨Y, stF⟩, hpop⟩ : ∃ p, popsT op P (firstZ op) st = some p := by
          cases hpp : popsT op P (firstZ op) st with
          | none => rw [hpp] at hfs; cases hfs
          | some p => exact ⟨p, rfl⟩
        rw [hpop] at hfj
        have Hfj : Hid (foT z (l.drop j) = some (Y :: stF)) := hfj.out
        have Hpop : Hid (popsT op (P - 0) (firstZ op) st = some (Y, stF)) := hpop
        have Hco2 := Lib.hid hco2
        have hpar : 0 < P → op = 2 ∨ op = 3 ∨ op = 4 := fun h => by
          unfold Nd.parts at hP
          dsimp only at hP
          by_cases h23 : op = 2 ∨ op = 3
          · omega
          · rw [if_neg h23] at hP
            by_cases h4 : op = 4
            · omega
            · rw [if_neg h4] at hP; omega
        have Hpar := Lib.hid hpar
        have hRp : RpAt w wo ((wo.alloc (.cells #[.int .u8 op, .int .i64 col, .int .i64 kids, .int .u8 k, .int .i64 nn, .string (St8 s)] 46)).alloc (.cells #[.bool false, .bool false, .bool true] 37)) 46 [.int .u8 op, .int .i64 col, .int .i64 kids, .int .u8 k, .int .i64 nn, .string (St8 s)] ⟨false, false, true⟩ := by
          have h1 := (Blk.new wo 46 #[.int .u8 op, .int .i64 col, .int .i64 kids, .int .u8 k, .int .i64 nn, .string (St8 s)]).alloc (.cells #[.bool false, .bool false, .bool true] 37)
          have h2 := T3At.new (wo.alloc (.cells #[.int .u8 op, .int .i64 col, .int .i64 kids, .int .u8 k, .int .i64 nn, .string (St8 s)] 46)) 37 ⟨false, false, true⟩
          rw [World.size_alloc] at h2
          exact ⟨(HR0.out.alloc _).alloc _, h1, h2, hlw, ((Below.refl _ _).alloc (Nat.le_refl _) _).alloc (by rw [World.size_alloc]; omega) _⟩
        have n0 := hRp.nd.cell 0
        have n1 := hRp.nd.cell 1
        have n2 := hRp.nd.cell 2
        have n3 := hRp.nd.cell 3
        have n4 := hRp.nd.cell 4
        have n5 := hRp.nd.cell 5
        simp only [List.getElem?_cons_zero, List.getElem?_cons_succ] at n0 n1 n2 n3 n4 n5
        have HRp := Lib.hid hRp
        clear hRp
        generalize hWE : ((wo.alloc (.cells #[.int .u8 op, .int .i64 col, .int .i64 kids, .int .u8 k, .int .i64 nn, .string (St8 s)] 46)).alloc (.cells #[.bool false, .bool false, .bool true] 37)) = WE at *
        have HWE := Lib.hid hWE
        clear hWE
        clear hco2 hco has hasF hfj hfs hpop hpx hcx hlx Hle hP hpar ha
        go_wp2_with fail
        rw [HWE.out]
        refine (Hco2.out _).mono ?_
        rintro e w1 ⟨rfl, rfl⟩
        clear n0 n1 n2 n3 n4 n5
        go_wp2_with fail
        go_loopw [5, 9] (fun v5 v9 wr => ∃ (q k5 cq5 : Nat) (A5 : Option Addr) (a : Bool × T3) (st5 : List T3), v5 = .slice A5 k5 cq5 ∧ v9 = .int .i64 (q : Int) ∧ q ≤ P ∧ k5 ≤ 1000 ∧ Hid (st5.length = k5) ∧ Hid (a.1 = decide (q = 0)) ∧ Hid (popsT op (P - q) a st5 = some (Y, stF)) ∧ Hid (Own wo (w.heap.size + 1) 37 3 A5 k5 cq5 (tcells st5.reverse)) ∧ Hid (RpAt w wo wr 46 [.int .u8 op, .int .i64 col, .int .i64 kids, .int .u8 k, .int .i64 nn, .string (St8 s)] a.2)) (fun _ v9 _ => P - (intOf v9).toNat)
        case atStart => exact ⟨0, kk, cc, A, firstZ op, st, rfl, rfl, by omega, hkk, Hst, rfl, Hpop, Ho, HRp⟩
        case round =>
          obtain ⟨q, k5, cq5, A5, a, st5, rfl, rfl, hqP, hk5, Hl5, Ha, Hp5, Ho5, HRq⟩ := hrel
          have d0 := HRq.out.nd.cell 0
          have d1 := HRq.out.nd.cell 1
          have d2 := HRq.out.nd.cell 2
          have d3 := HRq.out.nd.cell 3
          have d4 := HRq.out.nd.cell 4
          have d5 := HRq.out.nd.cell 5
          simp only [List.getElem?_cons_zero, List.getElem?_cons_succ] at d0 d1 d2 d3 d4 d5
          by_cases hq : q < P
          · have hqI : (q : Int) < (P : Int) := by omega
            obtain ⟨x5, st6, rfl⟩ : ∃ x5 st6, st5 = x5 :: st6 := by
              cases st5 with
              | nil =>
                have := Hp5.out
                rw [show P - q = (P - q - 1) + 1 from by omega, popsT] at this
                cases this
              | cons a t => exact ⟨a, t, rfl⟩
            obtain ⟨d, rfl⟩ : ∃ d, k5 = d + 1 := ⟨k5 - 1, by have := Hl5.out; simp at this; omega⟩
            have hl6 : st6.length = d := by have := Hl5.out; simpa using this
            have hp6 := Hp5.out
            rw [show P - q = (P - (q + 1)) + 1 from by omega, popsT] at hp6
            have Hp6 := Lib.hid hp6
            obtain ⟨b5, o5, rfl, htop, ho6, hdc, hcm5⟩ := tcells_top Ho5.out hl6
            have Hl6 := Lib.hid hl6
            have Ho6 := Lib.hid ho6
            have Htop := Lib.hid htop
            have hwd : IntKind.i64.wrap (d : Int) = (d : Int) := by rw [IntKind.wrap_i64]; omega
            have hdI0 : (0 : Int) ≤ (d : Int) := by omega
            have hdI1 : (d : Int) < (d : Int) + 1 := by omega
            have hdc2 : (d : Int) ≤ (cq5 : Int) := by omega
            have hdc3 : d ≤ cq5 := by omega
            have hdc4 : d ≤ d + 1 := by omega
            have hor := Hpar.out (by omega)
            clear hp6 Hp5 htop ho6
            go_wp2_with fail
            refine (Hki.out _).mono ?_
            rintro e w5 ⟨rfl, hb5⟩
            have HR5 := HRq.out.keep hb5
            have t0 := cell_keep HR5.below Htop.out.1
            have t1 := cell_keep HR5.below Htop.out.2.1
            have t2 := cell_keep HR5.below Htop.out.2.2
            have HR6 := Lib.hid (HR5.keep ((Below.refl w5.heap.size w5).alloc (Nat.le_refl _) (.cells #[.bool x5.no, .bool x5.un, .bool x5.ye] 37)))
            have HX5 := Lib.hid (T3At.new w5 37 x5)
            obtain ⟨x0, x1, x2⟩ := HX5.out.cells
            obtain ⟨u0, u1, u2⟩ := HR6.out.o.cells
            have uF := fun i => HR6.out.o.frozen i
            have e0 := HR6.out.nd.cell 0
            simp only [List.getElem?_cons_zero] at e0
            clear hb5 HR5 d0 d1 d2 d3 d4 d5
            by_cases h4' : op = 4
            · have HJ : Hid (joinZ op a x5 = (false, x5.rev)) := by show _ = _; unfold joinZ; rw [if_pos h4']
              rw [HJ.out] at Hp6
              have k4 : (op == 4) = true := by rw [beq_iff_eq]; exact h4'
              have HP := Lib.hid (HR6.out.put x5.rev)
              clear hor h4'
              go_wp2_with fail
              go_roundw
              case rel => exact ⟨q + 1, d, cq5, _, (false, x5.rev), st6, rfl, by go_num, by omega, by omega, Hl6, (by show false = decide _; rw [decide_eq_false (by omega)]), Hp6, Ho6, HP⟩
              case measure => simp [intOf]; omega
            · have k4 : (op == 4) = false := by rw [beq_eq_false_iff_ne]; exact h4'
              by_cases hj0 : q = 0
              · subst hj0
                have HJ : Hid (joinZ op a x5 = (false, x5)) := by show _ = _; unfold joinZ; rw [if_neg h4', if_pos (by rw [Ha.out]; rfl)]
                rw [HJ.out] at Hp6
                have HP := Lib.hid (HR6.out.put x5)
                clear hor h4'
                go_wp2_with fail
                go_roundw
                case rel => exact ⟨0 + 1, d, cq5, _, (false, x5), st6, rfl, by go_num, by omega, by omega, Hl6, (by show false = decide _; rw [decide_eq_false (by omega)]), Hp6, Ho6, HP⟩
                case measure => simp [intOf]; omega
              · have hjz : ((q : Int) == 0) = false := by rw [beq_eq_false_iff_ne]; omega
                have hjn0 : ¬ (q : Int) = 0 := by omega
                have hae : a.1 = false := by rw [Ha.out, decide_eq_false hj0]
                rcases (show op = 2 ∨ op = 3 by omega) with e2 | e2
                · have HJ : Hid (joinZ op a x5 = (false, bothZ false a.2 x5)) := by show _ = _; unfold joinZ; rw [if_neg h4', if_neg (by rw [hae]; decide), decide_eq_false (show ¬ op = 3 by omega)]
                  rw [HJ.out] at Hp6
                  have k3 : (op == 3) = false := by rw [e2]; rfl
                  have hbo := Lib.hid (fun w' => rboth_and a.2 x5 w')
                  generalize bothZ false a.2 x5 = B at *
                  rw [T3.agg_eq] at hbo
                  rw [T3.agg_eq] at hbo
                  clear h4' hj0 e2 hor
                  go_wp2_with fail
                  refine (hbo.out _).mono ?_
                  rintro e w7 ⟨rfl, hb7⟩
                  have HR7 := Lib.hid (HR6.out.keep hb7)
                  obtain ⟨r0, r1, r2⟩ := HR7.out.o.cells
                  have rF := fun i => HR7.out.o.frozen i
                  have HP := Lib.hid (HR7.out.put B)
                  rw [T3.agg_eq]
                  clear hb7 u0 u1 u2 uF x0 x1 x2 e0 t0 t1 t2
                  go_wp2_with fail
                  go_roundw
                  case rel => exact ⟨q + 1, d, cq5, _, (false, B), st6, rfl, by go_num, by omega, by omega, Hl6, (by show false = decide _; rw [decide_eq_false (by omega)]), Hp6, Ho6, HP⟩
                  case measure => simp [intOf]; omega
                · have HJ : Hid (joinZ op a x5 = (false, bothZ true a.2 x5)) := by show _ = _; unfold joinZ; rw [if_neg h4', if_neg (by rw [hae]; decide), decide_eq_true e2]
                  rw [HJ.out] at Hp6
                  have k3 : (op == 3) = true := by rw [e2]; rfl
                  have hbo := Lib.hid (fun w' => rboth_or a.2 x5 w')
                  generalize bothZ true a.2 x5 = B at *
                  rw [T3.agg_eq] at hbo
                  rw [T3.agg_eq] at hbo
                  clear h4' hj0 e2 hor
                  go_wp2_with fail
                  refine (hbo.out _).mono ?_
                  rintro e w7 ⟨rfl, hb7⟩
                  have HR7 := Lib.hid (HR6.out.keep hb7)
                  obtain ⟨r0, r1, r2⟩ := HR7.out.o.cells
                  have rF := fun i => HR7.out.o.frozen i
                  have HP := Lib.hid (HR7.out.put B)
                  rw [T3.agg_eq]
                  clear hb7 u0 u1 u2 uF x0 x1 x2 e0 t0 t1 t2
                  go_wp2_with fail
                  go_roundw
                  case rel => exact ⟨q + 1, d, cq5, _, (false, B), st6, rfl, by go_num, by omega, by omega, Hl6, (by show false = decide _; rw [decide_eq_false (by omega)]), Hp6, Ho6, HP⟩
                  case measure => simp [intOf]; omega
          · obtain rfl : q = P := by omega
            have hp := Hp5.out
            rw [Nat.sub_self, popsT] at hp
            obtain ⟨hY, rfl⟩ : a.2 = Y ∧ st5 = stF := by have := Option.some.inj hp; exact ⟨congrArg Prod.fst this, congrArg Prod.snd this⟩
            rw [hY] at HRq
            clear hp Hp5 hY
            go_wp2_with fail
            refine (Hki.out _).mono ?_
            rintro e w5 ⟨rfl, hb5⟩
            have HR5 := Lib.hid (HRq.out.keep hb5)
            obtain ⟨u0, u1, u2⟩ := HR5.out.o.cells
            clear hb5 d0 d1 d2 d3 d4 d5
            have hbP := HR5.out.below.alloc HR5.out.below.size (.cells #[.bool Y.no, .bool Y.un, .bool Y.ye] 37)
            have hnewP := (Blk.new w5 37 #[.bool Y.no, .bool Y.un, .bool Y.ye]).range
            have hoP := Own.below Ho5.out hbP
            have hrP := HR5.out.r.alloc (.cells #[.bool Y.no, .bool Y.un, .bool Y.ye] 37)
            have hbP2 := Hb.out.trans (hbP.mono hzo)
            have hzP := hbP.size
            have hzP2 : w.heap.size + 1 ≤ (w5.alloc (.cells #[.bool Y.no, .bool Y.un, .bool Y.ye] 37)).heap.size := by omega
            have hlenP : (tcells st5.reverse).length = k5 * 3 := by rw [tcells_len, List.length_reverse, Hl5.out]
            have HhbP2 := Lib.hid hbP2
            have HrP := Lib.hid hrP
            have HoP := Lib.hid hoP
            have hz6 := HhbP2.out.size
            clear hbP hbP2 hrP
            go_wp2_with (first | (at_builtin; refine hold ?_) | (at_make; refine hold ?_))
            (with_reducible refine unhold ?_)
            refine wpList_apd rfl _ _ _ rfl Et3 (w.heap.size + 1) _ (k5) _ (tcells st5.reverse) rfl hoP _ 1 _ [.bool Y.no, .bool Y.un, .bool Y.ye] rfl rfl (fun _ => ⟨_, _, rfl, hnewP⟩) (by simp [Value.oneCell']) (k5 + 1) rfl _ rfl (by omega) (by omega) hzP2 ?_
            intro A9 c9 w9 ho9 hg9 _
            have Hb9 := Lib.hid (HhbP2.out.grown hg9 hz6 (fun k hk => by have := HoP.out.row_ge k hk; omega))
            have Hr9 : Hid (T3At w9 w.heap.size 37 ⟨false, false, false⟩) := Blk.grown HrP.out hg9 (fun e => by have := HoP.out.row_ge _ e.symm; omega)
            rw [tcells_push] at ho9
            have Ho9 := Lib.hid ho9
            clear ho9 hg9 hoP hnewP
            go_wp2_with fail
            go_roundw
            case rel => exact ⟨(j : Int) - 1, j, k5 + 1, c9, A9, Y :: st5, rfl, rfl, rfl, by omega, (by show _ = _; rw [List.length_cons]; exact congrArg (· + 1) Hl5.out), Hfj, Ho9, Hr9, Hb9⟩
            case measure => first | (simp [intOf]; done) | (simp [intOf]; omega)
end Go.Proofs.YtipnglidepfkbaaDoor
