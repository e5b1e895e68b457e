/- Walks: what may come of rows (ask.May), part by part. (Printed by gen_myr.py.) -/
import Derived.Test.YtipnglidepfkbaaDoorMMyL
import Derived.Test.YtipnglidepfkbaaDoorMMyG
import Derived.Test.YtipnglidepfkbaaDoorMGrT
import Derived.Deep.RegionHeld3
namespace Go.Proofs.YtipnglidepfkbaaDoor
set_option linter.unusedVariables false
set_option linter.unusedSimpArgs false
open Go.RowKit

attribute [local go_sem ↓] Go.wp_at_zero Go.wp_at_succ

theorem results_cell_row_tmp {P : Program} {fn : Func} {p u : Tmp} {ty : TypeId} (h : fn.results = #[.cell p ty, .tmp u]) (tmps : Array Value) (w : World) (g : Nat) (t : TypeId) (cs : Array Value) (fr : Nat × Nat) (d : TypeDesc)
    (hp : tmps.getD p undef = .pointer (some ⟨g, 0, none⟩)) (hg : w.heap[g]? = some (.cells cs t fr))
    (hu : P.underlying ty = some d) (hd : (match d with | .struct _ | .array _ _ => true | _ => false) = true) (hi : (P.info? ty).map (·.size) = some cs.size) :
    (results fn tmps).run P w = .ok (.tuple #[.agg cs, tmps.getD u undef]) w := by
  have hp' : tmps[p]?.getD undef = .pointer (some ⟨g, 0, none⟩) := by simpa using hp
  simp [results, h, hp', asAddr, run_loadVar_row w g t ty cs fr d hg hu hd hi, Sem.run_bind, Result.andThen]
theorem cell_lt' {w : World} {a : Addr} {v : Value} (h : w.cell? a = some v) : a.block < w.heap.size := by
  by_cases hp : a.block < w.heap.size
  · exact hp
  · exfalso
    have e : w.heap[a.block]? = none := Array.getElem?_eq_none (by omega)
    simp [World.cell?, e] at h
theorem cell_far {w : World} {p : Addr} {v : Value} {g : Nat} (h : w.cell? p = some v) (hne : p.block ≠ g) (i : Nat) (u : Value) : (w.setCell ⟨g, i, none⟩ u).cell? p = some v := by
  unfold World.cell? at h ⊢
  rw [heap_setCell_other w ⟨g, i, none⟩ p.block u hne]
  exact h
theorem cell_three {w : World} {p : Addr} {v : Value} {g : Nat} (h : w.cell? p = some v) (hne : p.block ≠ g) (x y z : Value) : (((w.setCell ⟨g, 0, none⟩ x).setCell ⟨g, 1, none⟩ y).setCell ⟨g, 2, none⟩ z).cell? p = some v :=
  cell_far (cell_far (cell_far h hne 0 x) hne 1 y) hne 2 z

theorem Zo.cells_len (z : Zo) : z.cells.length = 8 := rfl
theorem zcells_get : ∀ (r : List Zo) (j : Nat) (v : Zo) (t : Nat), r[j]? = some v → t < 8 → (zcells r)[j * 8 + t]? = v.cells[t]?
  | [], j, a, t, h, _ => by simp at h
  | x :: l, 0, a, t, h, ht => by
    obtain rfl : x = a := by simpa using h
    unfold zcells
    rw [List.flatMap_cons, Nat.zero_mul, Nat.zero_add, List.getElem?_append_left (by exact ht)]
  | x :: l, j + 1, a, t, h, ht => by
    have := zcells_get l j a t (by simpa using h) ht
    unfold zcells at *
    rw [List.flatMap_cons, List.getElem?_append_right (by show 8 ≤ _; omega), show (j + 1) * 8 + t - x.cells.length = j * 8 + t from by show (j + 1) * 8 + t - 8 = _; omega]
    exact this
theorem zone_cells {w : World} {A : Option Addr} {l : List Zo} {j : Nat} (hA : Rd w A (zcells l)) (hj : j < l.length) :
    ∃ b o, A = some ⟨b, o, none⟩ ∧ ∀ (t : Nat) (v : Value), t < 8 → l[j].cells[t]? = some v → w.cell? ⟨b, o + j * 8 + t, none⟩ = some v := by
  obtain ⟨b, o, e, hr⟩ := hA (by intro e; have := congrArg List.length e; rw [zcells_len, List.length_nil] at this; omega)
  refine ⟨b, o, e, fun t v ht hv => ?_⟩
  rw [Nat.add_assoc]
  exact hr (j * 8 + t) v (by rw [zcells_get l j _ t (List.getElem?_eq_getElem hj) ht]; exact hv)
theorem zAt_get {l : List Zo} {cj : Nat} (h : cj < l.length) : zAt l (cj : Int) = l[cj] := by
  unfold zAt
  rw [if_neg (by omega), Int.toNat_natCast, List.getD, List.getElem?_eq_getElem h]
  rfl

/-- What the closure that goes from part to part holds. -/
structure MyAt (w : World) (lb zb pb : Nat) (L X : Option Addr) (n c rn rc : Nat) (l : List Nd) (z : List Zo) : Prop where
  cl : w.cell? ⟨lb, 0, none⟩ = some (.slice L n c)
  cz : w.cell? ⟨zb, 0, none⟩ = some (.slice X rn rc)
  cp : w.cell? ⟨pb, 0, none⟩ = some (.func (Fn.func 42) #[] #[.pointer (some ⟨lb, 0, none⟩), .pointer (some ⟨zb, 0, none⟩), .pointer (some ⟨pb, 0, none⟩)])
  rl : Rd w L (ncells l)
  rz : Rd w X (zcells z)
theorem MyAt.below {w w' : World} {lb zb pb n c rn rc : Nat} {L X : Option Addr} {l : List Nd} {z : List Zo} (h : MyAt w lb zb pb L X n c rn rc l z) (hb : Below w.heap.size w w') : MyAt w' lb zb pb L X n c rn rc l z :=
  ⟨cell_keep hb h.cl, cell_keep hb h.cz, cell_keep hb h.cp, h.rl.below hb, h.rz.below hb⟩

/-- What stands while a node's parts are asked for: the node, the answer's own array, and what was found so far. -/
structure LpAt (w wr : World) (T : TypeId) (ns : List Value) (g : Nat) (t : T3) : Prop where
  r : T3At wr w.heap.size 37 ⟨false, false, false⟩
  nd : Blk wr (w.heap.size + 1) T ns
  o : T3At wr g 37 t
  hg : w.heap.size + 1 < g
  below : Below w.heap.size w wr
namespace LpAt
variable {w wr w' : World} {T : TypeId} {ns : List Value} {g : Nat} {t : T3}
theorem keep (h : LpAt w wr T ns g t) (hb : Below wr.heap.size wr w') : LpAt w w' T ns g t :=
  ⟨h.r.below hb, h.nd.below hb, h.o.below hb, h.hg, h.below.trans (hb.mono h.below.size)⟩
theorem lt (h : LpAt w wr T ns g t) : g < wr.heap.size := Blk.lt h.o
theorem put (h : LpAt w wr T ns g t) (x : T3) : LpAt w (((wr.setCell ⟨g, 0, none⟩ (.bool x.no)).setCell ⟨g, 1, none⟩ (.bool x.un)).setCell ⟨g, 2, none⟩ (.bool x.ye)) T ns g x :=
  have h1 := h.hg
  ⟨((h.r.far (by omega) 0 _).far (by omega) 1 _).far (by omega) 2 _, ((h.nd.far (p := ⟨g, 0, none⟩) (by show _ ≠ g; omega) _).far (p := ⟨g, 1, none⟩) (by show _ ≠ g; omega) _).far (p := ⟨g, 2, none⟩) (by show _ ≠ g; omega) _, h.o.three x, h.hg, below_three h.below (by omega) _ _ _⟩
end LpAt

set_option maxHeartbeats 16000000 in
set_option maxRecDepth 100000 in
theorem mpart_c (lb zb pb : Nat) (L X : Option Addr) (n c rn rc : Nat) (l : List Nd) (z : List Zo) (hl : l.length = n) (hr : z.length = rn) (hn : n ≤ 1000) (hrn : rn ≤ 1000000) (hfine : ∀ x ∈ l, fineN rn x = true) (hs1 : ∀ x ∈ l, x.v.s.length ≤ 1000000) (hlk : ∀ x ∈ l, x.op = 7 → (partsM x.v.s).2 = true) :
    ∀ (f i : Nat) (x : T3) (t' : List Nd) (w : World), MyAt w lb zb pb L X n c rn rc l z → i ≤ n → evT z f (l.drop i) = some (x, t') →
      Calls Tryd.prog 42 #[.int .i64 (i : Int), .pointer (some ⟨lb, 0, none⟩), .pointer (some ⟨zb, 0, none⟩), .pointer (some ⟨pb, 0, none⟩)] w fun e w' => e = .returned (.tuple #[x.agg, .int .i64 ((n - t'.length : Nat) : Int)]) ∧ Below w.heap.size w w' := by
  intro f
  induction f with
  | zero =>
    intro i x t' w hE hi h
    rw [evT] at h
    cases h
  | succ f ih =>
    intro i x t' w hE hi h
    by_cases hin : i < n
    · have hil : i < l.length := by rw [hl]; exact hin
      have hdr := List.drop_eq_getElem_cons hil
      rw [hdr, evT] at h
      have hg := List.getElem?_eq_getElem hil
      have hE1 := hE.below ((Below.refl w.heap.size w).alloc (Nat.le_refl _) (.cells #[.bool false, .bool false, .bool false] 37))
      obtain ⟨b, o, hLe, c0, c1, c2, c3, c4, c5⟩ := node_cells hE1.rl hg
      have hfi := hfine l[i] (List.getElem_mem hil)
      have hsx := hs1 l[i] (List.getElem_mem hil)
      have hlx := hlk l[i] (List.getElem_mem hil)
      have has := Lib.hid (fun w' => asks_any l[i] w')
      have hki := Lib.hid (fun w' => kids_any l[i] w')
      have hkn := Lib.hid (fun (hop : 5 ≤ l[i].op ∧ l[i].op ≤ 8) v w' => zknown_c l[i] v w' hop hsx hlx)
      have hcl := hE1.cl
      clear hE1
      have hcz := hE.cz
      have hdl : (l.drop (i + 1)).length = n - (i + 1) := by rw [List.length_drop, hl]
      generalize l[i] = nd at *
      subst hLe
      have Hih := Lib.hid ih
      have HE := Lib.hid hE
      have Hl := Lib.hid hl
      have hiI0 : (0 : Int) ≤ (i : Int) := by omega
      have hiI : (i : Int) < (n : Int) := by omega
      have hfop := fine_op hfi
      by_cases ha : nd.asks = true
      · rw [if_pos ha] at h
        cases h
        rw [ha] at has
        obtain ⟨hc0, hc1⟩ := fine_col hfi ha
        have hop8 : 5 ≤ nd.op ∧ nd.op ≤ 8 := of_decide_eq_true ha
        obtain ⟨cj, hcj⟩ := Int.eq_ofNat_of_zero_le hc0
        have hcr1 : cj < z.length := by rw [hr]; omega
        rw [hcj, zAt_get hcr1]
        obtain ⟨b2, o2, hXe, hzc⟩ := zone_cells hE.rz hcr1
        have hkz := Lib.hid (fun w' => hkn.out hop8 z[cj] w')
        have Hdl := Lib.hid hdl
        clear hkn
        generalize knownZ nd z[cj] = R at *
        generalize z[cj] = zz at *
        subst hXe
        obtain ⟨op, col, kids, k, nn, s⟩ := nd
        obtain ⟨⟨lk, ln, ls⟩, ⟨mk, mn, ms⟩, nu, ma⟩ := zz
        unfold Nd.agg at has hkz
        unfold Zo.agg at hkz
        dsimp only at c0 c1 c2 c3 c4 c5 has hkz hcj
        subst hcj
        have hcjI0 : (0 : Int) ≤ (cj : Int) := by omega
        have hcjI : (cj : Int) < (rn : Int) := by omega
        have v0 := hzc 0 (.int .u8 lk) (by omega) rfl
        have v1 := hzc 1 (.int .i64 ln) (by omega) rfl
        have v2 := hzc 2 (.string (St8 ls)) (by omega) rfl
        have v3 := hzc 3 (.int .u8 mk) (by omega) rfl
        have v4 := hzc 4 (.int .i64 mn) (by omega) rfl
        have v5 := hzc 5 (.string (St8 ms)) (by omega) rfl
        have v6 := hzc 6 (.int .i64 nu) (by omega) rfl
        have v7 := hzc 7 (.int .i64 ma) (by omega) rfl
        rw [Nat.add_zero] at v0
        have hzb := cell_lt' hcz
        have hb2 := cell_lt' v0
        dsimp only at hzb hb2
        have hb0 : Below w.heap.size w ((w.alloc (.cells #[.bool false, .bool false, .bool false] 37)).alloc (.cells #[.int .u8 op, .int .i64 (cj : Int), .int .i64 kids, .int .u8 k, .int .i64 nn, .string (St8 s)] 46)) := ((Below.refl _ _).alloc (Nat.le_refl _) _).alloc (by rw [World.size_alloc]; omega) _
        have hbl : Blk ((w.alloc (.cells #[.bool false, .bool false, .bool false] 37)).alloc (.cells #[.int .u8 op, .int .i64 (cj : Int), .int .i64 kids, .int .u8 k, .int .i64 nn, .string (St8 s)] 46)) (w.heap.size + 1) 46 [.int .u8 op, .int .i64 (cj : Int), .int .i64 kids, .int .u8 k, .int .i64 nn, .string (St8 s)] := by
          have h := Blk.new (w.alloc (.cells #[.bool false, .bool false, .bool false] 37)) 46 #[.int .u8 op, .int .i64 (cj : Int), .int .i64 kids, .int .u8 k, .int .i64 nn, .string (St8 s)]
          rw [World.size_alloc] at h
          exact h
        have hrs : T3At ((w.alloc (.cells #[.bool false, .bool false, .bool false] 37)).alloc (.cells #[.int .u8 op, .int .i64 (cj : Int), .int .i64 kids, .int .u8 k, .int .i64 nn, .string (St8 s)] 46)) w.heap.size 37 ⟨false, false, false⟩ := (T3At.new w 37 ⟨false, false, false⟩).alloc _
        generalize hW : ((w.alloc (.cells #[.bool false, .bool false, .bool false] 37)).alloc (.cells #[.int .u8 op, .int .i64 (cj : Int), .int .i64 kids, .int .u8 k, .int .i64 nn, .string (St8 s)] 46)) = W at *
        have HW := Lib.hid hW
        have Hc : Hid (∀ w', Below W.heap.size W w' → (w'.cell? ⟨zb, 0, none⟩ = some (.slice (some ⟨b2, o2, none⟩) rn rc) ∧ w'.cell? ⟨w.heap.size + 1, 0, none⟩ = some (.int .u8 op) ∧ w'.cell? ⟨w.heap.size + 1, 1, none⟩ = some (.int .i64 (cj : Int)) ∧ w'.cell? ⟨w.heap.size + 1, 2, none⟩ = some (.int .i64 kids) ∧ w'.cell? ⟨w.heap.size + 1, 3, none⟩ = some (.int .u8 k) ∧ w'.cell? ⟨w.heap.size + 1, 4, none⟩ = some (.int .i64 nn) ∧ w'.cell? ⟨w.heap.size + 1, 5, none⟩ = some (.string (St8 s)) ∧ w'.cell? ⟨b2, o2 + cj * 8, none⟩ = some (.int .u8 lk) ∧ w'.cell? ⟨b2, o2 + cj * 8 + 1, none⟩ = some (.int .i64 ln) ∧ w'.cell? ⟨b2, o2 + cj * 8 + 2, none⟩ = some (.string (St8 ls)) ∧ w'.cell? ⟨b2, o2 + cj * 8 + 3, none⟩ = some (.int .u8 mk) ∧ w'.cell? ⟨b2, o2 + cj * 8 + 4, none⟩ = some (.int .i64 mn) ∧ w'.cell? ⟨b2, o2 + cj * 8 + 5, none⟩ = some (.string (St8 ms)) ∧ w'.cell? ⟨b2, o2 + cj * 8 + 6, none⟩ = some (.int .i64 nu) ∧ w'.cell? ⟨b2, o2 + cj * 8 + 7, none⟩ = some (.int .i64 ma)) ∧ Hid (Below w.heap.size w w') ∧ Hid (T3At w' w.heap.size 37 ⟨false, false, false⟩)) := fun w' hb => ⟨⟨cell_keep (hb0.trans (hb.mono hb0.size)) hcz, (hbl.below hb).cell 0, (hbl.below hb).cell 1, (hbl.below hb).cell 2, (hbl.below hb).cell 3, (hbl.below hb).cell 4, (hbl.below hb).cell 5, cell_keep (hb0.trans (hb.mono hb0.size)) v0, cell_keep (hb0.trans (hb.mono hb0.size)) v1, cell_keep (hb0.trans (hb.mono hb0.size)) v2, cell_keep (hb0.trans (hb.mono hb0.size)) v3, cell_keep (hb0.trans (hb.mono hb0.size)) v4, cell_keep (hb0.trans (hb.mono hb0.size)) v5, cell_keep (hb0.trans (hb.mono hb0.size)) v6, cell_keep (hb0.trans (hb.mono hb0.size)) v7⟩, hb0.trans (hb.mono hb0.size), hrs.below hb⟩
        clear hbl hb0 v0 v1 v2 v3 v4 v5 v6 v7 hcz HE hE hfi hfine hs1 hlk hg hdr hil ih hsx hlx hcr1 hc0 hc1 hki Hih hdl hfop hzc hrs hop8 hW
        go_enter Tryd.func42, Tryd.ntmps42
        go_wp2_with fail
        rw [HW.out]
        refine (has.out _).mono ?_
        rintro e w1 ⟨rfl, hb1⟩
        have hx1 := (Hc.out w1 hb1).1
        have hbd := hb1.trans (Below.mono (show Below w1.heap.size w1 w1.drew from (Below.refl _ _).drew) hb1.size)
        have hx2 := (Hc.out w1.drew hbd).1
        have Hb1 := Lib.hid hbd
        clear hb1 hbd c0 c1 c2 c3 c4 c5 hcl
        obtain ⟨e0, d0, d1, d2, d3, d4, d5, u0, u1, u2, u3, u4, u5, u6, u7⟩ := hx1
        go_wp2_with fail
        go_region_held3 (fun w' => w'.cell? ⟨zb, 0, none⟩ = some (.slice (some ⟨b2, o2, none⟩) rn rc) ∧ w'.cell? ⟨w.heap.size + 1, 0, none⟩ = some (.int .u8 op) ∧ w'.cell? ⟨w.heap.size + 1, 1, none⟩ = some (.int .i64 (cj : Int)) ∧ w'.cell? ⟨w.heap.size + 1, 2, none⟩ = some (.int .i64 kids) ∧ w'.cell? ⟨w.heap.size + 1, 3, none⟩ = some (.int .u8 k) ∧ w'.cell? ⟨w.heap.size + 1, 4, none⟩ = some (.int .i64 nn) ∧ w'.cell? ⟨w.heap.size + 1, 5, none⟩ = some (.string (St8 s)) ∧ w'.cell? ⟨b2, o2 + cj * 8, none⟩ = some (.int .u8 lk) ∧ w'.cell? ⟨b2, o2 + cj * 8 + 1, none⟩ = some (.int .i64 ln) ∧ w'.cell? ⟨b2, o2 + cj * 8 + 2, none⟩ = some (.string (St8 ls)) ∧ w'.cell? ⟨b2, o2 + cj * 8 + 3, none⟩ = some (.int .u8 mk) ∧ w'.cell? ⟨b2, o2 + cj * 8 + 4, none⟩ = some (.int .i64 mn) ∧ w'.cell? ⟨b2, o2 + cj * 8 + 5, none⟩ = some (.string (St8 ms)) ∧ w'.cell? ⟨b2, o2 + cj * 8 + 6, none⟩ = some (.int .i64 nu) ∧ w'.cell? ⟨b2, o2 + cj * 8 + 7, none⟩ = some (.int .i64 ma))
          (first | exact hx4 | exact hx3 | exact hx2)
          (first | (go_at_call 43; refine (hkz.out _).mono ?_; rintro e w2 ⟨rfl, hb2'⟩; have Hb2 := Lib.hid (Hb1.out.trans (hb2'.mono Hb1.out.size)); have hx3 := (Hc.out w2 Hb2.out).1; have hO := (Hc.out w2 Hb2.out).2.2.out; have HS := Lib.hid (hO.three R); have HE := Lib.hid (below_three (Hc.out w2 Hb2.out).2.1.out (Nat.le_refl w.heap.size) (.bool R.no) (.bool R.un) (.bool R.ye)); obtain ⟨q0, q1, q2⟩ := hO.cells; have qf := fun i => hO.frozen i; have hx4 : (fun w' => w'.cell? ⟨zb, 0, none⟩ = some (.slice (some ⟨b2, o2, none⟩) rn rc) ∧ w'.cell? ⟨w.heap.size + 1, 0, none⟩ = some (.int .u8 op) ∧ w'.cell? ⟨w.heap.size + 1, 1, none⟩ = some (.int .i64 (cj : Int)) ∧ w'.cell? ⟨w.heap.size + 1, 2, none⟩ = some (.int .i64 kids) ∧ w'.cell? ⟨w.heap.size + 1, 3, none⟩ = some (.int .u8 k) ∧ w'.cell? ⟨w.heap.size + 1, 4, none⟩ = some (.int .i64 nn) ∧ w'.cell? ⟨w.heap.size + 1, 5, none⟩ = some (.string (St8 s)) ∧ w'.cell? ⟨b2, o2 + cj * 8, none⟩ = some (.int .u8 lk) ∧ w'.cell? ⟨b2, o2 + cj * 8 + 1, none⟩ = some (.int .i64 ln) ∧ w'.cell? ⟨b2, o2 + cj * 8 + 2, none⟩ = some (.string (St8 ls)) ∧ w'.cell? ⟨b2, o2 + cj * 8 + 3, none⟩ = some (.int .u8 mk) ∧ w'.cell? ⟨b2, o2 + cj * 8 + 4, none⟩ = some (.int .i64 mn) ∧ w'.cell? ⟨b2, o2 + cj * 8 + 5, none⟩ = some (.string (St8 ms)) ∧ w'.cell? ⟨b2, o2 + cj * 8 + 6, none⟩ = some (.int .i64 nu) ∧ w'.cell? ⟨b2, o2 + cj * 8 + 7, none⟩ = some (.int .i64 ma)) (((w2.setCell ⟨w.heap.size, 0, none⟩ (.bool R.no)).setCell ⟨w.heap.size, 1, none⟩ (.bool R.un)).setCell ⟨w.heap.size, 2, none⟩ (.bool R.ye)) := ⟨cell_three hx3.1 (by show zb ≠ _; omega) _ _ _, cell_three hx3.2.1 (by show w.heap.size + 1 ≠ _; omega) _ _ _, cell_three hx3.2.2.1 (by show w.heap.size + 1 ≠ _; omega) _ _ _, cell_three hx3.2.2.2.1 (by show w.heap.size + 1 ≠ _; omega) _ _ _, cell_three hx3.2.2.2.2.1 (by show w.heap.size + 1 ≠ _; omega) _ _ _, cell_three hx3.2.2.2.2.2.1 (by show w.heap.size + 1 ≠ _; omega) _ _ _, cell_three hx3.2.2.2.2.2.2.1 (by show w.heap.size + 1 ≠ _; omega) _ _ _, cell_three hx3.2.2.2.2.2.2.2.1 (by show b2 ≠ _; omega) _ _ _, cell_three hx3.2.2.2.2.2.2.2.2.1 (by show b2 ≠ _; omega) _ _ _, cell_three hx3.2.2.2.2.2.2.2.2.2.1 (by show b2 ≠ _; omega) _ _ _, cell_three hx3.2.2.2.2.2.2.2.2.2.2.1 (by show b2 ≠ _; omega) _ _ _, cell_three hx3.2.2.2.2.2.2.2.2.2.2.2.1 (by show b2 ≠ _; omega) _ _ _, cell_three hx3.2.2.2.2.2.2.2.2.2.2.2.2.1 (by show b2 ≠ _; omega) _ _ _, cell_three hx3.2.2.2.2.2.2.2.2.2.2.2.2.2.1 (by show b2 ≠ _; omega) _ _ _, cell_three hx3.2.2.2.2.2.2.2.2.2.2.2.2.2.2 (by show b2 ≠ _; omega) _ _ _⟩; clear hO; rw [T3.agg_eq]))
        go_wp2_with fail
        (try simp only [Exit.inBlock, Exit.then])
        refine bodyPost_ret (results_cell_row_tmp rfl _ _ w.heap.size 37 #[.bool R.no, .bool R.un, .bool R.ye] (0, 0) _ rfl HS.out Tryd.underlying37 rfl (by kernel_rfl)) rfl ?_
        rw [Hdl.out]
        exact ⟨congrArg (fun y => Ending.returned (Value.tuple #[.agg #[.bool R.no, .bool R.un, .bool R.ye], .int .i64 y])) (by first | rfl | omega), HE.out⟩
      · rw [if_neg ha] at h
        rw [Bool.not_eq_true] at ha
        rw [ha] at has
        have hpp := fine_parts hfi
        obtain ⟨K, hK⟩ := Int.eq_ofNat_of_zero_le hpp.1
        rw [hK] at hki hpp
        rw [hK, Int.toNat_natCast] at h
        have hK0 : nd.op = 1 → K = 0 := fun e => by
          have : nd.parts = 0 := by unfold Nd.parts; rw [if_neg (by omega), if_neg (by omega)]
          omega
        have Hev := Lib.hid h
        have h4 : nd.op = 1 ∨ nd.op = 4 ∨ nd.op = 2 ∨ nd.op = 3 := by have := ask_none ha; omega
        obtain ⟨op, col, kids, k, nn, s⟩ := nd
        unfold Nd.agg at has hki
        dsimp only at c0 c1 c2 c3 c4 c5 has hki hfop hK0 h4
        have hb0 : Below w.heap.size w ((w.alloc (.cells #[.bool false, .bool false, .bool false] 37)).alloc (.cells #[.int .u8 op, .int .i64 col, .int .i64 kids, .int .u8 k, .int .i64 nn, .string (St8 s)] 46)) := ((Below.refl _ _).alloc (Nat.le_refl _) _).alloc (by rw [World.size_alloc]; omega) _
        have hbl : Blk ((w.alloc (.cells #[.bool false, .bool false, .bool false] 37)).alloc (.cells #[.int .u8 op, .int .i64 col, .int .i64 kids, .int .u8 k, .int .i64 nn, .string (St8 s)] 46)) (w.heap.size + 1) 46 [.int .u8 op, .int .i64 col, .int .i64 kids, .int .u8 k, .int .i64 nn, .string (St8 s)] := by
          have h := Blk.new (w.alloc (.cells #[.bool false, .bool false, .bool false] 37)) 46 #[.int .u8 op, .int .i64 col, .int .i64 kids, .int .u8 k, .int .i64 nn, .string (St8 s)]
          rw [World.size_alloc] at h
          exact h
        have hrs : T3At ((w.alloc (.cells #[.bool false, .bool false, .bool false] 37)).alloc (.cells #[.int .u8 op, .int .i64 col, .int .i64 kids, .int .u8 k, .int .i64 nn, .string (St8 s)] 46)) w.heap.size 37 ⟨false, false, false⟩ := (T3At.new w 37 ⟨false, false, false⟩).alloc _
        have hw0 : ((w.alloc (.cells #[.bool false, .bool false, .bool false] 37)).alloc (.cells #[.int .u8 op, .int .i64 col, .int .i64 kids, .int .u8 k, .int .i64 nn, .string (St8 s)] 46)).heap.size = w.heap.size + 2 := by rw [World.size_alloc, World.size_alloc]
        generalize hW : ((w.alloc (.cells #[.bool false, .bool false, .bool false] 37)).alloc (.cells #[.int .u8 op, .int .i64 col, .int .i64 kids, .int .u8 k, .int .i64 nn, .string (St8 s)] 46)) = W at *
        have HW := Lib.hid hW
        have Hbl := Lib.hid hbl
        have Hrs := Lib.hid hrs
        have Hb0 := Lib.hid hb0
        clear hbl hb0 hrs hcz hE hfi hfine hs1 hlk hg hdr hil ih hsx hlx hkn hdl h hW
        go_enter Tryd.func42, Tryd.ntmps42
        go_wp2_with fail
        rw [HW.out]
        refine (has.out _).mono ?_
        rintro e w1 ⟨rfl, hb1⟩
        have hz1 := hb1.size
        rw [hw0] at hz1
        have hLp : LpAt w (w1.alloc (.cells #[.bool false, .bool false, .bool true] 37)) 46 [.int .u8 op, .int .i64 col, .int .i64 kids, .int .u8 k, .int .i64 nn, .string (St8 s)] w1.heap.size ⟨false, false, true⟩ :=
          ⟨(Hrs.out.below hb1).alloc _, (Hbl.out.below hb1).alloc _, T3At.new w1 37 ⟨false, false, true⟩, by omega, (Hb0.out.trans (hb1.mono Hb0.out.size)).alloc (Hb0.out.trans (hb1.mono Hb0.out.size)).size _⟩
        have HLp := Lib.hid hLp
        have d0 := hLp.nd.cell 0
        have d1 := hLp.nd.cell 1
        have d2 := hLp.nd.cell 2
        have d3 := hLp.nd.cell 3
        have d4 := hLp.nd.cell 4
        have d5 := hLp.nd.cell 5
        simp only [List.getElem?_cons_zero, List.getElem?_cons_succ] at d0 d1 d2 d3 d4 d5
        clear hb1 hLp c0 c1 c2 c3 c4 c5 hcl
        generalize hG : w1.heap.size = G at *
        go_wp2_with fail
        refine (hki.out _).mono ?_
        rintro e w2 ⟨rfl, hb2⟩
        have HLp2 := Lib.hid (HLp.out.keep hb2)
        clear hb2 d0 d1 d2 d3 d4 d5 HLp
        go_wp2_with fail
        go_loopw [0, 31] (fun v0 v31 wr => ∃ (j p : Nat) (a : Bool × T3), v0 = .int .i64 (p : Int) ∧ v31 = .int .i64 (j : Int) ∧ j ≤ K ∧ p ≤ n ∧ Hid (a.1 = decide (j = 0)) ∧ Hid (evsT (evT z f) op (K - j) a (l.drop p) = some (x, t')) ∧ Hid (LpAt w wr 46 [.int .u8 op, .int .i64 col, .int .i64 kids, .int .u8 k, .int .i64 nn, .string (St8 s)] G a.2)) (fun _ v31 _ => K - (intOf v31).toNat)
        case atStart => exact ⟨0, i + 1, firstZ op, by go_num, rfl, by omega, by omega, rfl, by rw [Nat.sub_zero]; exact Hev.out, HLp2⟩
        case round =>
          clear Hev HLp2
          obtain ⟨j, p, a, rfl, rfl, hj, hp, Ha, Hev, HL⟩ := hrel
          have HE2 := Lib.hid (HE.out.below HL.out.below)
          have d0 := HL.out.nd.cell 0
          simp only [List.getElem?_cons_zero] at d0
          by_cases hjk : j < K
          · have hev := Hev.out
            rw [show K - j = (K - (j + 1)) + 1 from by omega, evsT] at hev
            cases hy : evT z f (l.drop p) with
            | none => rw [hy] at hev; cases hev
            | some q =>
              obtain ⟨y, t1⟩ := q
              rw [hy] at hev
              dsimp only at hev
              obtain ⟨pre, hpre⟩ := evT_suffix z f _ _ _ hy
              obtain ⟨hs1, hs2, hs3⟩ := drop_suffix Hl.out hp hpre
              have hcall := Lib.hid (Hih.out p y t1 wr HE2.out hp hy)
              rw [← hs1] at hev
              have Hev2 := Lib.hid hev
              have hcp := HE2.out.cp
              obtain ⟨p1, hp1⟩ : ∃ q, q = n - t1.length := ⟨_, rfl⟩
              rw [← hp1] at hcall Hev2 hs2
              have hjI : (j : Int) < (K : Int) := by omega
              clear hev hy hpre Hev hs1 hp1
              go_wp2_with fail
              refine hcall.out.mono ?_
              rintro e w3 ⟨rfl, hb3⟩
              have HL3 := Lib.hid ((HL.out.keep hb3).keep ((Below.refl w3.heap.size w3).alloc (Nat.le_refl _) (.cells #[.bool y.no, .bool y.un, .bool y.ye] 37)))
              have HX := Lib.hid (T3At.new w3 37 y)
              obtain ⟨x0, x1, x2⟩ := HX.out.cells
              obtain ⟨o0, o1, o2⟩ := HL3.out.o.cells
              have oF := fun i => HL3.out.o.frozen i
              have e0 := HL3.out.nd.cell 0
              simp only [List.getElem?_cons_zero] at e0
              rw [T3.agg_eq]
              clear hb3 d0 hcp hcall
              by_cases h4' : op = 4
              · have HJ : Hid (joinZ op a y = (false, y.rev)) := by show _ = _; unfold joinZ; rw [if_pos h4']
                rw [HJ.out] at Hev2
                have k4 : (op == 4) = true := by rw [beq_iff_eq]; exact h4'
                have HP := Lib.hid (HL3.out.put y.rev)
                clear h4 h4' hfop hK0
                go_wp2_with fail
                go_roundw
                case rel => exact ⟨j + 1, p1, (false, y.rev), rfl, by go_num, by omega, by omega, (by show false = decide _; rw [decide_eq_false (by omega)]), Hev2, HP⟩
                case measure => simp [intOf]; omega
              · have k4 : (op == 4) = false := by rw [beq_eq_false_iff_ne]; exact h4'
                by_cases hj0 : j = 0
                · subst hj0
                  have HJ : Hid (joinZ op a y = (false, y)) := by show _ = _; unfold joinZ; rw [if_neg h4', if_pos (by rw [Ha.out]; rfl)]
                  rw [HJ.out] at Hev2
                  have HP := Lib.hid (HL3.out.put y)
                  clear h4 h4' hfop hK0
                  go_wp2_with fail
                  go_roundw
                  case rel => exact ⟨0 + 1, p1, (false, y), rfl, by go_num, by omega, by omega, (by show false = decide _; rw [decide_eq_false (by omega)]), Hev2, HP⟩
                  case measure => simp [intOf]; omega
                · have hjz : ((j : Int) == 0) = false := by rw [beq_eq_false_iff_ne]; omega
                  have hjn0 : ¬ (j : Int) = 0 := by omega
                  have hae : a.1 = false := by rw [Ha.out, decide_eq_false hj0]
                  have h23 : op = 2 ∨ op = 3 := by
                    rcases h4 with e | e | e | e
                    · exact absurd (hK0 e) (by omega)
                    · exact absurd e h4'
                    · exact .inl e
                    · exact .inr e
                  rcases h23 with e2 | e2
                  · have HJ : Hid (joinZ op a y = (false, bothZ false a.2 y)) := by show _ = _; unfold joinZ; rw [if_neg h4', if_neg (by rw [hae]; decide), decide_eq_false (show ¬ op = 3 by omega)]
                    rw [HJ.out] at Hev2
                    have k2 : (op == 2) = true := by rw [e2]; rfl
                    have hbo := Lib.hid (fun w' => zboth_and a.2 y w')
                    generalize bothZ false a.2 y = B at *
                    rw [T3.agg_eq] at hbo
                    rw [T3.agg_eq] at hbo
                    clear h4 h4' hfop hK0 hj0 e2
                    go_wp2_with fail
                    refine (hbo.out _).mono ?_
                    rintro e w5 ⟨rfl, hb5⟩
                    have HL5 := Lib.hid (HL3.out.keep hb5)
                    obtain ⟨r0, r1, r2⟩ := HL5.out.o.cells
                    have rF := fun i => HL5.out.o.frozen i
                    have HP := Lib.hid (HL5.out.put B)
                    rw [T3.agg_eq]
                    clear hb5 o0 o1 o2 oF x0 x1 x2 e0
                    go_wp2_with fail
                    go_roundw
                    case rel => exact ⟨j + 1, p1, (false, B), rfl, by go_num, by omega, by omega, (by show false = decide _; rw [decide_eq_false (by omega)]), Hev2, HP⟩
                    case measure => simp [intOf]; omega
                  · have HJ : Hid (joinZ op a y = (false, bothZ true a.2 y)) := by show _ = _; unfold joinZ; rw [if_neg h4', if_neg (by rw [hae]; decide), decide_eq_true e2]
                    rw [HJ.out] at Hev2
                    have k2 : (op == 2) = false := by rw [e2]; rfl
                    have hbo := Lib.hid (fun w' => zboth_or a.2 y w')
                    generalize bothZ true a.2 y = B at *
                    rw [T3.agg_eq] at hbo
                    rw [T3.agg_eq] at hbo
                    clear h4 h4' hfop hK0 hj0 e2
                    go_wp2_with fail
                    refine (hbo.out _).mono ?_
                    rintro e w5 ⟨rfl, hb5⟩
                    have HL5 := Lib.hid (HL3.out.keep hb5)
                    obtain ⟨r0, r1, r2⟩ := HL5.out.o.cells
                    have rF := fun i => HL5.out.o.frozen i
                    have HP := Lib.hid (HL5.out.put B)
                    rw [T3.agg_eq]
                    clear hb5 o0 o1 o2 oF x0 x1 x2 e0
                    go_wp2_with fail
                    go_roundw
                    case rel => exact ⟨j + 1, p1, (false, B), rfl, by go_num, by omega, by omega, (by show false = decide _; rw [decide_eq_false (by omega)]), Hev2, HP⟩
                    case measure => simp [intOf]; omega
          · obtain rfl : j = K := by omega
            have hev := Hev.out
            rw [Nat.sub_self, evsT] at hev
            injection hev with hev
            injection hev with e1 e2
            have hlen : n - t'.length = p := by rw [← e2, List.length_drop, Hl.out]; omega
            have Hlen := Lib.hid hlen
            subst e1
            have hO := HL.out.o
            have hR := HL.out.r
            obtain ⟨o0, o1, o2⟩ := hO.cells
            obtain ⟨r0, r1, r2⟩ := hR.cells
            have rF := fun i => hR.frozen i
            have HS := Lib.hid (hR.three a.2)
            have HEn := Lib.hid (below_three HL.out.below (Nat.le_refl w.heap.size) (.bool a.2.no) (.bool a.2.un) (.bool a.2.ye))
            clear hlen Hev e2 hO hR
            go_wp2_with fail
            (try simp only [Exit.inBlock, Exit.then])
            refine bodyPost_ret (results_cell_row_tmp rfl _ _ w.heap.size 37 #[.bool a.2.no, .bool a.2.un, .bool a.2.ye] (0, 0) _ rfl HS.out Tryd.underlying37 rfl (by kernel_rfl)) rfl ?_
            rw [Hlen.out]
            exact ⟨rfl, HEn.out⟩
    · rw [List.drop_eq_nil_of_le (by rw [hl]; omega), evT] at h
      cases h
end Go.Proofs.YtipnglidepfkbaaDoor
