/- Walks: what comes of a row, as the reference finds it: from the last node to the first. -/
import Derived.Test.YtipnglidepfkbaaDoorMGrW
namespace Go.Proofs.YtipnglidepfkbaaDoor
set_option linter.unusedVariables false
set_option linter.unusedSimpArgs false
open Go.RowKit

attribute [local go_sem ↓] Go.wp_at_zero Go.wp_at_succ

theorem Eu8s : ElemT Tryd.prog 22 5 1 1 (.int .u8 0) := ElemT.mk' (by kernel_rfl) (by kernel_rfl) rfl (by omega)
def ucells (l : List Int) : List Value := l.map (Value.int .u8)
theorem ucells_len (l : List Int) : (ucells l).length = l.length := List.length_map _
theorem ucells_top {w : World} {base : Nat} {e : TypeId} {A : Option Addr} {d c : Nat} {x : Int} {st : List Int} (h : Own w base e 1 A (d + 1) c (ucells (x :: st).reverse)) (hl : st.length = d) :
    ∃ b o, A = some ⟨b, o, none⟩ ∧ w.cell? ⟨b, o + d, none⟩ = some (.int .u8 x) ∧ Own w base e 1 A d c (ucells st.reverse) ∧ d + 1 ≤ c ∧ c ≤ maxLen := by
  have hlen : d < (ucells (x :: st).reverse).length := by rw [ucells_len, List.length_reverse, List.length_cons]; omega
  obtain ⟨b, o, rfl, _, _, hc⟩ := h.rd.get hlen
  have hx : (ucells (x :: st).reverse)[d] = .int .u8 x := by
    apply Option.some.inj
    rw [← List.getElem?_eq_getElem hlen]
    unfold ucells
    rw [List.getElem?_map, List.reverse_cons, List.getElem?_append_right (by rw [List.length_reverse]; omega), List.length_reverse, hl, Nat.sub_self]
    rfl
  rw [hx] at hc
  have h2 := h.shrink (Nat.le_succ d) (by simp)
  have ht : (ucells (x :: st).reverse).take d = ucells st.reverse := by
    unfold ucells
    rw [List.reverse_cons, List.map_append, List.take_left' (by rw [List.length_map, List.length_reverse, hl])]
  rw [ht] at h2
  exact ⟨b, o, rfl, hc, h2, h.cap⟩
theorem ucells_push (x : Int) (st : List Int) : ucells st.reverse ++ [.int .u8 x] = ucells (x :: st).reverse := by
  unfold ucells
  rw [List.reverse_cons, List.map_append]
  rfl

theorem pops_len (op : Int) : ∀ (k : Nat) (a : Int) (st : List Int) (x : Int) (st' : List Int), pops op k a st = some (x, st') → st'.length ≤ st.length
  | 0, a, st, x, st', h => by rw [pops] at h; cases h; exact Nat.le_refl _
  | k + 1, a, [], x, st', h => by rw [pops] at h; cases h
  | k + 1, a, y :: st, x, st', h => by
    rw [pops] at h
    have := pops_len op k _ st x st' h
    rw [List.length_cons]
    omega
theorem fo_len (r : RowM) : ∀ (l : List Nd) (st : List Int), fo r l = some st → st.length ≤ l.length
  | [], st, h => by rw [fo] at h; cases h; exact Nat.le_refl _
  | n :: t, st, h => by
    rw [fo] at h
    obtain ⟨s0, h0, h⟩ := Option.bind_eq_some_iff.1 h
    have h1 := fo_len r t s0 h0
    rw [List.length_cons]
    split at h
    · cases h
      rw [List.length_cons]
      omega
    · obtain ⟨p, hp, rfl⟩ := Option.map_eq_some_iff.1 h
      have := pops_len _ _ _ _ p.1 p.2 hp
      rw [List.length_cons]
      omega
theorem pops_bounds (op : Int) : ∀ (k : Nat) (a : Int) (st : List Int) (x : Int) (st' : List Int), 0 ≤ a ∧ a ≤ 2 → (∀ y ∈ st, 0 ≤ y ∧ y ≤ 2) → pops op k a st = some (x, st') → (0 ≤ x ∧ x ≤ 2) ∧ ∀ y ∈ st', 0 ≤ y ∧ y ≤ 2
  | 0, a, st, x, st', ha, hs, h => by rw [pops] at h; cases h; exact ⟨ha, hs⟩
  | k + 1, a, [], x, st', ha, hs, h => by rw [pops] at h; cases h
  | k + 1, a, y :: st, x, st', ha, hs, h => by
    rw [pops] at h
    exact pops_bounds op k _ st x st' (joinT_bounds ha (hs y (List.mem_cons_self ..))) (fun z hz => hs z (List.mem_cons_of_mem _ hz)) h
theorem fo_bounds (r : RowM) : ∀ (l : List Nd) (st : List Int), fo r l = some st → ∀ y ∈ st, 0 ≤ y ∧ y ≤ 2
  | [], st, h => by rw [fo] at h; cases h; simp
  | n :: t, st, h => by
    rw [fo] at h
    obtain ⟨s0, h0, h⟩ := Option.bind_eq_some_iff.1 h
    have h1 := fo_bounds r t s0 h0
    split at h
    · cases h
      intro y hy
      rcases List.mem_cons.1 hy with rfl | hy
      · exact leafM_bounds _ _
      · exact h1 y hy
    · obtain ⟨p, hp, rfl⟩ := Option.map_eq_some_iff.1 h
      obtain ⟨b1, b2⟩ := pops_bounds _ _ _ _ p.1 p.2 (firstT_bounds _) h1 hp
      intro y hy
      rcases List.mem_cons.1 hy with rfl | hy
      · exact b1
      · exact b2 y hy

set_option maxHeartbeats 16000000 in
set_option maxRecDepth 100000 in
theorem reval_c (kinds : List Int) (l : List Nd) (r : RowM) (L X : Option Addr) (n c rn rc : Nat) (w : World) (hl : l.length = n) (hr : r.length = rn) (hk : r.length = kinds.length) (hri : rightN kinds l = true) (hL : Rd w L (ncells l)) (hX : Rd w X (rcells r)) (hn : n ≤ 1000) (hrn : rn ≤ 1000000) (hs1 : ∀ x ∈ l, x.v.s.length ≤ 1000000) (hs2 : ∀ x ∈ r, x.s.length ≤ 1000000) (hT : Lib.Utf8Tabs 0 1 w) :
    Calls Tryd.prog 12 #[.slice L n c, .slice X rn rc] w fun e w' => e = .returned (.int .u8 (evalM l r)) ∧ Below w.heap.size w w' := by
  have hfo := right_fo hk hri
  generalize evalM l r = V at *
  have hmay : ∀ x ∈ l, mayN kinds x = true := by
    unfold rightN at hri
    exact List.all_eq_true.1 (Bool.and_eq_true_iff.1 (Bool.and_eq_true_iff.1 hri).1).2
  have hkr : kinds.length = rn := by rw [← hk, hr]
  have HL := Lib.hid hL
  have HX := Lib.hid hX
  have Hl := Lib.hid hl
  have Hr := Lib.hid hr
  have Hmay := Lib.hid hmay
  have Hfo := Lib.hid hfo
  have Hle := Lib.hid (fun x (hx : x ∈ l) v (hv : v ∈ r) w' (hb : Below w.heap.size w w') => rleaf_c x v w' (hs1 x hx) (hs2 v hv) (Utf8Tabs_below hT hb))
  have hwn : IntKind.i64.wrap ((n : Int) - 1) = (n : Int) - 1 := by rw [IntKind.wrap_i64]; omega
  clear hL hX hl hr hmay hfo hs1 hs2 hT hri hk
  go_enter Tryd.func12, Tryd.ntmps12
  go_wp2_with fail
  go_loopw [5, 6] (fun vs vi wr => ∃ (i : Int) (m k c : Nat) (A : Option Addr) (st : List Int), vs = .slice A k c ∧ vi = .int .i64 i ∧ i = (m : Int) - 1 ∧ m ≤ n ∧ Hid (st.length = k) ∧ Hid (fo r (l.drop m) = some st) ∧ Hid (Own wr w.heap.size 5 1 A k c (ucells st.reverse)) ∧ Hid (Below w.heap.size w wr)) (fun _ vi _ => (intOf vi + 1).toNat)
  case atStart => exact ⟨(n : Int) - 1, n, 0, 0, none, [], rfl, rfl, rfl, by omega, rfl, (by show _ = _; rw [List.drop_eq_nil_of_le (by rw [Hl.out]; omega)]; rfl), Own.nil _ _ _ _, Below.refl _ _⟩
  case round =>
    obtain ⟨i, m, kk, cc, A, st, rfl, rfl, him, hm, Hst, Hf, Ho, Hb⟩ := hrel
    clear hwn
    by_cases hi : i = -1
    · have hneg : ¬ (0 : Int) ≤ i := by omega
      obtain rfl : m = 0 := by omega
      clear hi him
      have hst1 : st = [V] := by
        have := Hf.out
        rw [List.drop_zero, Hfo.out] at this
        exact (Option.some.inj this).symm
      subst hst1
      obtain rfl : kk = 1 := by have := Hst.out; simpa using this.symm
      obtain ⟨b, o, rfl, hc, _, _, _⟩ := ucells_top (d := 0) Ho.out rfl
      rw [Nat.add_zero] at hc
      have hbb := Hb.out
      clear Ho Hf Hfo Hle
      go_wp2_with fail
      go_ret
      exact ⟨rfl, hbb⟩
    · obtain ⟨j, rfl⟩ : ∃ j, m = j + 1 := ⟨m - 1, by omega⟩
      obtain rfl : i = (j : Int) := by omega
      have hjn : j < n := by omega
      have hjI0 : (0 : Int) ≤ (j : Int) := by omega
      have hjI1 : (j : Int) < (n : Int) := by omega
      have hwj : IntKind.i64.wrap ((j : Int) - 1) = (j : Int) - 1 := by rw [IntKind.wrap_i64]; omega
      clear him hi
      have hjl : j < l.length := by rw [Hl.out]; exact hjn
      have hg := List.getElem?_eq_getElem hjl
      have hkk : kk ≤ 1000 := by
        have h1 := fo_len r _ _ Hf.out
        rw [List.length_drop, Hl.out, Hst.out] at h1
        omega
      have hbd := fo_bounds r _ _ Hf.out
      have hfs := fo_drop r l j (by rw [Hfo.out]; rfl)
      rw [List.drop_eq_getElem_cons hjl, fo, Hf.out, Option.bind_some] at hfs
      have hfj : Hid (fo r (l.drop j) = if l[j].asks then some (leafM l[j] (colAt r l[j].col) :: st) else (pops l[j].op l[j].parts.toNat (firstT l[j].op) st).map fun p => p.1 :: p.2) := by
        show _ = _
        rw [List.drop_eq_getElem_cons hjl, fo, Hf.out, Option.bind_some]
      obtain ⟨b, o, rfl, c0, c1, c2, c3, c4, c5⟩ := node_cells (HL.out.below Hb.out) hg
      have hmx := Hmay.out l[j] (List.getElem_mem hjl)
      have hop := may_op hmx
      have hpx := may_parts hmx
      have hcx := Lib.hid (may_col hmx)
      have hki := fun w' => rkids_c l[j] w'
      rw [may_kids hmx] at hki
      have Hki := Lib.hid hki
      have hco := Lib.hid (fun w' => column_c l[j].op w')
      have has : Hid (l[j].asks = decide (5 ≤ l[j].op ∧ l[j].op ≤ 8)) := rfl
      have hlx := Lib.hid (Hle.out l[j] (List.getElem_mem hjl))
      generalize wr = wo at *
      generalize l[j] = x at *
      clear hmx hki hg hjl Hf
      have hzo := Hb.out.size
      obtain ⟨op, col, kids, k, nn, s⟩ := x
      unfold Nd.agg at Hki hlx
      dsimp only at c0 c1 c2 c3 c4 c5 hop hcx hco has hlx hfj hfs
      have hbl := Blk.new wo 46 #[.int .u8 op, .int .i64 col, .int .i64 kids, .int .u8 k, .int .i64 nn, .string (St8 s)]
      have hb0 : Below wo.heap.size wo (wo.alloc (.cells #[.int .u8 op, .int .i64 col, .int .i64 kids, .int .u8 k, .int .i64 nn, .string (St8 s)] 46)) := (Below.refl _ _).alloc (Nat.le_refl _) _
      have Hc : Hid (∀ w', Below (wo.alloc (.cells #[.int .u8 op, .int .i64 col, .int .i64 kids, .int .u8 k, .int .i64 nn, .string (St8 s)] 46)).heap.size (wo.alloc (.cells #[.int .u8 op, .int .i64 col, .int .i64 kids, .int .u8 k, .int .i64 nn, .string (St8 s)] 46)) w' → (w'.cell? ⟨wo.heap.size, 0, none⟩ = some (.int .u8 op) ∧ w'.cell? ⟨wo.heap.size, 1, none⟩ = some (.int .i64 col) ∧ w'.cell? ⟨wo.heap.size, 2, none⟩ = some (.int .i64 kids) ∧ w'.cell? ⟨wo.heap.size, 3, none⟩ = some (.int .u8 k) ∧ w'.cell? ⟨wo.heap.size, 4, none⟩ = some (.int .i64 nn) ∧ w'.cell? ⟨wo.heap.size, 5, none⟩ = some (.string (St8 s))) ∧ Hid (Below w.heap.size w w') ∧ Hid (Below wo.heap.size wo w')) := fun w' hb => ⟨⟨(hbl.below hb).cell 0, (hbl.below hb).cell 1, (hbl.below hb).cell 2, (hbl.below hb).cell 3, (hbl.below hb).cell 4, (hbl.below hb).cell 5⟩, Hb.out.trans ((hb0.trans (hb.mono hb0.size)).mono hzo), hb0.trans (hb.mono hb0.size)⟩
      have Hbr : Hid (Below (wo.alloc (.cells #[.int .u8 op, .int .i64 col, .int .i64 kids, .int .u8 k, .int .i64 nn, .string (St8 s)] 46)).heap.size (wo.alloc (.cells #[.int .u8 op, .int .i64 col, .int .i64 kids, .int .u8 k, .int .i64 nn, .string (St8 s)] 46)) (wo.alloc (.cells #[.int .u8 op, .int .i64 col, .int .i64 kids, .int .u8 k, .int .i64 nn, .string (St8 s)] 46))) := Below.refl _ _
      have Hbd : Hid (Below (wo.alloc (.cells #[.int .u8 op, .int .i64 col, .int .i64 kids, .int .u8 k, .int .i64 nn, .string (St8 s)] 46)).heap.size (wo.alloc (.cells #[.int .u8 op, .int .i64 col, .int .i64 kids, .int .u8 k, .int .i64 nn, .string (St8 s)] 46)) (wo.alloc (.cells #[.int .u8 op, .int .i64 col, .int .i64 kids, .int .u8 k, .int .i64 nn, .string (St8 s)] 46)).drew) := (Below.refl _ _).drew
      clear hbl hb0
      by_cases ha : 5 ≤ op
      · have hasT := has.out
        rw [decide_eq_true ⟨ha, hop.2⟩] at hasT
        have hco2 := fun w' => hco.out w'
        rw [decide_eq_true ⟨ha, hop.2⟩] at hco2
        rw [hasT, if_pos rfl] at hfj
        have e3 : (op == 3) = false := by rw [beq_eq_false_iff_ne]; omega
        have hp0 := asks_parts hasT
        rw [hp0] at Hki
        obtain ⟨hc0, hc1⟩ := hcx.out hasT
        obtain ⟨cj, rfl⟩ := Int.eq_ofNat_of_zero_le hc0
        have hcr1 : cj < r.length := by rw [Hr.out, ← hkr]; omega
        have hcjI : (cj : Int) < (rn : Int) := by rw [← hkr]; omega
        rw [colAt_get hcr1] at hfj
        have hlf := hlx.out r[cj] (List.getElem_mem hcr1)
        obtain ⟨b2, o2, rfl, v0, v1, v2⟩ := row_cells (HX.out.below Hb.out) hcr1
        have hlb := leafM_bounds ⟨op, (cj : Int), kids, ⟨k, nn, s⟩⟩ r[cj]
        generalize leafM ⟨op, (cj : Int), kids, ⟨k, nn, s⟩⟩ r[cj] = R at *
        generalize r[cj] = v at *
        obtain ⟨k', n', s'⟩ := v
        unfold Va.agg at hlf
        dsimp only at v0 v1 v2 hlf
        have Hlf := Lib.hid hlf
        have Hco2 := Lib.hid hco2
        have Hcc : Hid (∀ w', Below (wo.alloc (.cells #[.int .u8 op, .int .i64 (cj : Int), .int .i64 kids, .int .u8 k, .int .i64 nn, .string (St8 s)] 46)).heap.size (wo.alloc (.cells #[.int .u8 op, .int .i64 (cj : Int), .int .i64 kids, .int .u8 k, .int .i64 nn, .string (St8 s)] 46)) w' → (w'.cell? ⟨wo.heap.size, 0, none⟩ = some (.int .u8 op) ∧ w'.cell? ⟨wo.heap.size, 1, none⟩ = some (.int .i64 (cj : Int)) ∧ w'.cell? ⟨wo.heap.size, 2, none⟩ = some (.int .i64 kids) ∧ w'.cell? ⟨wo.heap.size, 3, none⟩ = some (.int .u8 k) ∧ w'.cell? ⟨wo.heap.size, 4, none⟩ = some (.int .i64 nn) ∧ w'.cell? ⟨wo.heap.size, 5, none⟩ = some (.string (St8 s)) ∧ w'.cell? ⟨b2, o2 + cj * 3, none⟩ = some (.int .u8 k') ∧ w'.cell? ⟨b2, o2 + cj * 3 + 1, none⟩ = some (.int .i64 n') ∧ w'.cell? ⟨b2, o2 + cj * 3 + 2, none⟩ = some (.string (St8 s')))) := fun w' hb => by
          obtain ⟨⟨g0, g1, g2, g3, g4, g5⟩, _, gb⟩ := Hc.out w' hb
          exact ⟨g0, g1, g2, g3, g4, g5, cell_keep gb.out v0, cell_keep gb.out v1, cell_keep gb.out v2⟩
        have hx2 := Hcc.out _ Hbd.out
        clear hlf hco2 hco has hasT hp0 hcx hlx hfs v0 v1 v2 hcr1 Hle hc0 hc1 ha hpx
        go_wp2_with fail
        refine (Hco2.out _).mono ?_
        rintro e w1 ⟨rfl, rfl⟩
        go_wp2_with fail
        go_region_held3 (fun w' => w'.cell? ⟨wo.heap.size, 0, none⟩ = some (.int .u8 op) ∧ w'.cell? ⟨wo.heap.size, 1, none⟩ = some (.int .i64 (cj : Int)) ∧ w'.cell? ⟨wo.heap.size, 2, none⟩ = some (.int .i64 kids) ∧ w'.cell? ⟨wo.heap.size, 3, none⟩ = some (.int .u8 k) ∧ w'.cell? ⟨wo.heap.size, 4, none⟩ = some (.int .i64 nn) ∧ w'.cell? ⟨wo.heap.size, 5, none⟩ = some (.string (St8 s)) ∧ w'.cell? ⟨b2, o2 + cj * 3, none⟩ = some (.int .u8 k') ∧ w'.cell? ⟨b2, o2 + cj * 3 + 1, none⟩ = some (.int .i64 n') ∧ w'.cell? ⟨b2, o2 + cj * 3 + 2, none⟩ = some (.string (St8 s')))
          (first | exact hx3 | exact hx2)
          (first | (go_at_call 36; refine (Hlf.out _ (Hc.out _ Hbd.out).2.1.out).mono ?_; rintro e w2 ⟨rfl, hb2⟩; have Hb2 := Lib.hid (Hbd.out.trans (hb2.mono Hbd.out.size)); have hx3 := (Hcc.out w2 Hb2.out)))
        obtain ⟨d0, d1, d2, d3, d4, d5, _, _, _⟩ := hx3
        clear hx2 hb2
        go_wp2_with fail
        go_loopw [5, 8, 9] (fun v5 v8 v9 wr => v5 = .slice A kk cc ∧ v8 = .int .u8 R ∧ v9 = .int .i64 0 ∧ Hid (Below (wo.alloc (.cells #[.int .u8 op, .int .i64 (cj : Int), .int .i64 kids, .int .u8 k, .int .i64 nn, .string (St8 s)] 46)).heap.size (wo.alloc (.cells #[.int .u8 op, .int .i64 (cj : Int), .int .i64 kids, .int .u8 k, .int .i64 nn, .string (St8 s)] 46)) wr)) (fun _ _ _ _ => 0)
        case atStart => exact ⟨rfl, rfl, rfl, Hb2⟩
        case round =>
          obtain ⟨rfl, rfl, rfl, Hbq⟩ := hrel
          obtain ⟨⟨d0, d1, d2, d3, d4, d5⟩, _, _⟩ := Hc.out wr Hbq.out
          go_wp2_with fail
          refine (Hki.out _).mono ?_
          rintro e w5 ⟨rfl, hb5⟩
          have Hb5 := Lib.hid (Hbq.out.trans (hb5.mono Hbq.out.size))
          have Ho5 := Lib.hid (Ho.out.below (Hc.out w5 Hb5.out).2.2.out)
          have Hbw := (Hc.out w5 Hb5.out).2.1
          clear hb5 d0 d1 d2 d3 d4 d5
          have hbP := (Below.refl w5.heap.size w5).alloc (Nat.le_refl _) (.cells #[.int .u8 R] 5)
          have hnewP := (Blk.new w5 5 #[.int .u8 R]).range
          have hoP := Own.below Ho5.out hbP
          have hbP2 := (Hbw.out).trans (hbP.mono (Hbw.out).size)
          have hzP := hbP2.size
          have hlenP : (ucells st.reverse).length = kk := by rw [ucells_len, List.length_reverse]; exact Hst.out
          clear hbP
          go_wp2_with (first | (at_builtin; refine hold ?_) | (at_make; refine hold ?_))
          (with_reducible refine unhold ?_)
          refine wpList_apd rfl _ _ _ rfl Eu8s w.heap.size _ (kk) _ (ucells st.reverse) rfl hoP _ 1 _ [.int .u8 R] rfl rfl (fun _ => ⟨_, _, rfl, hnewP⟩) (by simp [Value.oneCell']) (kk + 1) rfl _ rfl (by omega) (by omega) hzP ?_
          intro A9 c9 w9 ho9 hg9 _
          have Hb9 := Lib.hid (hbP2.grown hg9 hbP2.size hoP.row_ge)
          rw [ucells_push] at ho9
          have Ho9 := Lib.hid ho9
          clear ho9 hg9 hbP2 hoP hnewP
          go_wp2_with fail
          go_roundw
          case rel => exact ⟨(j : Int) - 1, j, kk + 1, c9, A9, R :: st, rfl, rfl, rfl, by omega, (by show _ = _; rw [List.length_cons]; exact congrArg (· + 1) Hst.out), hfj, Ho9, Hb9⟩
          case measure => first | (simp [intOf]; done) | (simp [intOf]; omega)
      · have hasF := has.out
        rw [decide_eq_false (by omega)] at hasF
        have hco2 := fun w' => hco.out w'
        rw [decide_eq_false (by omega)] at hco2
        rw [hasF, if_neg (by decide)] at hfj hfs
        obtain ⟨P, hP⟩ := Int.eq_ofNat_of_zero_le hpx.1
        have hPle : (P : Int) ≤ 40 := by rw [← hP]; exact hpx.2
        rw [hP] at Hki
        rw [hP, Int.toNat_natCast] at hfj hfs
        obtain ⟨⟨Y, stF⟩, hpop⟩ : ∃ p, pops op P (firstT op) st = some p := by
          cases hpp : pops op P (firstT op) st with
          | none => rw [hpp] at hfs; cases hfs
          | some p => exact ⟨p, rfl⟩
        rw [hpop] at hfj
        have Hfj : Hid (fo r (l.drop j) = some (Y :: stF)) := hfj.out
        have hsz := pops_len _ _ _ _ _ _ hpop
        rw [Hst.out] at hsz
        have Hpop := Lib.hid hpop
        have Hbs := Lib.hid hbd
        have Hco2 := Lib.hid hco2
        have hpar : 0 < P → op = 2 ∨ op = 3 ∨ op = 4 := fun h => by
          unfold Nd.parts at hP
          dsimp only at hP
          by_cases h23 : op = 2 ∨ op = 3
          · omega
          · rw [if_neg h23] at hP
            by_cases h4 : op = 4
            · omega
            · rw [if_neg h4] at hP; omega
        have Hpar := Lib.hid hpar
        obtain ⟨F, hF⟩ : ∃ F, firstT op = F := ⟨_, rfl⟩
        rw [hF] at Hpop
        clear hco2 hco has hasF hfj hfs hpop hpx hcx hlx Hle hP hpar
        by_cases h3 : op = 3
        · have e3 : (op == 3) = true := by rw [h3]; rfl
          obtain rfl : F = 0 := by rw [← hF, h3]; rfl
          have H3 := Lib.hid h3
          clear hF h3
          go_wp2_with fail
          refine (Hco2.out _).mono ?_
          rintro e w1 ⟨rfl, rfl⟩
          go_wp2_with fail
          go_loopw [5, 8, 9] (fun v5 v8 v9 wr => ∃ (q k5 cq5 : Nat) (A5 : Option Addr) (out : Int) (st5 : List Int), v5 = .slice A5 k5 cq5 ∧ v8 = .int .u8 out ∧ v9 = .int .i64 (q : Int) ∧ q ≤ P ∧ k5 ≤ 1000 ∧ Hid (st5.length = k5) ∧ Hid (∀ y ∈ st5, 0 ≤ y ∧ y ≤ 2) ∧ Hid (pops op (P - q) out st5 = some (Y, stF)) ∧ Hid (Own wr w.heap.size 5 1 A5 k5 cq5 (ucells st5.reverse)) ∧ Hid (Below (wo.alloc (.cells #[.int .u8 op, .int .i64 col, .int .i64 kids, .int .u8 k, .int .i64 nn, .string (St8 s)] 46)).heap.size (wo.alloc (.cells #[.int .u8 op, .int .i64 col, .int .i64 kids, .int .u8 k, .int .i64 nn, .string (St8 s)] 46)) wr)) (fun _ _ v9 _ => P - (intOf v9).toNat)
          case atStart => exact ⟨0, kk, cc, A, _, st, rfl, rfl, rfl, by omega, hkk, Hst, Hbs, Hpop, Ho.out.below (Hc.out _ Hbr.out).2.2.out, Hbr⟩
          case round =>
            obtain ⟨q, k5, cq5, A5, out, st5, rfl, rfl, rfl, hqP, hk5, Hl5, Hbs5, Hp5, Ho5, Hbq⟩ := hrel
            obtain ⟨⟨d0, d1, d2, d3, d4, d5⟩, _, _⟩ := Hc.out wr Hbq.out
            clear Ho Hst Hbs Hpop
            by_cases hq : q < P
            · have hqI : (q : Int) < (P : Int) := by omega
              obtain ⟨x5, st6, rfl⟩ : ∃ x5 st6, st5 = x5 :: st6 := by
                cases st5 with
                | nil =>
                  have := Hp5.out
                  rw [show P - q = (P - q - 1) + 1 from by omega, pops] at this
                  cases this
                | cons a t => exact ⟨a, t, rfl⟩
              obtain ⟨d, rfl⟩ : ∃ d, k5 = d + 1 := ⟨k5 - 1, by have := Hl5.out; simp at this; omega⟩
              have hl6 : st6.length = d := by have := Hl5.out; simpa using this
              have hp6 := Hp5.out
              rw [show P - q = (P - (q + 1)) + 1 from by omega, pops] at hp6
              have Hp6 := Lib.hid hp6
              have hx5 := Hbs5.out x5 (List.mem_cons_self ..)
              have Hbs6 : Hid (∀ y ∈ st6, 0 ≤ y ∧ y ≤ 2) := fun y hy => Hbs5.out y (List.mem_cons_of_mem _ hy)
              obtain ⟨b5, o5, rfl, _, _, hdc, hcm5⟩ := ucells_top Ho5.out hl6
              have Hl6 := Lib.hid hl6
              have hwd : IntKind.i64.wrap (d : Int) = (d : Int) := by rw [IntKind.wrap_i64]; omega
              have hdI0 : (0 : Int) ≤ (d : Int) := by omega
              have hdI1 : (d : Int) < (d : Int) + 1 := by omega
              have hdc2 : (d : Int) ≤ (cq5 : Int) := by omega
              have hdc3 : d ≤ cq5 := by omega
              have hdc4 : d ≤ d + 1 := by omega
              have hor := Hpar.out (by omega)
              have h2 : op = 3 := H3.out
              · have e2 : (op == 2) = false := by rw [h2]; rfl
                have hj5 : joinT op out x5 = orT out x5 := by rw [h2]; rfl
                rw [hj5] at Hp6
                have Hcall := Lib.hid (fun w' => rorT_c out x5 w')
                generalize orT out x5 = T5 at *
                have HH := Lib.hid h2
                clear h2 hor hj5 hp6 Hp5
                go_wp2_with fail
                refine (Hki.out _).mono ?_
                rintro e w5 ⟨rfl, hb5⟩
                have Hb5 := Lib.hid (Hbq.out.trans (hb5.mono Hbq.out.size))
                obtain ⟨bq, oq, e5, htop, ho6, _, _⟩ := ucells_top (Ho5.out.below hb5) Hl6.out
                injection e5 with e5
                injection e5 with e51 e52
                subst e51
                subst e52
                have Ho6 := Lib.hid ho6
                obtain ⟨⟨g0, g1, g2, g3, g4, g5⟩, _, _⟩ := Hc.out w5 Hb5.out
                clear d0 d1 d2 d3 d4 d5 hb5 ho6
                go_wp2_with fail
                refine (Hcall.out _).mono ?_
                rintro e w6 ⟨rfl, rfl⟩
                go_wp2_with fail
                go_roundw
                case rel => exact ⟨q + 1, d, cq5, _, T5, st6, rfl, rfl, by go_num, by omega, by omega, Hl6, Hbs6, Hp6, Ho6, Hb5⟩
                case measure => simp [intOf]; omega
            · obtain rfl : q = P := by omega
              have hp := Hp5.out
              rw [Nat.sub_self, pops] at hp
              obtain ⟨rfl, rfl⟩ : out = Y ∧ st5 = stF := by have := Option.some.inj hp; exact ⟨congrArg Prod.fst this, congrArg Prod.snd this⟩
              go_wp2_with fail
              refine (Hki.out _).mono ?_
              rintro e w5 ⟨rfl, hb5⟩
              have Hb5 := Lib.hid (Hbq.out.trans (hb5.mono Hbq.out.size))
              have Ho6 := Lib.hid (Ho5.out.below hb5)
              have Hbw := (Hc.out w5 Hb5.out).2.1
              clear hb5 d0 d1 d2 d3 d4 d5 hp Hp5
              have hbP := (Below.refl w5.heap.size w5).alloc (Nat.le_refl _) (.cells #[.int .u8 out] 5)
              have hnewP := (Blk.new w5 5 #[.int .u8 out]).range
              have hoP := Own.below Ho6.out hbP
              have hbP2 := (Hbw.out).trans (hbP.mono (Hbw.out).size)
              have hzP := hbP2.size
              have hlenP : (ucells st5.reverse).length = k5 := by rw [ucells_len, List.length_reverse]; exact Hl5.out
              clear hbP
              go_wp2_with (first | (at_builtin; refine hold ?_) | (at_make; refine hold ?_))
              (with_reducible refine unhold ?_)
              refine wpList_apd rfl _ _ _ rfl Eu8s w.heap.size _ (k5) _ (ucells st5.reverse) rfl hoP _ 1 _ [.int .u8 out] rfl rfl (fun _ => ⟨_, _, rfl, hnewP⟩) (by simp [Value.oneCell']) (k5 + 1) rfl _ rfl (by omega) (by omega) hzP ?_
              intro A9 c9 w9 ho9 hg9 _
              have Hb9 := Lib.hid (hbP2.grown hg9 hbP2.size hoP.row_ge)
              rw [ucells_push] at ho9
              have Ho9 := Lib.hid ho9
              clear ho9 hg9 hbP2 hoP hnewP
              go_wp2_with fail
              go_roundw
              case rel => exact ⟨(j : Int) - 1, j, k5 + 1, c9, A9, out :: st5, rfl, rfl, rfl, by omega, (by show _ = _; rw [List.length_cons]; exact congrArg (· + 1) Hl5.out), Hfj, Ho9, Hb9⟩
              case measure => first | (simp [intOf]; done) | (simp [intOf]; omega)
        · have e3 : (op == 3) = false := by rw [beq_eq_false_iff_ne]; exact h3
          obtain rfl : F = 2 := by rw [← hF]; unfold firstT; rw [if_neg h3]
          have H3 := Lib.hid h3
          clear hF h3
          go_wp2_with fail
          refine (Hco2.out _).mono ?_
          rintro e w1 ⟨rfl, rfl⟩
          go_wp2_with fail
          go_loopw [5, 8, 9] (fun v5 v8 v9 wr => ∃ (q k5 cq5 : Nat) (A5 : Option Addr) (out : Int) (st5 : List Int), v5 = .slice A5 k5 cq5 ∧ v8 = .int .u8 out ∧ v9 = .int .i64 (q : Int) ∧ q ≤ P ∧ k5 ≤ 1000 ∧ Hid (st5.length = k5) ∧ Hid (∀ y ∈ st5, 0 ≤ y ∧ y ≤ 2) ∧ Hid (pops op (P - q) out st5 = some (Y, stF)) ∧ Hid (Own wr w.heap.size 5 1 A5 k5 cq5 (ucells st5.reverse)) ∧ Hid (Below (wo.alloc (.cells #[.int .u8 op, .int .i64 col, .int .i64 kids, .int .u8 k, .int .i64 nn, .string (St8 s)] 46)).heap.size (wo.alloc (.cells #[.int .u8 op, .int .i64 col, .int .i64 kids, .int .u8 k, .int .i64 nn, .string (St8 s)] 46)) wr)) (fun _ _ v9 _ => P - (intOf v9).toNat)
          case atStart => exact ⟨0, kk, cc, A, _, st, rfl, rfl, rfl, by omega, hkk, Hst, Hbs, Hpop, Ho.out.below (Hc.out _ Hbr.out).2.2.out, Hbr⟩
          case round =>
            obtain ⟨q, k5, cq5, A5, out, st5, rfl, rfl, rfl, hqP, hk5, Hl5, Hbs5, Hp5, Ho5, Hbq⟩ := hrel
            obtain ⟨⟨d0, d1, d2, d3, d4, d5⟩, _, _⟩ := Hc.out wr Hbq.out
            clear Ho Hst Hbs Hpop
            by_cases hq : q < P
            · have hqI : (q : Int) < (P : Int) := by omega
              obtain ⟨x5, st6, rfl⟩ : ∃ x5 st6, st5 = x5 :: st6 := by
                cases st5 with
                | nil =>
                  have := Hp5.out
                  rw [show P - q = (P - q - 1) + 1 from by omega, pops] at this
                  cases this
                | cons a t => exact ⟨a, t, rfl⟩
              obtain ⟨d, rfl⟩ : ∃ d, k5 = d + 1 := ⟨k5 - 1, by have := Hl5.out; simp at this; omega⟩
              have hl6 : st6.length = d := by have := Hl5.out; simpa using this
              have hp6 := Hp5.out
              rw [show P - q = (P - (q + 1)) + 1 from by omega, pops] at hp6
              have Hp6 := Lib.hid hp6
              have hx5 := Hbs5.out x5 (List.mem_cons_self ..)
              have Hbs6 : Hid (∀ y ∈ st6, 0 ≤ y ∧ y ≤ 2) := fun y hy => Hbs5.out y (List.mem_cons_of_mem _ hy)
              obtain ⟨b5, o5, rfl, _, _, hdc, hcm5⟩ := ucells_top Ho5.out hl6
              have Hl6 := Lib.hid hl6
              have hwd : IntKind.i64.wrap (d : Int) = (d : Int) := by rw [IntKind.wrap_i64]; omega
              have hdI0 : (0 : Int) ≤ (d : Int) := by omega
              have hdI1 : (d : Int) < (d : Int) + 1 := by omega
              have hdc2 : (d : Int) ≤ (cq5 : Int) := by omega
              have hdc3 : d ≤ cq5 := by omega
              have hdc4 : d ≤ d + 1 := by omega
              have hor := Hpar.out (by omega)
              have h24 : op = 2 ∨ op = 4 := by have := H3.out; omega
              rcases h24 with h2 | h2
              · have e2 : (op == 2) = true := by rw [h2]; rfl
                have hj5 : joinT op out x5 = andT out x5 := by rw [h2]; rfl
                rw [hj5] at Hp6
                have Hcall := Lib.hid (fun w' => randT_c out x5 w')
                generalize andT out x5 = T5 at *
                have HH := Lib.hid h2
                clear h2 hor hj5 hp6 Hp5
                go_wp2_with fail
                refine (Hki.out _).mono ?_
                rintro e w5 ⟨rfl, hb5⟩
                have Hb5 := Lib.hid (Hbq.out.trans (hb5.mono Hbq.out.size))
                obtain ⟨bq, oq, e5, htop, ho6, _, _⟩ := ucells_top (Ho5.out.below hb5) Hl6.out
                injection e5 with e5
                injection e5 with e51 e52
                subst e51
                subst e52
                have Ho6 := Lib.hid ho6
                obtain ⟨⟨g0, g1, g2, g3, g4, g5⟩, _, _⟩ := Hc.out w5 Hb5.out
                clear d0 d1 d2 d3 d4 d5 hb5 ho6
                go_wp2_with fail
                refine (Hcall.out _).mono ?_
                rintro e w6 ⟨rfl, rfl⟩
                go_wp2_with fail
                go_roundw
                case rel => exact ⟨q + 1, d, cq5, _, T5, st6, rfl, rfl, by go_num, by omega, by omega, Hl6, Hbs6, Hp6, Ho6, Hb5⟩
                case measure => simp [intOf]; omega
              · have e2 : (op == 2) = false := by rw [h2]; rfl
                have hj5 : joinT op out x5 = notT x5 := by rw [h2]; rfl
                rw [hj5] at Hp6
                have Hcall := Lib.hid (fun w' => rnotT_c x5 (by omega) w')
                generalize notT x5 = T5 at *
                have HH := Lib.hid h2
                clear h2 hor hj5 hp6 Hp5
                go_wp2_with fail
                refine (Hki.out _).mono ?_
                rintro e w5 ⟨rfl, hb5⟩
                have Hb5 := Lib.hid (Hbq.out.trans (hb5.mono Hbq.out.size))
                obtain ⟨bq, oq, e5, htop, ho6, _, _⟩ := ucells_top (Ho5.out.below hb5) Hl6.out
                injection e5 with e5
                injection e5 with e51 e52
                subst e51
                subst e52
                have Ho6 := Lib.hid ho6
                obtain ⟨⟨g0, g1, g2, g3, g4, g5⟩, _, _⟩ := Hc.out w5 Hb5.out
                clear d0 d1 d2 d3 d4 d5 hb5 ho6
                go_wp2_with fail
                refine (Hcall.out _).mono ?_
                rintro e w6 ⟨rfl, rfl⟩
                go_wp2_with fail
                go_roundw
                case rel => exact ⟨q + 1, d, cq5, _, T5, st6, rfl, rfl, by go_num, by omega, by omega, Hl6, Hbs6, Hp6, Ho6, Hb5⟩
                case measure => simp [intOf]; omega
            · obtain rfl : q = P := by omega
              have hp := Hp5.out
              rw [Nat.sub_self, pops] at hp
              obtain ⟨rfl, rfl⟩ : out = Y ∧ st5 = stF := by have := Option.some.inj hp; exact ⟨congrArg Prod.fst this, congrArg Prod.snd this⟩
              go_wp2_with fail
              refine (Hki.out _).mono ?_
              rintro e w5 ⟨rfl, hb5⟩
              have Hb5 := Lib.hid (Hbq.out.trans (hb5.mono Hbq.out.size))
              have Ho6 := Lib.hid (Ho5.out.below hb5)
              have Hbw := (Hc.out w5 Hb5.out).2.1
              clear hb5 d0 d1 d2 d3 d4 d5 hp Hp5
              have hbP := (Below.refl w5.heap.size w5).alloc (Nat.le_refl _) (.cells #[.int .u8 out] 5)
              have hnewP := (Blk.new w5 5 #[.int .u8 out]).range
              have hoP := Own.below Ho6.out hbP
              have hbP2 := (Hbw.out).trans (hbP.mono (Hbw.out).size)
              have hzP := hbP2.size
              have hlenP : (ucells st5.reverse).length = k5 := by rw [ucells_len, List.length_reverse]; exact Hl5.out
              clear hbP
              go_wp2_with (first | (at_builtin; refine hold ?_) | (at_make; refine hold ?_))
              (with_reducible refine unhold ?_)
              refine wpList_apd rfl _ _ _ rfl Eu8s w.heap.size _ (k5) _ (ucells st5.reverse) rfl hoP _ 1 _ [.int .u8 out] rfl rfl (fun _ => ⟨_, _, rfl, hnewP⟩) (by simp [Value.oneCell']) (k5 + 1) rfl _ rfl (by omega) (by omega) hzP ?_
              intro A9 c9 w9 ho9 hg9 _
              have Hb9 := Lib.hid (hbP2.grown hg9 hbP2.size hoP.row_ge)
              rw [ucells_push] at ho9
              have Ho9 := Lib.hid ho9
              clear ho9 hg9 hbP2 hoP hnewP
              go_wp2_with fail
              go_roundw
              case rel => exact ⟨(j : Int) - 1, j, k5 + 1, c9, A9, out :: st5, rfl, rfl, rfl, by omega, (by show _ = _; rw [List.length_cons]; exact congrArg (· + 1) Hl5.out), Hfj, Ho9, Hb9⟩
              case measure => first | (simp [intOf]; done) | (simp [intOf]; omega)
end Go.Proofs.YtipnglidepfkbaaDoor
