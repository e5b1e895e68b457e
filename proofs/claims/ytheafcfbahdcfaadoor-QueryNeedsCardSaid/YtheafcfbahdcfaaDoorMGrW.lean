/- Walks: the kinds of what is told: the program's. (Printed by gen_qyo.py.) Walks: why rows can't be ordered so (a map from numbers to truths): the program's. -/
import Derived.Test.YtheafcfbahdcfaaDoorMQyU
import Derived.Test.YtheafcfbahdcfaaDoorMQyG
import Derived.Maps.Own
import Derived.Maps.Views
namespace Go.Proofs.YtheafcfbahdcfaaDoor
set_option linter.unusedVariables false
set_option linter.unusedSimpArgs false
open Go.RowKit

attribute [local go_sem ↓] Go.wp_at_zero Go.wp_at_succ

set_option maxHeartbeats 16000000 in
set_option maxRecDepth 100000 in
theorem told_any (kinds : List Int) (K : Option Addr) (kn kc : Nat) (q : Qy) (a1 : Option Addr) (n1 c1 : Nat) (a2 : Option Addr) (n2 c2 : Nat) (a3 : Option Addr) (n3 c3 : Nat) (a4 : Option Addr) (n4 c4 : Nat) (a5 : Option Addr) (n5 c5 : Nat) (a6 : Option Addr) (n6 c6 : Nat) (w : World) (hkn : kinds.length = kn) (hK : Rd w K (kcells kinds)) (hkm : kn ≤ 1000) (hq : Qi w q a1 n1 a2 n2 a3 n3 a4 n4 a5 n5 a6 n6) (hqf : q.Few) (hc3 : n3 ≤ c3 ∧ c3 ≤ maxLen) :
    Calls Tryd.prog 23 #[.slice K kn kc, .agg #[.string (St8 q.frm), .slice a1 n1 c1, .slice a2 n2 c2, .slice a3 n3 c3, .slice a4 n4 c4, .slice a5 n5 c5, .slice a6 n6 c6]] w fun e w' => (∃ A d, e = .returned (.tuple #[.slice A (toldM kinds q).1.length d, .int .i64 (toldM kinds q).2]) ∧ Own w' w.heap.size 5 1 A (toldM kinds q).1.length d (kcells (toldM kinds q).1)) ∧ Below w.heap.size w w' := by
  have Hkn := Lib.hid hkn
  have hn3 := hqf.by_
  have hn4 := hqf.aggs
  have hn5 := hqf.want
  rw [hq.l3] at hn3
  rw [hq.l4] at hn4
  rw [hq.l5] at hn5
  obtain ⟨wb, hwb⟩ : ∃ x, x = w.alloc (.cells #[.string (St8 q.frm), .slice a1 n1 c1, .slice a2 n2 c2, .slice a3 n3 c3, .slice a4 n4 c4, .slice a5 n5 c5, .slice a6 n6 c6] 29) := ⟨_, rfl⟩
  have Hbx : Hid (Blk wb w.heap.size 29 (#[.string (St8 q.frm), .slice a1 n1 c1, .slice a2 n2 c2, .slice a3 n3 c3, .slice a4 n4 c4, .slice a5 n5 c5, .slice a6 n6 c6]).toList) := by
    show Blk _ _ _ _
    rw [hwb]
    exact Blk.new w _ _
  have Hbb : Hid (Below w.heap.size w wb) := by
    show Below _ _ _
    rw [hwb]
    exact (Below.refl _ _).alloc (Nat.le_refl _) _
  have hqb := hq.below Hbb.out
  have HK := Lib.hid (hK.below Hbb.out)
  have HW := Lib.hid hqb.r5
  have H5 := Lib.hid hq.l5
  have Hgk := Lib.hid (gkinds_any kinds K kn kc q.by_ a3 n3 c3 q.aggs a4 n4 c4 wb hkn HK.out hkm hq.l3 hqb.r3 hc3 hq.l4 hqb.r4 hn3 hn4)
  obtain ⟨G, hG⟩ : ∃ G, G = toldM kinds q := ⟨_, rfl⟩
  rw [← hG]
  have Hg1 : Hid (0 < n3 + n4 → 0 < n5 → G = ([], 233)) := Lib.hid fun h h2 => by
    rw [hG]; unfold toldM
    rw [hq.l3, hq.l4, hq.l5, if_pos h, if_pos h2]
  have Hg2 : Hid (0 < n3 + n4 → ¬ 0 < n5 → groupK kinds q.by_ q.aggs = G) := Lib.hid fun h h2 => by
    rw [hG]; unfold toldM
    rw [hq.l3, hq.l4, hq.l5, if_pos h, if_neg h2]
  have Hg3 : Hid (¬ 0 < n3 + n4 → (n5 < 1 ∨ 8 < n5) → G = ([], 233)) := Lib.hid fun h h2 => by
    rw [hG]; unfold toldM
    rw [hq.l3, hq.l4, hq.l5, if_neg h, if_pos h2]
  have Hg4 : Hid (¬ 0 < n3 + n4 → ¬ (n5 < 1 ∨ 8 < n5) → ∀ j (hj : j < q.want.length), inK kinds q.want[j] = false → G = ([], 233)) := Lib.hid fun h h2 j hj h3 => by
    rw [hG]; unfold toldM
    rw [hq.l3, hq.l4, hq.l5, if_neg h, if_neg h2, if_neg]
    intro h4
    have := List.all_eq_true.1 h4 _ (List.getElem_mem hj)
    rw [h3] at this
    cases this
  have Hg5 : Hid (¬ 0 < n3 + n4 → ¬ (n5 < 1 ∨ 8 < n5) → (∀ c ∈ q.want, inK kinds c = true) → G = (q.want.map fun c => kinds.getD c.toNat 0, 0)) := Lib.hid fun h h2 h3 => by
    rw [hG]; unfold toldM
    rw [hq.l3, hq.l4, hq.l5, if_neg h, if_neg h2, if_pos (List.all_eq_true.2 h3)]
  clear hkn hK hq hqf hqb hG
  by_cases hg : 0 < (n3 : Int) + (n4 : Int)
  · by_cases hw : 0 < (n5 : Int)
    · have HG2 := Lib.hid (Hg1.out (by omega) (by omega))
      go_enter Tryd.func23, Tryd.ntmps23
      go_wp2_with fail
      go_ret2
      exact ⟨⟨none, 0, by rw [HG2.out]; rfl, by rw [HG2.out]; exact Own.nil _ _ _ _⟩, by (try rw [← hwb]); exact Hbb.out⟩
    · have hge := Hg2.out (by omega) (by omega)
      rw [hge] at Hgk
      clear hge
      obtain ⟨gl, ge⟩ := G
      dsimp only at Hgk
      go_enter Tryd.func23, Tryd.ntmps23
      go_wp2_with fail
      rw [← hwb]
      refine Hgk.out.mono ?_
      rintro e w1 ⟨⟨A, d, rfl, ho⟩, hb1⟩
      have Ho := Lib.hid (ho.lower Hbb.out.size)
      have Hb1 := Lib.hid (Hbb.out.trans (hb1.mono Hbb.out.size))
      clear ho hb1
      go_wp2_with fail
      go_ret2
      exact ⟨⟨A, d, rfl, Ho.out⟩, Hb1.out⟩
  · have hgn : ¬ 0 < n3 + n4 := by omega
    by_cases hw1 : (n5 : Int) < 1
    · have HG2 := Lib.hid (Hg3.out hgn (by omega))
      go_enter Tryd.func23, Tryd.ntmps23
      go_wp2_with fail
      go_ret2
      exact ⟨⟨none, 0, by rw [HG2.out]; rfl, by rw [HG2.out]; exact Own.nil _ _ _ _⟩, by (try rw [← hwb]); exact Hbb.out⟩
    · by_cases hw8 : 8 < (n5 : Int)
      · have HG2 := Lib.hid (Hg3.out hgn (by omega))
        go_enter Tryd.func23, Tryd.ntmps23
        go_wp2_with fail
        go_ret2
        exact ⟨⟨none, 0, by rw [HG2.out]; rfl, by rw [HG2.out]; exact Own.nil _ _ _ _⟩, by (try rw [← hwb]); exact Hbb.out⟩
      · have Hg4' := Lib.hid (Hg4.out hgn (by omega))
        have Hg5' := Lib.hid (Hg5.out hgn (by omega))
        clear Hg1 Hg2 Hg3 Hg4 Hg5 Hgk
        go_enter Tryd.func23, Tryd.ntmps23
        go_wp2_with fail
        go_loopw [7, 50] (fun vo vi wr => ∃ (j : Nat) (A : Option Addr) (d : Nat), vo = .slice A j d ∧ vi = .int .i64 j ∧ j ≤ n5 ∧ Hid (∀ c ∈ q.want.take j, inK kinds c = true) ∧ Hid (Own wr wb.heap.size 5 1 A j d (kcells ((q.want.take j).map fun c => kinds.getD c.toNat 0))) ∧ Hid (Below wb.heap.size wb wr)) (fun _ vi _ => n5 - (intOf vi).toNat)
        case atStart => exact ⟨0, none, 0, rfl, rfl, by omega, by (show ∀ k ∈ ([] : List Int), _); simp, Own.nil _ _ _ _, (by (try rw [← hwb]); exact Below.refl _ _)⟩
        case round =>
          obtain ⟨j, A, d, rfl, rfl, hj, Hin, Ho, Hb⟩ := hrel
          by_cases hjn : j < n5
          · have hjI : (j : Int) < (n5 : Int) := by omega
            have hjI0 : (0 : Int) ≤ (j : Int) := by omega
            have hjl : j < q.want.length := by rw [H5.out]; exact hjn
            obtain ⟨b, o, hLe, c0⟩ := (HW.out.below Hb.out).num hjl
            have Hbad := Lib.hid (Hg4'.out j hjl)
            have hts := List.take_succ_eq_append_getElem hjl
            have Hts := Lib.hid hts
            have Hfin := Lib.hid (Hbb.out.trans (Hb.out.mono Hbb.out.size))
            clear hts
            subst hLe
            generalize q.want[j] = x at *
            clear hjl
            by_cases h1 : x < 0
            · have HG2 := Lib.hid (Hbad.out (decide_eq_false (by omega)))
              clear Hbad
              go_wp2_with fail
              go_ret2
              exact ⟨⟨none, 0, by rw [HG2.out]; rfl, by rw [HG2.out]; exact Own.nil _ _ _ _⟩, Hfin.out⟩
            · by_cases h2 : (kn : Int) ≤ x
              · have HG2 := Lib.hid (Hbad.out (decide_eq_false (by rw [Hkn.out]; omega)))
                clear Hbad
                go_wp2_with fail
                go_ret2
                exact ⟨⟨none, 0, by rw [HG2.out]; rfl, by rw [HG2.out]; exact Own.nil _ _ _ _⟩, Hfin.out⟩
              · have hik : inK kinds x = true := decide_eq_true (by rw [Hkn.out]; omega)
                have Hin2 : Hid (∀ c ∈ q.want.take (j + 1), inK kinds c = true) := Lib.hid fun c hc => by
                  rw [Hts.out, List.mem_append, List.mem_singleton] at hc
                  rcases hc with hc | rfl
                  · exact Hin.out c hc
                  · exact hik
                obtain ⟨cN, rfl⟩ := Int.eq_ofNat_of_zero_le (show 0 ≤ x by omega)
                have hck : cN < kn := by omega
                have hcl : cN < kinds.length := by rw [Hkn.out]; exact hck
                obtain ⟨qb, qo, hKe, g0⟩ := (HK.out.below Hb.out).kind hcl
                have Hgd : Hid (kinds.getD (cN : Int).toNat 0 = kinds[cN]) := by
                  show _ = _
                  rw [Int.toNat_natCast, List.getD_eq_getElem?_getD, List.getElem?_eq_getElem hcl]
                  rfl
                have hcI : (cN : Int) < (kn : Int) := by omega
                have hcI0 : (0 : Int) ≤ (cN : Int) := by omega
                subst hKe
                generalize kinds[cN] = kv at *
                have hbA : Below wr.heap.size wr (wr.alloc (.cells #[.int .u8 kv] 5)) := (Below.refl _ _).alloc (Nat.le_refl _) _
                have ho3 := Ho.out.below hbA
                have hb3 := Hb.out.trans (hbA.mono Hb.out.size)
                have hz3 := hb3.size
                have hnew := (Blk.new wr 5 #[.int .u8 kv]).range
                have Hys : Hid (kcells ((q.want.take j).map fun c => kinds.getD c.toNat 0) ++ [.int .u8 kv] = kcells ((q.want.take (j + 1)).map fun c => kinds.getD c.toNat 0)) := by
                  show _ = _
                  rw [Hts.out, List.map_append, ← kcells_app]
                  show _ = _ ++ [Value.int .u8 (kinds.getD (cN : Int).toNat 0)]
                  rw [Hgd.out]
                clear hik Hbad hcl hbA
                go_wp2_with (first | (at_builtin; refine hold ?_) | (at_make; refine hold ?_))
                (with_reducible refine unhold ?_)
                refine wpList_apd rfl _ _ _ rfl E8 wb.heap.size _ j _ _ rfl ho3 _ 1 _ [.int .u8 kv] rfl rfl (fun _ => ⟨_, _, rfl, hnew⟩) (by simp [Value.oneCell']) (j + 1) rfl _ Hys.out (by omega) (by omega) hz3 ?_
                intro A5 d5 w9 ho9 hg9 _
                have Hb9 := Lib.hid (hb3.grown hg9 hz3 ho3.row_ge)
                have Ho9 := Lib.hid ho9
                clear ho9 hg9 ho3 hb3 hnew hz3
                go_wp2_with fail
                go_roundw
                case rel => exact ⟨j + 1, A5, d5, rfl, by go_num, by omega, Hin2, Ho9, Hb9⟩
                case measure => simp [intOf]; omega
          · obtain rfl : j = n5 := by omega
            have htk : q.want.take j = q.want := List.take_of_length_le (by rw [H5.out]; exact Nat.le_refl _)
            have HG2 := Lib.hid (Hg5'.out (by have := Hin.out; rwa [htk] at this))
            have Ho2 : Hid (Own wr w.heap.size 5 1 A j d (kcells (q.want.map fun c => kinds.getD c.toNat 0))) := by
              show Own _ _ _ _ _ _ _ _
              have := Ho.out
              rw [htk] at this
              exact this.lower Hbb.out.size
            have Hfin := Lib.hid (Hbb.out.trans (Hb.out.mono Hbb.out.size))
            have Hml : Hid ((q.want.map fun c => kinds.getD c.toNat 0).length = j) := by show _ = _; rw [List.length_map, H5.out]
            clear htk
            go_wp2_with fail
            go_ret2
            exact ⟨⟨A, d, by rw [HG2.out]; show Ending.returned (.tuple #[.slice A _ d, _]) = Ending.returned (.tuple #[.slice A (q.want.map fun c => kinds.getD c.toNat 0).length d, _]); rw [Hml.out]; rfl, by rw [HG2.out]; show Own _ _ _ _ _ (q.want.map fun c => kinds.getD c.toNat 0).length _ _; rw [Hml.out]; exact Ho2.out⟩, Hfin.out⟩
end Go.Proofs.YtheafcfbahdcfaaDoor
namespace Go.Proofs.YtheafcfbahdcfaaDoor
set_option linter.unusedVariables false
set_option linter.unusedSimpArgs false
open Go.RowKit

attribute [local go_sem ↓] Go.wp_at_zero Go.wp_at_succ

def heldB (v : Value) : Option (DataW Value × List MemPlace) := some (.held v, [])
theorem intKd : Maps.Keyed Tryd.prog 3 := Maps.int_keyed (q := .i64) (by kernel_rfl)
/-- The map at block b has the keys S. -/
def IMap (w : World) (b n : Nat) (S : List Int) : Prop :=
  ∃ D : DataW Value, w.ownsMap Tryd.prog 3 heldB b n D ∧ ∀ x : Int, (Lit.int .i64 x).wf = true → D.atKey (.int .i64 x) (.held (.bool false)) = .held (.bool (decide (x ∈ S)))
namespace IMap
variable {w w' : World} {b n : Nat} {S : List Int}
theorem made (w : World) : IMap (w.alloc (.map #[] 0)) w.heap.size 0 [] :=
  ⟨.map [], World.ownsMap_made w _ _ _, fun _ _ => rfl⟩
theorem lt (h : IMap w b n S) : b < w.heap.size := by
  obtain ⟨D, ho, _⟩ := h
  exact ho.lt
theorem below (h : IMap w b n S) (hb : Below w.heap.size w w') : IMap w' b n S := by
  have hlt := h.lt
  obtain ⟨D, ⟨es, cl, he, h1⟩, hC⟩ := h
  exact ⟨D, ⟨es, cl, by rw [hb.block b hlt]; exact he, h1⟩, hC⟩
theorem look (h : IMap w b n S) {x : Int} (hx : (Lit.int .i64 x).wf = true) : (Instr.lookup 77 (.map (some b)) (.int .i64 x) false).run Tryd.prog w = .ok (.bool (decide (x ∈ S))) w := by
  obtain ⟨D, ho, hC⟩ := h
  obtain ⟨v, ps, hrun, hv⟩ := ho.lookup intKd (t := 77) (e := 4) (by kernel_rfl) (z := .bool false) (by kernel_rfl) (zd := .held (.bool false)) (zp := []) rfl (Maps.keyOf_int_mk (q := .i64) (by kernel_rfl) hx)
  rw [hC x hx] at hv
  rw [hrun]
  unfold heldB at hv
  simp at hv
  rw [hv.1]
theorem put (h : IMap w b n S) (hn : n < maxLen) {x : Int} (hx : (Lit.int .i64 x).wf = true) (S' : List Int) (hS : ∀ y, y ∈ S' ↔ y = x ∨ y ∈ S) :
    ∃ w', (Instr.mapUpdate 77 (.map (some b)) (.int .i64 x) (.bool true)).run Tryd.prog w = .ok () w' ∧ IMap w' b (n + 1) S' ∧ w.grownBy w' (some b) := by
  obtain ⟨D, ho, hC⟩ := h
  obtain ⟨w', hrun, h1, h2⟩ := ho.update intKd (t := 77) (e := 4) (by kernel_rfl) hn (Maps.keyOf_int_mk (q := .i64) (by kernel_rfl) hx) (val := .bool true) (d := .held (.bool true)) (ps := []) rfl
  refine ⟨w', hrun, ⟨_, h1, fun y hy => ?_⟩, h2⟩
  by_cases e : y = x
  · subst e
    rw [Maps.atKey_put_same (World.ownsMap.isMap ho) (show WideAt.IsKeyLit (.int .i64 y) from trivial), decide_eq_true ((hS y).2 (.inl rfl))]
  · have hne : (Lit.int .i64 y) ≠ (Lit.int .i64 x) := fun h => e (by injection h)
    rw [Maps.atKey_put_other hne, hC y hy]
    by_cases h3 : y ∈ S
    · rw [decide_eq_true h3, decide_eq_true ((hS y).2 (.inr h3))]
    · rw [decide_eq_false h3, decide_eq_false (fun h => ((hS y).1 h).elim e h3)]
end IMap

theorem ky_nodup_bad {l : List Ky} {j : Nat} (hj : j < l.length) (h : (l[j]).col ∈ (l.take j).map Ky.col) : ¬ (l.map Ky.col).Nodup := by
  intro hn
  have h1 : l.map Ky.col = (l.take j).map Ky.col ++ (l.drop j).map Ky.col := by rw [← List.map_append, List.take_append_drop]
  rw [h1, List.nodup_append] at hn
  refine hn.2.2 _ h _ ?_ rfl
  rw [List.drop_eq_getElem_cons hj, List.map_cons]
  exact List.mem_cons_self

set_option maxHeartbeats 8000000 in
set_option maxRecDepth 100000 in
theorem oright_any (cols : Nat) (l : List Ky) (L : Option Addr) (n c : Nat) (w : World) (hl : l.length = n) (hL : Rd w L (kyc l)) (hc : cols ≤ 1000000) (hn : n ≤ 1000) :
    Calls Tryd.prog 24 #[.int .i64 (cols : Int), .slice L n c] w fun e w' => e = .returned (.int .i64 (orderE cols l)) ∧ Below w.heap.size w w' := by
  have Hl := Lib.hid hl
  have HL := Lib.hid hL
  obtain ⟨R, hR⟩ : ∃ R, R = orderE cols l := ⟨_, rfl⟩
  rw [← hR]
  have hc0 : ¬ (cols : Int) < 0 := by omega
  have Hlong : Hid (8 < n → R = 3) := Lib.hid fun h => by
    rw [hR]
    unfold orderE
    rw [if_pos (by rw [hl]; exact h)]
  have Hbad1 : Hid (¬ 8 < n → ∀ j (hj : j < l.length), ¬ (0 ≤ (l[j]).col ∧ (l[j]).col < (cols : Int)) → R = 1) := Lib.hid fun h j hj h2 => by
    rw [hR]
    unfold orderE
    rw [if_neg (by rw [hl]; exact h), if_neg]
    intro h3
    rw [Bool.and_eq_true, List.all_eq_true] at h3
    exact h2 (of_decide_eq_true (h3.1 _ (List.getElem_mem hj)))
  have Hbad2 : Hid (¬ 8 < n → ∀ j (hj : j < l.length), (l[j]).col ∈ (l.take j).map Ky.col → R = 1) := Lib.hid fun h j hj h2 => by
    rw [hR]
    unfold orderE
    rw [if_neg (by rw [hl]; exact h), if_neg]
    intro h3
    rw [Bool.and_eq_true] at h3
    exact ky_nodup_bad hj h2 (of_decide_eq_true h3.2)
  have Hgood : Hid (¬ 8 < n → (∀ k ∈ l, 0 ≤ k.col ∧ k.col < (cols : Int)) → (l.map Ky.col).Nodup → R = 0) := Lib.hid fun h h2 h3 => by
    rw [hR]
    unfold orderE
    rw [if_neg (by rw [hl]; exact h), if_pos]
    rw [Bool.and_eq_true, List.all_eq_true]
    exact ⟨fun k hk => decide_eq_true (h2 k hk), decide_eq_true h3⟩
  clear hl hL hR
  by_cases h8 : 8 < (n : Int)
  · have HR := Lib.hid (Hlong.out (by omega))
    go_enter Tryd.func24, Tryd.ntmps24
    go_wp2_with fail
    go_ret
    exact ⟨by rw [HR.out]; rfl, Below.refl _ _⟩
  · have h8n : ¬ 8 < n := by omega
    have him := Lib.hid (IMap.made w)
    have hbm : Hid (Below w.heap.size w (w.alloc (.map #[] 0))) := (Below.refl _ _).alloc (Nat.le_refl _) _
    have hmm := @run_makeMap Tryd.prog
    go_enter Tryd.func24, Tryd.ntmps24
    go_wp2_with fail
    go_loopw [18] (fun vi wr => ∃ j : Nat, vi = .int .i64 j ∧ j ≤ n ∧ Hid (∀ k ∈ l.take j, 0 ≤ k.col ∧ k.col < (cols : Int)) ∧ Hid (((l.take j).map Ky.col).Nodup) ∧ Hid (IMap wr w.heap.size j ((l.take j).map Ky.col)) ∧ Hid (Below w.heap.size w wr)) (fun vi _ => n - (intOf vi).toNat)
    case atStart => exact ⟨0, rfl, by omega, by (show ∀ k ∈ ([] : List Ky), _); simp, (show ([] : List Int).Nodup from List.nodup_nil), him, hbm⟩
    case round =>
      obtain ⟨j, rfl, hj, Hin, Hnd, Hm, Hb⟩ := hrel
      by_cases hjn : j < n
      · have hjI : (j : Int) < (n : Int) := by omega
        have hjI0 : (0 : Int) ≤ (j : Int) := by omega
        have hjl : j < l.length := by rw [Hl.out]; exact hjn
        obtain ⟨b, o, hLe, c0, c1⟩ := (HL.out.below Hb.out).ky hjl
        have Hb1 := Lib.hid (Hbad1.out h8n j hjl)
        have Hb2 := Lib.hid (Hbad2.out h8n j hjl)
        have hts := List.take_succ_eq_append_getElem hjl
        have Hts := Lib.hid hts
        clear hts
        subst hLe
        generalize l[j] = x at *
        obtain ⟨col, dn⟩ := x
        dsimp only at c0 c1 Hb1 Hb2
        have hba : Below wr.heap.size wr (wr.alloc (.cells #[.int .i64 col, .bool dn] 79)) := (Below.refl _ _).alloc (Nat.le_refl _) _
        have Hba := Lib.hid (Hb.out.trans (hba.mono Hb.out.size))
        have hma := Hm.out.below hba
        have Hma := Lib.hid hma
        clear hba hma hjl
        by_cases h1 : col < 0
        · have HR := Lib.hid (Hb1.out (by omega))
          clear Hb1 Hb2
          go_wp2_with fail
          go_ret
          exact ⟨by rw [HR.out]; rfl, Hba.out⟩
        · by_cases h2 : (cols : Int) ≤ col
          · have HR := Lib.hid (Hb1.out (by omega))
            clear Hb1 Hb2
            go_wp2_with fail
            go_ret
            exact ⟨by rw [HR.out]; rfl, Hba.out⟩
          · have hwf : (Lit.int .i64 col).wf = true := WalkArith.wf_i64 (by omega)
            have hlk := Hma.out.look hwf
            by_cases h3 : col ∈ (l.take j).map Ky.col
            · rw [decide_eq_true h3] at hlk
              have HR := Lib.hid (Hb2.out h3)
              clear Hb1 Hb2 h3 hwf
              go_wp2_with fail
              go_ret
              exact ⟨by rw [HR.out]; rfl, Hba.out⟩
            · rw [decide_eq_false h3] at hlk
              obtain ⟨w2, hpu, hm2, hg2⟩ := Hma.out.put (by have : n ≤ 1000 := hn; unfold maxLen; omega) hwf ((l.take (j + 1)).map Ky.col) (fun y => by
                rw [Hts.out, List.map_append, List.mem_append, List.map_cons, List.map_nil, List.mem_singleton]
                exact Or.comm)
              have Hm2 := Lib.hid hm2
              have Hb3 := Lib.hid (Hba.out.grown hg2 Hba.out.size (fun k hk => by cases hk; exact Nat.le_refl _))
              have Hin2 : Hid (∀ k ∈ l.take (j + 1), 0 ≤ k.col ∧ k.col < (cols : Int)) := Lib.hid fun k hk => by
                rw [Hts.out, List.mem_append, List.mem_singleton] at hk
                rcases hk with hk | rfl
                · exact Hin.out k hk
                · exact ⟨Int.not_lt.1 h1, Int.not_le.1 h2⟩
              have Hnd2 : Hid (((l.take (j + 1)).map Ky.col).Nodup) := by
                show List.Nodup _
                rw [Hts.out, List.map_append, List.nodup_append]
                exact ⟨Hnd.out, by simp, fun a ha b hb e => by
                  rw [List.map_cons, List.map_nil, List.mem_singleton] at hb
                  rw [e, hb] at ha
                  exact h3 ha⟩
              clear Hb1 Hb2 h3 hwf hm2 hg2
              go_wp2_with fail
              go_roundw
              case rel => exact ⟨j + 1, by go_num, by omega, Hin2, Hnd2, Hm2, Hb3⟩
              case measure => simp [intOf]; omega
      · have HR := Lib.hid (Hgood.out h8n (by
          have := Hin.out
          rwa [List.take_of_length_le (by rw [Hl.out]; omega)] at this) (by
          have := Hnd.out
          rwa [List.take_of_length_le (by rw [Hl.out]; omega)] at this))
        go_wp2_with fail
        go_ret
        exact ⟨by rw [HR.out]; rfl, Hb.out⟩
end Go.Proofs.YtheafcfbahdcfaaDoor
