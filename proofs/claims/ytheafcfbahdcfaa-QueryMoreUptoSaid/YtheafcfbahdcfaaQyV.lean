/- Walks: why rows can't be ordered so (a map from numbers to truths): the program's. -/
import Derived.Test.YtheafcfbahdcfaaQyG
import Derived.Maps.Own
import Derived.Maps.Views
namespace Go.Proofs.Ytheafcfbahdcfaa
open Go.RowKit

attribute [local go_sem ↓] Go.wp_at_zero Go.wp_at_succ

def heldB (v : Value) : Option (DataW Value × List MemPlace) := some (.held v, [])
theorem intKd : Maps.Keyed Try.prog 3 := Maps.int_keyed (q := .i64) (by kernel_rfl)
/-- The map at block b has the keys S. -/
def IMap (w : World) (b n : Nat) (S : List Int) : Prop :=
  ∃ D : DataW Value, w.ownsMap Try.prog 3 heldB b n D ∧ ∀ x : Int, (Lit.int .i64 x).wf = true → D.atKey (.int .i64 x) (.held (.bool false)) = .held (.bool (decide (x ∈ S)))
namespace IMap
variable {w w' : World} {b n : Nat} {S : List Int}
theorem made (w : World) : IMap (w.alloc (.map #[] 0)) w.heap.size 0 [] :=
  ⟨.map [], World.ownsMap_made w _ _ _, fun _ _ => rfl⟩
theorem lt (h : IMap w b n S) : b < w.heap.size := by
  obtain ⟨D, ho, _⟩ := h
  exact ho.lt
theorem below (h : IMap w b n S) (hb : Below w.heap.size w w') : IMap w' b n S := by
  have hlt := h.lt
  obtain ⟨D, ⟨es, cl, he, h1⟩, hC⟩ := h
  exact ⟨D, ⟨es, cl, by rw [hb.block b hlt]; exact he, h1⟩, hC⟩
theorem look (h : IMap w b n S) {x : Int} (hx : (Lit.int .i64 x).wf = true) : (Instr.lookup 77 (.map (some b)) (.int .i64 x) false).run Try.prog w = .ok (.bool (decide (x ∈ S))) w := by
  obtain ⟨D, ho, hC⟩ := h
  obtain ⟨v, ps, hrun, hv⟩ := ho.lookup intKd (t := 77) (e := 4) (by kernel_rfl) (z := .bool false) (by kernel_rfl) (zd := .held (.bool false)) (zp := []) rfl (Maps.keyOf_int_mk (q := .i64) (by kernel_rfl) hx)
  rw [hC x hx] at hv
  rw [hrun]
  unfold heldB at hv
  simp at hv
  rw [hv.1]
theorem put (h : IMap w b n S) (hn : n < maxLen) {x : Int} (hx : (Lit.int .i64 x).wf = true) (S' : List Int) (hS : ∀ y, y ∈ S' ↔ y = x ∨ y ∈ S) :
    ∃ w', (Instr.mapUpdate 77 (.map (some b)) (.int .i64 x) (.bool true)).run Try.prog w = .ok () w' ∧ IMap w' b (n + 1) S' ∧ w.grownBy w' (some b) := by
  obtain ⟨D, ho, hC⟩ := h
  obtain ⟨w', hrun, h1, h2⟩ := ho.update intKd (t := 77) (e := 4) (by kernel_rfl) hn (Maps.keyOf_int_mk (q := .i64) (by kernel_rfl) hx) (val := .bool true) (d := .held (.bool true)) (ps := []) rfl
  refine ⟨w', hrun, ⟨_, h1, fun y hy => ?_⟩, h2⟩
  by_cases e : y = x
  · subst e
    rw [Maps.atKey_put_same (World.ownsMap.isMap ho) (show WideAt.IsKeyLit (.int .i64 y) from trivial), decide_eq_true ((hS y).2 (.inl rfl))]
  · have hne : (Lit.int .i64 y) ≠ (Lit.int .i64 x) := fun h => e (by injection h)
    rw [Maps.atKey_put_other hne, hC y hy]
    by_cases h3 : y ∈ S
    · rw [decide_eq_true h3, decide_eq_true ((hS y).2 (.inr h3))]
    · rw [decide_eq_false h3, decide_eq_false (fun h => ((hS y).1 h).elim e h3)]
end IMap

theorem ky_nodup_bad {l : List Ky} {j : Nat} (hj : j < l.length) (h : (l[j]).col ∈ (l.take j).map Ky.col) : ¬ (l.map Ky.col).Nodup := by
  intro hn
  have h1 : l.map Ky.col = (l.take j).map Ky.col ++ (l.drop j).map Ky.col := by rw [← List.map_append, List.take_append_drop]
  rw [h1, List.nodup_append] at hn
  refine hn.2.2 _ h _ ?_ rfl
  rw [List.drop_eq_getElem_cons hj, List.map_cons]
  exact List.mem_cons_self

set_option maxHeartbeats 8000000 in
set_option maxRecDepth 100000 in
theorem oright_any (cols : Nat) (l : List Ky) (L : Option Addr) (n c : Nat) (w : World) (hl : l.length = n) (hL : Rd w L (kyc l)) (hc : cols ≤ 1000000) (hn : n ≤ 1000) :
    Calls Try.prog 22 #[.int .i64 (cols : Int), .slice L n c] w fun e w' => e = .returned (.int .i64 (orderE cols l)) ∧ Below w.heap.size w w' := by
  have Hl := Lib.hid hl
  have HL := Lib.hid hL
  obtain ⟨R, hR⟩ : ∃ R, R = orderE cols l := ⟨_, rfl⟩
  rw [← hR]
  have hc0 : ¬ (cols : Int) < 0 := by omega
  have Hlong : Hid (8 < n → R = 3) := Lib.hid fun h => by
    rw [hR]
    unfold orderE
    rw [if_pos (by rw [hl]; exact h)]
  have Hbad1 : Hid (¬ 8 < n → ∀ j (hj : j < l.length), ¬ (0 ≤ (l[j]).col ∧ (l[j]).col < (cols : Int)) → R = 1) := Lib.hid fun h j hj h2 => by
    rw [hR]
    unfold orderE
    rw [if_neg (by rw [hl]; exact h), if_neg]
    intro h3
    rw [Bool.and_eq_true, List.all_eq_true] at h3
    exact h2 (of_decide_eq_true (h3.1 _ (List.getElem_mem hj)))
  have Hbad2 : Hid (¬ 8 < n → ∀ j (hj : j < l.length), (l[j]).col ∈ (l.take j).map Ky.col → R = 1) := Lib.hid fun h j hj h2 => by
    rw [hR]
    unfold orderE
    rw [if_neg (by rw [hl]; exact h), if_neg]
    intro h3
    rw [Bool.and_eq_true] at h3
    exact ky_nodup_bad hj h2 (of_decide_eq_true h3.2)
  have Hgood : Hid (¬ 8 < n → (∀ k ∈ l, 0 ≤ k.col ∧ k.col < (cols : Int)) → (l.map Ky.col).Nodup → R = 0) := Lib.hid fun h h2 h3 => by
    rw [hR]
    unfold orderE
    rw [if_neg (by rw [hl]; exact h), if_pos]
    rw [Bool.and_eq_true, List.all_eq_true]
    exact ⟨fun k hk => decide_eq_true (h2 k hk), decide_eq_true h3⟩
  clear hl hL hR
  by_cases h8 : 8 < (n : Int)
  · have HR := Lib.hid (Hlong.out (by omega))
    go_enter Try.func22, Try.ntmps22
    go_wp2_with fail
    go_ret
    exact ⟨by rw [HR.out]; rfl, Below.refl _ _⟩
  · have h8n : ¬ 8 < n := by omega
    have him := Lib.hid (IMap.made w)
    have hbm : Hid (Below w.heap.size w (w.alloc (.map #[] 0))) := (Below.refl _ _).alloc (Nat.le_refl _) _
    have hmm := @run_makeMap Try.prog
    go_enter Try.func22, Try.ntmps22
    go_wp2_with fail
    go_loopw [18] (fun vi wr => ∃ j : Nat, vi = .int .i64 j ∧ j ≤ n ∧ Hid (∀ k ∈ l.take j, 0 ≤ k.col ∧ k.col < (cols : Int)) ∧ Hid (((l.take j).map Ky.col).Nodup) ∧ Hid (IMap wr w.heap.size j ((l.take j).map Ky.col)) ∧ Hid (Below w.heap.size w wr)) (fun vi _ => n - (intOf vi).toNat)
    case atStart => exact ⟨0, rfl, by omega, by (show ∀ k ∈ ([] : List Ky), _); simp, (show ([] : List Int).Nodup from List.nodup_nil), him, hbm⟩
    case round =>
      obtain ⟨j, rfl, hj, Hin, Hnd, Hm, Hb⟩ := hrel
      by_cases hjn : j < n
      · have hjI : (j : Int) < (n : Int) := by omega
        have hjI0 : (0 : Int) ≤ (j : Int) := by omega
        have hjl : j < l.length := by rw [Hl.out]; exact hjn
        obtain ⟨b, o, hLe, c0, c1⟩ := (HL.out.below Hb.out).ky hjl
        have Hb1 := Lib.hid (Hbad1.out h8n j hjl)
        have Hb2 := Lib.hid (Hbad2.out h8n j hjl)
        have hts := List.take_succ_eq_append_getElem hjl
        have Hts := Lib.hid hts
        clear hts
        subst hLe
        generalize l[j] = x at *
        obtain ⟨col, dn⟩ := x
        dsimp only at c0 c1 Hb1 Hb2
        have hba : Below wr.heap.size wr (wr.alloc (.cells #[.int .i64 col, .bool dn] 79)) := (Below.refl _ _).alloc (Nat.le_refl _) _
        have Hba := Lib.hid (Hb.out.trans (hba.mono Hb.out.size))
        have hma := Hm.out.below hba
        have Hma := Lib.hid hma
        clear hba hma hjl
        by_cases h1 : col < 0
        · have HR := Lib.hid (Hb1.out (by omega))
          clear Hb1 Hb2
          go_wp2_with fail
          go_ret
          exact ⟨by rw [HR.out]; rfl, Hba.out⟩
        · by_cases h2 : (cols : Int) ≤ col
          · have HR := Lib.hid (Hb1.out (by omega))
            clear Hb1 Hb2
            go_wp2_with fail
            go_ret
            exact ⟨by rw [HR.out]; rfl, Hba.out⟩
          · have hwf : (Lit.int .i64 col).wf = true := WalkArith.wf_i64 (by omega)
            have hlk := Hma.out.look hwf
            by_cases h3 : col ∈ (l.take j).map Ky.col
            · rw [decide_eq_true h3] at hlk
              have HR := Lib.hid (Hb2.out h3)
              clear Hb1 Hb2 h3 hwf
              go_wp2_with fail
              go_ret
              exact ⟨by rw [HR.out]; rfl, Hba.out⟩
            · rw [decide_eq_false h3] at hlk
              obtain ⟨w2, hpu, hm2, hg2⟩ := Hma.out.put (by have : n ≤ 1000 := hn; unfold maxLen; omega) hwf ((l.take (j + 1)).map Ky.col) (fun y => by
                rw [Hts.out, List.map_append, List.mem_append, List.map_cons, List.map_nil, List.mem_singleton]
                exact Or.comm)
              have Hm2 := Lib.hid hm2
              have Hb3 := Lib.hid (Hba.out.grown hg2 Hba.out.size (fun k hk => by cases hk; exact Nat.le_refl _))
              have Hin2 : Hid (∀ k ∈ l.take (j + 1), 0 ≤ k.col ∧ k.col < (cols : Int)) := Lib.hid fun k hk => by
                rw [Hts.out, List.mem_append, List.mem_singleton] at hk
                rcases hk with hk | rfl
                · exact Hin.out k hk
                · exact ⟨Int.not_lt.1 h1, Int.not_le.1 h2⟩
              have Hnd2 : Hid (((l.take (j + 1)).map Ky.col).Nodup) := by
                show List.Nodup _
                rw [Hts.out, List.map_append, List.nodup_append]
                exact ⟨Hnd.out, by simp, fun a ha b hb e => by
                  rw [List.map_cons, List.map_nil, List.mem_singleton] at hb
                  rw [e, hb] at ha
                  exact h3 ha⟩
              clear Hb1 Hb2 h3 hwf hm2 hg2
              go_wp2_with fail
              go_roundw
              case rel => exact ⟨j + 1, by go_num, by omega, Hin2, Hnd2, Hm2, Hb3⟩
              case measure => simp [intOf]; omega
      · have HR := Lib.hid (Hgood.out h8n (by
          have := Hin.out
          rwa [List.take_of_length_le (by rw [Hl.out]; omega)] at this) (by
          have := Hnd.out
          rwa [List.take_of_length_le (by rw [Hl.out]; omega)] at this))
        go_wp2_with fail
        go_ret
        exact ⟨by rw [HR.out]; rfl, Hb.out⟩
end Go.Proofs.Ytheafcfbahdcfaa
