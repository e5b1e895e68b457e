/- Walks: a table's place: the program's. -/
import Derived.Test.YtheafcfbahdcfaaQyW
namespace Go.Proofs.Ytheafcfbahdcfaa
open Go.RowKit

attribute [local go_sem ↓] Go.wp_at_zero Go.wp_at_succ

/-- A table as it lies: its kinds' row, and what room this has. -/
structure Th where
  t : Tb
  a : Option Addr
  c : Nat
namespace Th
def cells (h : Th) : List Value := [.string (St8 h.t.name), .slice h.a h.t.kinds.length h.c]
def agg (h : Th) : Value := .agg #[.string (St8 h.t.name), .slice h.a h.t.kinds.length h.c]
end Th
def thc (l : List Th) : List Value := l.flatMap Th.cells
theorem thc_len : ∀ r : List Th, (thc r).length = r.length * 2
  | [] => rfl
  | v :: r => by
    have := thc_len r
    unfold thc at *
    rw [List.flatMap_cons, List.length_append, this, List.length_cons]
    show 2 + _ = _
    omega
theorem thc_get : ∀ (r : List Th) (j k : Nat) (hj : j < r.length), k < 2 → (thc r)[j * 2 + k]? = (r[j]).cells[k]?
  | v :: r, 0, k, _, hk => by
    unfold thc
    rw [List.flatMap_cons, List.getElem?_append_left (by show _ < 2; omega)]
    simp
  | v :: r, j + 1, k, hj, hk => by
    have h := thc_get r j k (by simpa using hj) hk
    unfold thc at *
    rw [List.flatMap_cons, List.getElem?_append_right (by show 2 ≤ _; omega), List.getElem_cons_succ, ← h]
    congr 1
    show (j + 1) * 2 + k - 2 = _
    omega
theorem Rd.table {w : World} {A : Option Addr} {l : List Th} (h : Rd w A (thc l)) {j : Nat} (hj : j < l.length) :
    ∃ b o, A = some ⟨b, o, none⟩ ∧ w.cell? ⟨b, o + j * 2, none⟩ = some (.string (St8 l[j].t.name)) ∧ w.cell? ⟨b, o + j * 2 + 1, none⟩ = some (.slice l[j].a l[j].t.kinds.length l[j].c) := by
  obtain ⟨b, o, e, hr⟩ := h (by intro e; have := congrArg List.length e; rw [thc_len, List.length_nil] at this; omega)
  exact ⟨b, o, e, hr (j * 2) _ (thc_get l j 0 hj (by omega)), hr (j * 2 + 1) _ (thc_get l j 1 hj (by omega))⟩

set_option maxHeartbeats 4000000 in
set_option maxRecDepth 100000 in
theorem find1_any (t : Th) (s : List UInt8) (pb : Nat) (w : World) (hp : w.cell? ⟨pb, 0, none⟩ = some (.string (St8 s))) (hb : pb < w.heap.size) :
    Calls Try.prog 29 #[t.agg, .pointer (some ⟨pb, 0, none⟩)] w fun e w' => e = .returned (.bool (decide (t.t.name = s))) ∧ Below w.heap.size w w' := by
  obtain ⟨⟨nm, kn⟩, a, c⟩ := t
  have hb0 : Hid (Below w.heap.size w (w.alloc (.cells #[.string (St8 nm), .slice a kn.length c] 45))) := (Below.refl _ _).alloc (Nat.le_refl _) _
  have hp2 : (w.alloc (.cells #[.string (St8 nm), .slice a kn.length c] 45)).cell? ⟨pb, 0, none⟩ = some (.string (St8 s)) := (hb0.out.cell (p := ⟨pb, 0, none⟩) hb).trans hp
  have k0 := (Blk.new w 45 #[.string (St8 nm), .slice a kn.length c]).cell 0
  simp only [List.getElem?_cons_zero] at k0
  have hq : ((St8 nm).toList == (St8 s).toList) = decide (nm = s) := by
    rw [St8_list, St8_list]
    by_cases e : nm = s <;> simp [e]
  show Calls Try.prog 29 #[.agg #[.string (St8 nm), .slice a kn.length c], .pointer (some ⟨pb, 0, none⟩)] w fun e w' => e = .returned (.bool (decide (nm = s))) ∧ Below w.heap.size w w'
  rw [← hq]
  clear hq hp
  go_enter Try.func29, Try.ntmps29
  go_wp2_with fail
  go_ret
  exact ⟨rfl, hb0.out⟩

/-- A place as the program tells it. -/
def placeT (l : List Tb) (s : List UInt8) : Int := match findT l s with | some k => (k : Int) | none => -1
theorem findT_at : ∀ (l : List Tb) (s : List UInt8) (j : Nat) (hj : j < l.length), (∀ i (hi : i < j), ¬ (l[i]'(by omega)).name = s) → (l[j]).name = s → findT l s = some j
  | t :: l, s, 0, _, _, h => by
    rw [findT, if_pos (show t.name = s from h)]
  | t :: l, s, j + 1, hj, h1, h => by
    have h0 : ¬ t.name = s := h1 0 (by omega)
    rw [findT, if_neg h0, findT_at l s j (by simpa using hj) (fun i hi => by have := h1 (i + 1) (by omega); simpa using this) (by simpa using h)]
    rfl
theorem findT_no : ∀ (l : List Tb) (s : List UInt8), (∀ i (hi : i < l.length), ¬ (l[i]).name = s) → findT l s = none
  | [], _, _ => rfl
  | t :: l, s, h => by
    have h0 : ¬ t.name = s := h 0 (by simp)
    rw [findT, if_neg h0, findT_no l s (fun i hi => by have := h (i + 1) (by simpa using hi); simpa using this)]
    rfl

set_option maxHeartbeats 4000000 in
set_option maxRecDepth 100000 in
theorem findi_any (s : List UInt8) (pb : Nat) (l : List Th) (L : Option Addr) (n c : Nat) (w : World) (hp : w.cell? ⟨pb, 0, none⟩ = some (.string (St8 s))) (hb : pb < w.heap.size) (hl : l.length = n) (hL : Rd w L (thc l)) (hn : n ≤ 1000000) :
    Calls Try.prog 28 #[.slice L n c, .func (Fn.func 29) #[] #[.pointer (some ⟨pb, 0, none⟩)]] w fun e w' => e = .returned (.int .i64 (placeT (l.map Th.t) s)) ∧ Below w.heap.size w w' := by
  have Hl := Lib.hid hl
  have HL := Lib.hid hL
  have Hr := Lib.hid (fun t w' (hw : Below w.heap.size w w') => find1_any t s pb w' ((hw.cell (p := ⟨pb, 0, none⟩) hb).trans hp) (Nat.lt_of_lt_of_le hb hw.size))
  obtain ⟨R, hRR⟩ : ∃ R, R = placeT (l.map Th.t) s := ⟨_, rfl⟩
  rw [← hRR]
  have HRR := Lib.hid hRR
  clear hl hL hp hRR
  go_enter Try.func28, Try.ntmps28
  go_wp2_with fail
  go_loopw [8] (fun vi wr => ∃ j : Nat, vi = .int .i64 j ∧ j ≤ n ∧ Hid (∀ i (hi : i < l.length), i < j → ¬ (l[i]).t.name = s) ∧ Hid (Below w.heap.size w wr)) (fun vi _ => n - (intOf vi).toNat)
  case atStart => exact ⟨0, rfl, by omega, (fun i _ h => by omega), Below.refl _ _⟩
  case round =>
    obtain ⟨j, rfl, hj, Hall, Hb⟩ := hrel
    by_cases hjn : j < n
    · have hjI : (j : Int) < (n : Int) := by omega
      have hjI0 : (0 : Int) ≤ (j : Int) := by omega
      have hjl : j < l.length := by rw [Hl.out]; exact hjn
      obtain ⟨b, o, rfl, c0, c1⟩ := (HL.out.below Hb.out).table hjl
      have hx := Hr.out l[j] wr Hb.out
      obtain ⟨x, hxe⟩ : ∃ x, x = l[j] := ⟨_, rfl⟩
      rw [← hxe] at c0 c1 hx
      have Hxe := Lib.hid hxe
      clear hxe
      obtain ⟨⟨nm, kn⟩, a, cc⟩ := x
      dsimp only at c0 c1
      have hx2 : Calls Try.prog 29 #[.agg #[.string (St8 nm), .slice a kn.length cc], .pointer (some ⟨pb, 0, none⟩)] wr fun e w' => e = .returned (.bool (decide (nm = s))) ∧ Below wr.heap.size wr w' := hx
      clear hx
      by_cases hR : nm = s
      · rw [decide_eq_true hR] at hx2
        have Hx := Lib.hid hx2
        have HR : Hid (R = (j : Int)) := by
          show R = _
          rw [HRR.out]
          unfold placeT
          rw [findT_at (l.map Th.t) s j (by rw [List.length_map]; exact hjl) (fun i hi => by rw [List.getElem_map]; exact Hall.out i (by omega) hi) (by rw [List.getElem_map, ← Hxe.out]; exact hR)]
        clear hx2 hR
        go_wp2_with fail
        refine Hx.out.mono ?_
        rintro e w1 ⟨rfl, hb1⟩
        have Hb1 := Lib.hid (Hb.out.trans (hb1.mono Hb.out.size))
        go_wp2_with fail
        go_ret
        exact ⟨by rw [HR.out]; rfl, Hb1.out⟩
      · rw [decide_eq_false hR] at hx2
        have Hx := Lib.hid hx2
        have HR : Hid (∀ i (hi : i < l.length), i < j + 1 → ¬ (l[i]).t.name = s) := by
          show ∀ _, _
          intro i hi hij
          by_cases e : i = j
          · subst e
            rw [← Hxe.out]
            exact hR
          · exact Hall.out i hi (by omega)
        clear hx2 hR
        go_wp2_with fail
        refine Hx.out.mono ?_
        rintro e w1 ⟨rfl, hb1⟩
        have Hb1 := Lib.hid (Hb.out.trans (hb1.mono Hb.out.size))
        go_wp2_with fail
        go_roundw
        case rel => exact ⟨j + 1, by go_num, by omega, HR, Hb1⟩
        case measure => simp [intOf]; omega
    · have HR : Hid (R = -1) := by
        show R = _
        rw [HRR.out]
        unfold placeT
        rw [findT_no (l.map Th.t) s (fun i hi => by
          rw [List.getElem_map]
          rw [List.length_map] at hi
          exact Hall.out i hi (by rw [Hl.out] at hi; omega))]
      go_wp2_with fail
      go_ret
      exact ⟨by rw [HR.out]; rfl, Hb.out⟩

set_option maxRecDepth 100000 in
theorem find_any (s : List UInt8) (l : List Th) (L : Option Addr) (n c : Nat) (w : World) (hl : l.length = n) (hL : Rd w L (thc l)) (hn : n ≤ 1000000) :
    Calls Try.prog 14 #[.slice L n c, .string (St8 s)] w fun e w' => e = .returned (.int .i64 (placeT (l.map Th.t) s)) ∧ Below w.heap.size w w' := by
  have hb0 : Hid (Below w.heap.size w (w.alloc (.cells #[.string (St8 s)] 9))) := (Below.refl _ _).alloc (Nat.le_refl _) _
  have k0 := (Blk.new w 9 #[.string (St8 s)]).cell 0
  simp only [List.getElem?_cons_zero] at k0
  have hi := Lib.hid (findi_any s w.heap.size l L n c _ k0 (by simp) hl (hL.below hb0.out) hn)
  clear hl hL k0
  go_enter Try.func14, Try.ntmps14
  go_wp2_with fail
  refine hi.out.mono ?_
  rintro e w1 ⟨rfl, hb1⟩
  have Hb1 := Lib.hid (hb0.out.trans (hb1.mono hb0.out.size))
  go_wp2_with fail
  go_ret
  exact ⟨rfl, Hb1.out⟩
end Go.Proofs.Ytheafcfbahdcfaa
