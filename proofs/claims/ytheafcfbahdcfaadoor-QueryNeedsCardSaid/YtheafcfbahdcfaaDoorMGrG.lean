/- Walks: kinds, tables' places: the program's. Walks: a table's place: the program's. The walk of query.named: whether a text is a table's name. Rows of numbers. -/
import Derived.Test.YtheafcfbahdcfaaDoorMGrC
import Derived.Test.YtheafcfbahdcfaaDoorMGrF
import Derived.Test.YtheafcfbahdcfaaDoorMGrD
import Derived.Test.YtheafcfbahdcfaaDoorMGrA
import Derived.Test.YtheafcfbahdcfaaDoorProg
namespace Go.Proofs.YtheafcfbahdcfaaDoor
set_option linter.unusedVariables false
set_option linter.unusedSimpArgs false
open Go.RowKit

attribute [local go_sem ↓] Go.wp_at_zero Go.wp_at_succ

set_option maxRecDepth 100000 in
theorem qright_any (k : Int) (w : World) : Calls Tryd.prog 32 #[.int .u8 k] w fun e w' => e = .returned (.bool (kindT k)) ∧ w = w' := by
  by_cases h1 : k = 1
  · subst h1
    go_enter Tryd.func32, Tryd.ntmps32
    go_wp2_with fail
    go_ret
    exact ⟨rfl, rfl⟩
  · by_cases h2 : k = 2
    · subst h2
      go_enter Tryd.func32, Tryd.ntmps32
      go_wp2_with fail
      go_ret
      exact ⟨rfl, rfl⟩
    · by_cases h3 : k = 3
      · subst h3
        go_enter Tryd.func32, Tryd.ntmps32
        go_wp2_with fail
        go_ret
        exact ⟨rfl, rfl⟩
      · have hk : kindT k = false := by unfold kindT; exact decide_eq_false (by omega)
        rw [hk]
        have e1 : (k == 1) = false := by rw [beq_eq_false_iff_ne]; exact h1
        have e2 : (k == 2) = false := by rw [beq_eq_false_iff_ne]; exact h2
        have e3 : (k == 3) = false := by rw [beq_eq_false_iff_ne]; exact h3
        clear hk
        go_enter Tryd.func32, Tryd.ntmps32
        go_wp2_with fail
        go_ret
        exact ⟨rfl, rfl⟩

set_option maxRecDepth 100000 in
theorem qnot_any (k : Int) (w : World) : Calls Tryd.prog 31 #[.int .u8 k] w fun e w' => e = .returned (.bool (!kindT k)) ∧ w = w' := by
  have hr := Lib.hid (qright_any k w)
  go_enter Tryd.func31, Tryd.ntmps31
  go_wp2_with fail
  refine hr.out.mono ?_
  rintro e w1 ⟨rfl, rfl⟩
  go_wp2_with fail
  go_ret
  exact ⟨rfl, rfl⟩

theorem Rd.kind {w : World} {A : Option Addr} {l : List Int} (h : Rd w A (kcells l)) {j : Nat} (hj : j < l.length) : ∃ b o, A = some ⟨b, o, none⟩ ∧ w.cell? ⟨b, o + j, none⟩ = some (.int .u8 l[j]) := by
  obtain ⟨b, o, e, _, _, c⟩ := h.get (k := j) (by rw [kcells_len]; exact hj)
  refine ⟨b, o, e, ?_⟩
  rw [c]
  unfold kcells
  rw [List.getElem_map]

set_option maxHeartbeats 4000000 in
set_option maxRecDepth 100000 in
theorem qindex_any (l : List Int) (L : Option Addr) (n c : Nat) (w : World) (hl : l.length = n) (hL : Rd w L (kcells l)) (hn : n ≤ 1000000) :
    Calls Tryd.prog 52 #[.slice L n c, .func (Fn.func 31) #[] #[]] w fun e w' => (∃ i : Int, e = .returned (.int .i64 i) ∧ (0 ≤ i ↔ l.all kindT = false)) ∧ w = w' := by
  have Hl := Lib.hid hl
  have HL := Lib.hid hL
  have Hr := Lib.hid (fun k => qnot_any k w)
  obtain ⟨R, hRR⟩ : ∃ R, R = l.all kindT := ⟨_, rfl⟩
  rw [← hRR]
  have HRR := Lib.hid hRR
  clear hl hL hRR
  go_enter Tryd.func52, Tryd.ntmps52
  go_wp2_with fail
  go_loopw [8] (fun vi wr => ∃ j : Nat, vi = .int .i64 j ∧ j ≤ n ∧ Hid ((l.take j).all kindT = true) ∧ Hid (wr = w)) (fun vi _ => n - (intOf vi).toNat)
  case atStart => exact ⟨0, rfl, by omega, rfl, rfl⟩
  case round =>
    obtain ⟨j, rfl, hj, Hall, Hw⟩ := hrel
    obtain rfl := Hw.out.symm
    by_cases hjn : j < n
    · have hjI : (j : Int) < (n : Int) := by omega
      have hjI0 : (0 : Int) ≤ (j : Int) := by omega
      have hjl : j < l.length := by rw [Hl.out]; exact hjn
      obtain ⟨b, o, rfl, c0⟩ := HL.out.kind hjl
      have hx := Hr.out l[j]
      have Htk := Lib.hid (List.take_succ_eq_append_getElem hjl)
      have Hmm := Lib.hid (List.getElem_mem hjl)
      generalize l[j] = x at *
      cases hR : kindT x
      · rw [hR] at hx
        have Hx := Lib.hid hx
        have HR : Hid (l.all kindT = false) := by
          show _ = _
          rw [List.all_eq_false]
          exact ⟨_, Hmm.out, by rw [hR]; decide⟩
        clear hx hR
        go_wp2_with fail
        refine Hx.out.mono ?_
        rintro e w1 ⟨rfl, rfl⟩
        go_wp2_with fail
        go_ret
        exact ⟨⟨j, rfl, ⟨fun _ => HRR.out.trans HR.out, fun _ => by omega⟩⟩, rfl⟩
      · rw [hR] at hx
        have Hx := Lib.hid hx
        have HR := Lib.hid hR
        clear hx hR
        go_wp2_with fail
        refine Hx.out.mono ?_
        rintro e w1 ⟨rfl, rfl⟩
        go_wp2_with fail
        go_roundw
        case rel => exact ⟨j + 1, by go_num, by omega, (by show _ = _; rw [Htk.out, List.all_append, Hall.out]; simp [HR.out]), trivial⟩
        case measure => simp [intOf]; omega
    · have HR : Hid (l.all kindT = true) := by
        have := Hall.out
        rw [List.take_of_length_le (by rw [Hl.out]; omega)] at this
        exact this
      go_wp2_with fail
      go_ret
      exact ⟨⟨-1, rfl, by rw [HRR.out, HR.out]; simp⟩, rfl⟩

set_option maxRecDepth 100000 in
theorem qconts_any (l : List Int) (L : Option Addr) (n c : Nat) (w : World) (hl : l.length = n) (hL : Rd w L (kcells l)) (hn : n ≤ 1000000) :
    Calls Tryd.prog 30 #[.slice L n c, .func (Fn.func 31) #[] #[]] w fun e w' => e = .returned (.bool (!l.all kindT)) ∧ w = w' := by
  have hi := Lib.hid (qindex_any l L n c w hl hL hn)
  clear hl hL
  go_enter Tryd.func30, Tryd.ntmps30
  go_wp2_with fail
  refine hi.out.mono ?_
  rintro e w1 ⟨⟨i, rfl, hR⟩, rfl⟩
  cases hA : l.all kindT
  · have h0 : 0 ≤ i := hR.2 hA
    clear hR hi
    have HA := Lib.hid hA
    clear hA
    go_wp2_with fail
    go_ret
    exact ⟨by rw [HA.out]; rfl, rfl⟩
  · have h0 : ¬ 0 ≤ i := fun h => by rw [hR.1 h] at hA; cases hA
    have hd := decide_eq_false h0
    clear hR hi
    have HA := Lib.hid hA
    clear hA
    go_wp2_with fail
    go_ret
    exact ⟨by rw [HA.out]; rfl, rfl⟩
end Go.Proofs.YtheafcfbahdcfaaDoor
namespace Go.Proofs.YtheafcfbahdcfaaDoor
set_option linter.unusedVariables false
set_option linter.unusedSimpArgs false
open Go.RowKit

attribute [local go_sem ↓] Go.wp_at_zero Go.wp_at_succ

/-- A table as it lies: its kinds' row, and what room this has. -/
structure Th where
  t : Tb
  a : Option Addr
  c : Nat
namespace Th
def cells (h : Th) : List Value := [.string (St8 h.t.name), .slice h.a h.t.kinds.length h.c]
def agg (h : Th) : Value := .agg #[.string (St8 h.t.name), .slice h.a h.t.kinds.length h.c]
end Th
def thc (l : List Th) : List Value := l.flatMap Th.cells
theorem thc_len : ∀ r : List Th, (thc r).length = r.length * 2
  | [] => rfl
  | v :: r => by
    have := thc_len r
    unfold thc at *
    rw [List.flatMap_cons, List.length_append, this, List.length_cons]
    show 2 + _ = _
    omega
theorem thc_get : ∀ (r : List Th) (j k : Nat) (hj : j < r.length), k < 2 → (thc r)[j * 2 + k]? = (r[j]).cells[k]?
  | v :: r, 0, k, _, hk => by
    unfold thc
    rw [List.flatMap_cons, List.getElem?_append_left (by show _ < 2; omega)]
    simp
  | v :: r, j + 1, k, hj, hk => by
    have h := thc_get r j k (by simpa using hj) hk
    unfold thc at *
    rw [List.flatMap_cons, List.getElem?_append_right (by show 2 ≤ _; omega), List.getElem_cons_succ, ← h]
    congr 1
    show (j + 1) * 2 + k - 2 = _
    omega
theorem Rd.table {w : World} {A : Option Addr} {l : List Th} (h : Rd w A (thc l)) {j : Nat} (hj : j < l.length) :
    ∃ b o, A = some ⟨b, o, none⟩ ∧ w.cell? ⟨b, o + j * 2, none⟩ = some (.string (St8 l[j].t.name)) ∧ w.cell? ⟨b, o + j * 2 + 1, none⟩ = some (.slice l[j].a l[j].t.kinds.length l[j].c) := by
  obtain ⟨b, o, e, hr⟩ := h (by intro e; have := congrArg List.length e; rw [thc_len, List.length_nil] at this; omega)
  exact ⟨b, o, e, hr (j * 2) _ (thc_get l j 0 hj (by omega)), hr (j * 2 + 1) _ (thc_get l j 1 hj (by omega))⟩

set_option maxHeartbeats 4000000 in
set_option maxRecDepth 100000 in
theorem find1_any (t : Th) (s : List UInt8) (pb : Nat) (w : World) (hp : w.cell? ⟨pb, 0, none⟩ = some (.string (St8 s))) (hb : pb < w.heap.size) :
    Calls Tryd.prog 41 #[t.agg, .pointer (some ⟨pb, 0, none⟩)] w fun e w' => e = .returned (.bool (decide (t.t.name = s))) ∧ Below w.heap.size w w' := by
  obtain ⟨⟨nm, kn⟩, a, c⟩ := t
  have hb0 : Hid (Below w.heap.size w (w.alloc (.cells #[.string (St8 nm), .slice a kn.length c] 44))) := (Below.refl _ _).alloc (Nat.le_refl _) _
  have hp2 : (w.alloc (.cells #[.string (St8 nm), .slice a kn.length c] 44)).cell? ⟨pb, 0, none⟩ = some (.string (St8 s)) := (hb0.out.cell (p := ⟨pb, 0, none⟩) hb).trans hp
  have k0 := (Blk.new w 44 #[.string (St8 nm), .slice a kn.length c]).cell 0
  simp only [List.getElem?_cons_zero] at k0
  have hq : ((St8 nm).toList == (St8 s).toList) = decide (nm = s) := by
    rw [St8_list, St8_list]
    by_cases e : nm = s <;> simp [e]
  show Calls Tryd.prog 41 #[.agg #[.string (St8 nm), .slice a kn.length c], .pointer (some ⟨pb, 0, none⟩)] w fun e w' => e = .returned (.bool (decide (nm = s))) ∧ Below w.heap.size w w'
  rw [← hq]
  clear hq hp
  go_enter Tryd.func41, Tryd.ntmps41
  go_wp2_with fail
  go_ret
  exact ⟨rfl, hb0.out⟩

/-- A place as the program tells it. -/
def placeT (l : List Tb) (s : List UInt8) : Int := match findT l s with | some k => (k : Int) | none => -1
theorem findT_at : ∀ (l : List Tb) (s : List UInt8) (j : Nat) (hj : j < l.length), (∀ i (hi : i < j), ¬ (l[i]'(by omega)).name = s) → (l[j]).name = s → findT l s = some j
  | t :: l, s, 0, _, _, h => by
    rw [findT, if_pos (show t.name = s from h)]
  | t :: l, s, j + 1, hj, h1, h => by
    have h0 : ¬ t.name = s := h1 0 (by omega)
    rw [findT, if_neg h0, findT_at l s j (by simpa using hj) (fun i hi => by have := h1 (i + 1) (by omega); simpa using this) (by simpa using h)]
    rfl
theorem findT_no : ∀ (l : List Tb) (s : List UInt8), (∀ i (hi : i < l.length), ¬ (l[i]).name = s) → findT l s = none
  | [], _, _ => rfl
  | t :: l, s, h => by
    have h0 : ¬ t.name = s := h 0 (by simp)
    rw [findT, if_neg h0, findT_no l s (fun i hi => by have := h (i + 1) (by simpa using hi); simpa using this)]
    rfl

set_option maxHeartbeats 4000000 in
set_option maxRecDepth 100000 in
theorem findi_any (s : List UInt8) (pb : Nat) (l : List Th) (L : Option Addr) (n c : Nat) (w : World) (hp : w.cell? ⟨pb, 0, none⟩ = some (.string (St8 s))) (hb : pb < w.heap.size) (hl : l.length = n) (hL : Rd w L (thc l)) (hn : n ≤ 1000000) :
    Calls Tryd.prog 40 #[.slice L n c, .func (Fn.func 41) #[] #[.pointer (some ⟨pb, 0, none⟩)]] w fun e w' => e = .returned (.int .i64 (placeT (l.map Th.t) s)) ∧ Below w.heap.size w w' := by
  have Hl := Lib.hid hl
  have HL := Lib.hid hL
  have Hr := Lib.hid (fun t w' (hw : Below w.heap.size w w') => find1_any t s pb w' ((hw.cell (p := ⟨pb, 0, none⟩) hb).trans hp) (Nat.lt_of_lt_of_le hb hw.size))
  obtain ⟨R, hRR⟩ : ∃ R, R = placeT (l.map Th.t) s := ⟨_, rfl⟩
  rw [← hRR]
  have HRR := Lib.hid hRR
  clear hl hL hp hRR
  go_enter Tryd.func40, Tryd.ntmps40
  go_wp2_with fail
  go_loopw [8] (fun vi wr => ∃ j : Nat, vi = .int .i64 j ∧ j ≤ n ∧ Hid (∀ i (hi : i < l.length), i < j → ¬ (l[i]).t.name = s) ∧ Hid (Below w.heap.size w wr)) (fun vi _ => n - (intOf vi).toNat)
  case atStart => exact ⟨0, rfl, by omega, (fun i _ h => by omega), Below.refl _ _⟩
  case round =>
    obtain ⟨j, rfl, hj, Hall, Hb⟩ := hrel
    by_cases hjn : j < n
    · have hjI : (j : Int) < (n : Int) := by omega
      have hjI0 : (0 : Int) ≤ (j : Int) := by omega
      have hjl : j < l.length := by rw [Hl.out]; exact hjn
      obtain ⟨b, o, rfl, c0, c1⟩ := (HL.out.below Hb.out).table hjl
      have hx := Hr.out l[j] wr Hb.out
      obtain ⟨x, hxe⟩ : ∃ x, x = l[j] := ⟨_, rfl⟩
      rw [← hxe] at c0 c1 hx
      have Hxe := Lib.hid hxe
      clear hxe
      obtain ⟨⟨nm, kn⟩, a, cc⟩ := x
      dsimp only at c0 c1
      have hx2 : Calls Tryd.prog 41 #[.agg #[.string (St8 nm), .slice a kn.length cc], .pointer (some ⟨pb, 0, none⟩)] wr fun e w' => e = .returned (.bool (decide (nm = s))) ∧ Below wr.heap.size wr w' := hx
      clear hx
      by_cases hR : nm = s
      · rw [decide_eq_true hR] at hx2
        have Hx := Lib.hid hx2
        have HR : Hid (R = (j : Int)) := by
          show R = _
          rw [HRR.out]
          unfold placeT
          rw [findT_at (l.map Th.t) s j (by rw [List.length_map]; exact hjl) (fun i hi => by rw [List.getElem_map]; exact Hall.out i (by omega) hi) (by rw [List.getElem_map, ← Hxe.out]; exact hR)]
        clear hx2 hR
        go_wp2_with fail
        refine Hx.out.mono ?_
        rintro e w1 ⟨rfl, hb1⟩
        have Hb1 := Lib.hid (Hb.out.trans (hb1.mono Hb.out.size))
        go_wp2_with fail
        go_ret
        exact ⟨by rw [HR.out]; rfl, Hb1.out⟩
      · rw [decide_eq_false hR] at hx2
        have Hx := Lib.hid hx2
        have HR : Hid (∀ i (hi : i < l.length), i < j + 1 → ¬ (l[i]).t.name = s) := by
          show ∀ _, _
          intro i hi hij
          by_cases e : i = j
          · subst e
            rw [← Hxe.out]
            exact hR
          · exact Hall.out i hi (by omega)
        clear hx2 hR
        go_wp2_with fail
        refine Hx.out.mono ?_
        rintro e w1 ⟨rfl, hb1⟩
        have Hb1 := Lib.hid (Hb.out.trans (hb1.mono Hb.out.size))
        go_wp2_with fail
        go_roundw
        case rel => exact ⟨j + 1, by go_num, by omega, HR, Hb1⟩
        case measure => simp [intOf]; omega
    · have HR : Hid (R = -1) := by
        show R = _
        rw [HRR.out]
        unfold placeT
        rw [findT_no (l.map Th.t) s (fun i hi => by
          rw [List.getElem_map]
          rw [List.length_map] at hi
          exact Hall.out i hi (by rw [Hl.out] at hi; omega))]
      go_wp2_with fail
      go_ret
      exact ⟨by rw [HR.out]; rfl, Hb.out⟩

set_option maxRecDepth 100000 in
theorem find_any (s : List UInt8) (l : List Th) (L : Option Addr) (n c : Nat) (w : World) (hl : l.length = n) (hL : Rd w L (thc l)) (hn : n ≤ 1000000) :
    Calls Tryd.prog 18 #[.slice L n c, .string (St8 s)] w fun e w' => e = .returned (.int .i64 (placeT (l.map Th.t) s)) ∧ Below w.heap.size w w' := by
  have hb0 : Hid (Below w.heap.size w (w.alloc (.cells #[.string (St8 s)] 9))) := (Below.refl _ _).alloc (Nat.le_refl _) _
  have k0 := (Blk.new w 9 #[.string (St8 s)]).cell 0
  simp only [List.getElem?_cons_zero] at k0
  have hi := Lib.hid (findi_any s w.heap.size l L n c _ k0 (by simp) hl (hL.below hb0.out) hn)
  clear hl hL k0
  go_enter Tryd.func18, Tryd.ntmps18
  go_wp2_with fail
  refine hi.out.mono ?_
  rintro e w1 ⟨rfl, hb1⟩
  have Hb1 := Lib.hid (hb0.out.trans (hb1.mono hb0.out.size))
  go_wp2_with fail
  go_ret
  exact ⟨rfl, Hb1.out⟩
end Go.Proofs.YtheafcfbahdcfaaDoor
namespace Go.Proofs.YtheafcfbahdcfaaDoor
set_option linter.unusedVariables false
set_option linter.unusedSimpArgs false
open Go.RowKit

attribute [local go_sem ↓] Go.wp_at_zero Go.wp_at_succ

def nameR (r : Nat) : Bool := decide (97 ≤ r ∧ r ≤ 122) || decide (48 ≤ r ∧ r ≤ 57) || decide (r = 95)
theorem dec_name {l : List UInt8} (h : l ≠ []) : nameR (dec l).1 = nameB (l.getD 0 0) ∧ (nameR (dec l).1 = true → (dec l).2 = 1) := by
  obtain ⟨b, t, rfl⟩ := List.exists_cons_of_ne_nil h
  have hb : b.toNat < 256 := b.toNat_lt
  have e : dec (b :: t) = Lib.decodeN (b :: t).length b.toNat ((b :: t).getD 1 0).toNat ((b :: t).getD 2 0).toNat ((b :: t).getD 3 0).toNat := rfl
  by_cases h1 : b.toNat < 128
  · have e2 : dec (b :: t) = (b.toNat, 1) := by rw [e]; unfold Lib.decodeN; rw [if_pos h1]
    rw [e2]
    exact ⟨rfl, fun _ => rfl⟩
  · have hr : 128 ≤ (dec (b :: t)).1 := by
      rw [e]
      unfold Lib.decodeN
      rw [if_neg h1]
      repeat' split
      all_goals simp only
      all_goals omega
    have f1 : nameR (dec (b :: t)).1 = false := by
      unfold nameR
      rw [decide_eq_false (by omega), decide_eq_false (by omega), decide_eq_false (by omega)]
      rfl
    have f2 : nameB b = false := by
      unfold nameB
      rw [decide_eq_false (by omega), decide_eq_false (by omega), decide_eq_false (by omega)]
      rfl
    rw [f1]
    exact ⟨f2.symm, fun h => by cases h⟩
theorem names_step {s : List UInt8} {p : Nat} (hp : p < s.length) : (s.take (p + 1)).all nameB = ((s.take p).all nameB && nameB ((s.drop p).getD 0 0)) := by
  rw [List.take_succ_eq_append_getElem hp, List.all_append]
  simp [List.getD, List.getElem?_drop, hp]

set_option maxHeartbeats 4000000 in
set_option maxRecDepth 100000 in
theorem named_any (s : List UInt8) (w : World) (hs : s.length ≤ 1000000) :
    Calls Tryd.prog 29 #[.string (St8 s)] w fun e w' => e = .returned (.bool (nameOk s)) ∧ Below w.heap.size w w' := by
  have hz := St8_size s
  have Hz := Lib.hid hz
  obtain ⟨R, hRR⟩ : ∃ R, R = nameOk s := ⟨_, rfl⟩
  rw [← hRR]
  have HRR := Lib.hid hRR
  clear hz hRR
  have Hb0 := Lib.hid ((Below.refl w.heap.size w).alloc (Nat.le_refl _) (.stringIter (St8 s) 0))
  have Hit0 := Lib.hid (World.iter_heap w (St8 s) 0)
  go_enter Tryd.func29, Tryd.ntmps29
  go_wp2_with fail
  go_loopw [4] (fun _ wr => ∃ p : Nat, p ≤ s.length ∧ Hid ((s.take p).all nameB = true) ∧ Hid (wr.heap[w.heap.size]? = some (.stringIter (St8 s) p)) ∧ Hid (Below w.heap.size w wr)) (fun _ wr => s.length - wr.iterPos w.heap.size)
  case atStart => exact ⟨0, by omega, rfl, Hit0, Hb0⟩
  case round =>
    clear Hb0 Hit0
    obtain ⟨p, hps, Hall, Hit, Hb⟩ := hrel
    by_cases hp : p < s.length
    · have hnx := fun ty => Lib.run_next_any_at (P := Tryd.prog) wr w.heap.size (St8 s) p ty Hit.out (by rw [Hz.out]; exact hp)
      rw [dec_at] at hnx
      have hne : s.drop p ≠ [] := by
        intro e
        rw [List.drop_eq_nil_iff] at e
        omega
      have hdb := dec_bounds _ hne
      have hdr := dec_rune (s.drop p)
      obtain ⟨hn1, hn2⟩ := dec_name hne
      rw [List.length_drop] at hdb
      have hst := names_step hp
      rw [Hall.out, Bool.true_and, ← hn1] at hst
      have hbad : nameR (dec (s.drop p)).1 = false → R = false := by
        intro h
        rw [hn1] at h
        rw [HRR.out]
        unfold nameOk
        have : s.all nameB = false := by
          rw [List.all_eq_false]
          refine ⟨s[p], List.getElem_mem hp, ?_⟩
          rw [show (s.drop p).getD 0 0 = s[p] from by simp [List.getD, List.getElem?_drop, hp]] at h
          rw [h]; decide
        rw [this]; rfl
      clear hn1
      generalize dec (s.drop p) = D at *
      obtain ⟨dr, dw⟩ := D
      dsimp only at hnx hdb hdr hn2 hst hbad
      have hit2 := Lib.iterAt_heap wr w.heap.size (St8 s) p (p + dw) Hit.out
      have hb2 := Lib.below_iterAt Hb.out (Nat.le_refl _) (St8 s) (p + dw)
      have hpos := iterPos_at Hit.out
      have hpos2 := iterPos_at hit2
      clear hne
      generalize wr.iterAt w.heap.size (St8 s) (p + dw) = wi at *
      have Hit2 := Lib.hid hit2
      have Hb2 := Lib.hid hb2
      clear hb2 hit2 Hb Hit
      have hg : Hid (nameR dr = true → dw = 1 ∧ (s.take (p + 1)).all nameB = true) := fun h => ⟨hn2 h, by rw [hst]; exact h⟩
      have Hbad := Lib.hid hbad
      clear hn2 hst hbad
      by_cases a1 : (dr : Int) < 97
      · by_cases a3 : (dr : Int) < 48
        · have a5 : ¬ (dr : Int) = 95 := by omega
          have hn : nameR dr = false := by unfold nameR; simp; omega
          have HR := Lib.hid (Hbad.out hn)
          clear hn hg Hbad
          go_wp2_with fail
          go_ret
          exact ⟨by rw [HR.out]; rfl, Hb2.out⟩
        · by_cases a4 : 57 < (dr : Int)
          · by_cases a5 : (dr : Int) = 95
            · obtain rfl : dr = 95 := by omega
              have hn : nameR 95 = true := rfl
              obtain ⟨rfl, hall2⟩ := hg.out hn
              have Hall2 := Lib.hid hall2
              clear hn hall2 hg Hbad
              go_wp2_with fail
              go_roundw
              case rel => exact ⟨p + 1, by omega, Hall2, Hit2, Hb2⟩
              case measure => rw [hpos, hpos2]; omega
            · skip
              have hn : nameR dr = false := by unfold nameR; simp; omega
              have HR := Lib.hid (Hbad.out hn)
              clear hn hg Hbad
              go_wp2_with fail
              go_ret
              exact ⟨by rw [HR.out]; rfl, Hb2.out⟩
          · skip
            have hn : nameR dr = true := by unfold nameR; simp; omega
            obtain ⟨rfl, hall2⟩ := hg.out hn
            have Hall2 := Lib.hid hall2
            clear hn hall2 hg Hbad
            go_wp2_with fail
            go_roundw
            case rel => exact ⟨p + 1, by omega, Hall2, Hit2, Hb2⟩
            case measure => rw [hpos, hpos2]; omega
      · by_cases a2 : 122 < (dr : Int)
        · have a3 : ¬ (dr : Int) < 48 := by omega
          have a4 : 57 < (dr : Int) := by omega
          have a5 : ¬ (dr : Int) = 95 := by omega
          have hn : nameR dr = false := by unfold nameR; simp; omega
          have HR := Lib.hid (Hbad.out hn)
          clear hn hg Hbad
          go_wp2_with fail
          go_ret
          exact ⟨by rw [HR.out]; rfl, Hb2.out⟩
        · skip
          have hn : nameR dr = true := by unfold nameR; simp; omega
          obtain ⟨rfl, hall2⟩ := hg.out hn
          have Hall2 := Lib.hid hall2
          clear hn hall2 hg Hbad
          go_wp2_with fail
          go_roundw
          case rel => exact ⟨p + 1, by omega, Hall2, Hit2, Hb2⟩
          case measure => rw [hpos, hpos2]; omega
    · have hnx := fun ty => Lib.run_next_end_at (P := Tryd.prog) wr w.heap.size (St8 s) p ty Hit.out (by rw [Hz.out]; exact hp)
      obtain rfl : p = s.length := by omega
      have hzI := Hz.out
      have hall := Hall.out
      rw [List.take_length] at hall
      have hr : R = decide (1 ≤ s.length ∧ s.length ≤ 20) := by
        rw [HRR.out]; unfold nameOk; rw [hall, Bool.true_and]
      have HR := Lib.hid hr
      clear hall hr HRR Hall
      by_cases c1 : 1 ≤ (s.length : Int)
      · by_cases c2 : (s.length : Int) ≤ 20
        · go_wp2_with fail
          go_ret
          exact ⟨by rw [HR.out, decide_eq_true (by omega)]; rfl, Hb.out⟩
        · go_wp2_with fail
          go_ret
          exact ⟨by rw [HR.out, decide_eq_false (by omega)]; rfl, Hb.out⟩
      · go_wp2_with fail
        go_ret
        exact ⟨by rw [HR.out, decide_eq_false (by omega)]; rfl, Hb.out⟩
end Go.Proofs.YtheafcfbahdcfaaDoor
namespace Go.Proofs.YtheafcfbahdcfaaDoor
set_option linter.unusedVariables false
set_option linter.unusedSimpArgs false
open Go.RowKit

def icl (l : List Int) : List Value := l.map (Value.int .i64)
theorem icl_len (l : List Int) : (icl l).length = l.length := List.length_map _
theorem icl_append (l m : List Int) : icl (l ++ m) = icl l ++ icl m := List.map_append
theorem icl_one (l : List Int) : ∀ u ∈ icl l, u.oneCell' = true := by
  intro u hu
  obtain ⟨x, _, rfl⟩ := List.mem_map.1 hu
  rfl
theorem icl_get {l : List Int} {j : Nat} (h : j < l.length) : (icl l)[j]? = some (.int .i64 l[j]) := by
  unfold icl
  rw [List.getElem?_map, List.getElem?_eq_getElem h]
  rfl
theorem Eint' : ElemT Tryd.prog 25 3 1 8 (.int .i64 0) := ElemT.mk' (by kernel_rfl) (by kernel_rfl) rfl (by omega)
theorem icl_snoc (l : List Int) (x : Int) : icl (l ++ [x]) = icl l ++ [.int .i64 x] := icl_append l [x]
theorem Own.shrink {w : World} {base : Nat} {e : TypeId} {A : Option Addr} {n c : Nat} {xs : List Value} (h : Own w base e 1 A n c xs) {m : Nat} (hm : m ≤ n) (hA : A ≠ none) : Own w base e 1 A m c (xs.take m) := by
  have hl := h.1
  refine ⟨by rw [List.length_take, hl]; omega, ?_⟩
  rcases h.2 with ⟨hv, h0⟩ | ⟨g, cap, cur, hv, hg, hh, hnc, hcm, hcs, ht⟩
  · injection hv with h1 h2 h3
    exact absurd h1 hA
  · injection hv with h1 h2 h3
    subst h1; subst h3
    refine .inr ⟨g, c, cur, rfl, hg, hh, by omega, hcm, hcs, ?_⟩
    rw [← ht, List.take_take, Nat.mul_one, Nat.mul_one, Nat.min_eq_left hm]
end Go.Proofs.YtheafcfbahdcfaaDoor
