/- Walks: slices.SortFunc at spans. -/
import Derived.Test.YtjfpflnijkokaaaSwD
import Derived.Test.YtjfpflnijkokaaaLayS
import Derived.Shelf.SlSortCmp.NoneTotal
import Derived.Sort.OwnSorted
import Derived.Shelf.Abstract
namespace Go.Proofs.Ytjfpflnijkokaaa
open Go.RowKit Go.Shelf

attribute [local go_sem ↓] Go.wp_at_zero Go.wp_at_succ

/-! ### Rows of several cells each, sorted in place -/
theorem holdsV {w : World} {g : Nat} {cur : Array Value} {e : TypeId} {xs : Array Value} (hb : w.heap[g]? = some (.cells cur e (0, 0))) (ht : cur.toList.take xs.size = xs.toList) : Go.Sort.Holds id w g 0 xs := by
  intro j hj
  refine ⟨?_, by simp [World.frozen?, hb]⟩
  have h1 : (cur.toList.take xs.size)[j]? = xs.toList[j]? := by rw [ht]
  rw [List.getElem?_take_of_lt hj] at h1
  simp only [World.cell?, hb, Nat.zero_add]
  simp only [Option.isSome_none, Bool.false_eq_true, if_false]
  rw [← Array.getElem?_toList, h1]
  simp [hj]
theorem heapV {w : World} {g n : Nat} {os : Array Obj} {cur : Array Value} {e : TypeId} {fr : Nat × Nat} (d : Array Value) (hb : w.heap[g]? = some (.cells cur e fr)) :
    (Go.Sort.grow (Go.Sort.putRow id (Sort.ahead w n) g 0 d) os).heap[g]? = some (.cells (Go.Sort.putCells id 0 d cur) e fr) := by
  have hg : g < w.heap.size := (Array.getElem?_eq_some_iff.1 hb).1
  rw [Go.Sort.heap_grow_old _ _ (by simpa using hg)]
  simp [Go.Sort.putRow, Go.Sort.mapBlock, Sort.ahead, Array.getElem?_modify, hb, Go.Sort.onCells]
theorem grownV {w : World} {g n : Nat} {os : Array Obj} (d : Array Value) : w.grownBy (Go.Sort.grow (Go.Sort.putRow id (Sort.ahead w n) g 0 d) os) (some g) := by
  refine ⟨rfl, rfl, rfl, by simp, fun k hk hne => ?_⟩
  rw [Go.Sort.heap_grow_old _ _ (by simpa using hk)]
  have : g ≠ k := fun e => hne (by rw [e])
  simp [Go.Sort.putRow, Go.Sort.mapBlock, Sort.ahead, Array.getElem?_modify, this]
theorem takeV (cur : Array Value) (ts : Array Value) (h : ts.size ≤ cur.size) : (Go.Sort.putCells id 0 ts cur).toList.take ts.size = ts.toList := by
  apply List.ext_getElem?
  intro j
  by_cases hj : j < ts.size
  · rw [List.getElem?_take_of_lt hj, Array.getElem?_toList]
    simp [Go.Sort.putCells, hj, show j < cur.size by omega]
  · rw [List.getElem?_take_eq_none (by omega), List.getElem?_eq_none (by simp; omega)]
/-- Behind the sort the slice owns the row that was sorted. -/
theorem ownV {w : World} {base g cap n k size : Nat} {e : TypeId} {os : Array Obj} {cur : Array Value} {ts : Array Value} (hk : ts.size = k * size) (hbase : base ≤ g) (hb : w.heap[g]? = some (.cells cur e (0, 0)))
    (h1 : k ≤ cap) (h2 : cap ≤ maxLen) (h3 : cur.size = cap * size) :
    Own (Go.Sort.grow (Go.Sort.putRow id (Sort.ahead w n) g 0 ts) os) base e size (some ⟨g, 0, none⟩) k cap ts.toList := by
  have h4 : k * size ≤ cap * size := Nat.mul_le_mul_right _ h1
  exact ⟨by rw [Array.length_toList, hk], .inr ⟨g, cap, _, rfl, hbase, heapV _ hb, h1, h2, by simp [Go.Sort.putCells, h3], by rw [← hk]; exact takeV cur ts (by omega)⟩⟩

/-! ### Spans that begin in bounds -/
abbrev SpR := { s : SpanM // 0 ≤ s.1 ∧ s.1 ≤ 4096 }
instance : Inhabited SpR := ⟨⟨(0, 0), by decide⟩⟩
def encR (x : SpR) : List Value := [.int .i64 x.1.1, .int .i64 x.1.2]
def cmpR (x y : SpR) : Int := x.1.1 - y.1.1
theorem ltR (x y : SpR) : ltOf cmpR x y = decide (x.1.1 < y.1.1) := by
  unfold ltOf cmpR
  by_cases h : x.1.1 < y.1.1
  · rw [decide_eq_true h, decide_eq_true (by omega)]
  · rw [decide_eq_false h, decide_eq_false (by omega)]
theorem swoR : Go.Sort.SWO (ltOf cmpR) where
  irrefl x := by rw [ltR]; simp
  trans x y z h1 h2 := by rw [ltR] at *; simp at *; omega
  ntrans x y z h1 h2 := by rw [ltR] at *; simp at *; omega
theorem flatR (d : Array SpR) : (Go.Sort.flatK encR 2 d).toList = spc (d.toList.map (·.1)) := by
  apply List.ext_getElem?
  intro t
  by_cases ht : t < d.size * 2
  · have hj : t / 2 < d.size := by omega
    have h := flat_get (fun s : SpanM => [Value.int .i64 s.1, .int .i64 s.2]) 2 (fun _ => rfl) (d.toList.map (·.1)) (t / 2) (d[t / 2]).1 (t % 2) (by simp [hj]) (Nat.mod_lt _ (by omega))
    rw [show t / 2 * 2 + t % 2 = t from by omega] at h
    unfold spc
    rw [h, Array.getElem?_toList, Array.getElem?_eq_getElem (by rw [Go.Sort.size_flatK]; exact ht)]
    have h2 := Go.Sort.get_flatK encR 2 d t ht
    rw [getElem!_pos (Go.Sort.flatK encR 2 d) t (by rw [Go.Sort.size_flatK]; exact ht), getElem!_pos d (t / 2) hj] at h2
    rw [h2]
    unfold encR
    have h3 : t % 2 = 0 ∨ t % 2 = 1 := by omega
    rcases h3 with h3 | h3 <;> rw [h3] <;> rfl
  · rw [List.getElem?_eq_none (by rw [Array.length_toList, Go.Sort.size_flatK]; omega), List.getElem?_eq_none (by rw [spc_len, List.length_map, Array.length_toList]; omega)]

set_option maxHeartbeats 4000000 in
set_option maxRecDepth 100000 in
theorem orc_any (x y : SpR) (W : World) : Calls Try.prog 34 #[.agg #[.int .i64 x.1.1, .int .i64 x.1.2], .agg #[.int .i64 y.1.1, .int .i64 y.1.2]] W fun e w' => e = .returned (.int .i64 (cmpR x y)) ∧ ∃ q os', w' = Go.Sort.grow (W.drewN q) os' := by
  obtain ⟨⟨x1, x2⟩, hx⟩ := x
  obtain ⟨⟨y1, y2⟩, hy⟩ := y
  unfold cmpR
  dsimp only at hx hy ⊢
  have hwr : IntKind.i64.wrap (x1 - y1) = x1 - y1 := by rw [IntKind.wrap_i64]; omega
  go_enter Try.func34, Try.ntmps34
  go_wp2_with fail
  go_ret
  exact ⟨rfl, 0, _, by rw [Go.Sort.alloc_eq_grow, Go.Sort.alloc_eq_grow, Go.Sort.grow_grow]; rfl⟩

theorem sort_any (l : List SpanM) (A : Option Addr) (n c B : Nat) (w : World) (h : Own w B 40 2 A n c (spc l)) (hin : ∀ s ∈ l, 0 ≤ s.1 ∧ s.1 ≤ 4096) (hn : n ≤ 1000000) :
    Calls Try.prog 33 #[.slice A n c, .func (.func 34) #[] #[]] w fun e w' => e = .returned (.tuple #[]) ∧ ∃ l' : List SpanM, l'.Perm l ∧ l'.Pairwise (fun x y => x.1 ≤ y.1) ∧ Own w' B 40 2 A n c (spc l') ∧ w.grownBy w' ((Value.slice A n c).ownBlock) := by
  have hl : l.length = n := by
    have := h.1
    rw [spc_len] at this
    omega
  have hcap := h.cap
  rcases h.lies with ⟨hA, h0, hc0, _⟩ | ⟨g', cur, hA, hb, hlt, hh, hs, ht⟩
  · subst hA
    subst h0
    have hl0 : l = [] := List.eq_nil_of_length_eq_zero hl
    subst hl0
    refine (AnyF.slices_SortFunc_none Try.sortSpan none c _ w).mono ?_
    rintro e w' ⟨rfl, rfl⟩
    exact ⟨rfl, [], List.Perm.refl _, List.Pairwise.nil, h, World.grownBy.refl _ _⟩
  · subst hA
    let d : Array SpR := (l.attachWith _ hin).toArray
    have hd : d.toList.map (·.1) = l := by
      show (l.attachWith _ hin).toArray.toList.map Subtype.val = l
      rw [List.toList_toArray, List.attachWith_map_subtype_val]
    have hds : d.size = n := by rw [← hl, ← hd, List.length_map, Array.length_toList]
    have hf : (Go.Sort.flatK encR 2 d).toList = spc l := by rw [flatR, hd]
    have hH : Go.Sort.HoldsK encR 2 w g' 0 d := holdsV hh (by rw [Go.Sort.size_flatK, hds, hf]; exact ht)
    have eg : ∀ args w, (callFunc 34 args).run Try.prog w = .ok (.enter 34 args) w := enters_of Try.func34 (by kernel_rfl) rfl
    have hcon := AnyQ.slices_SortFunc Try.sortSpan 2 Try.isAgg40 Try.sizeOf40 encR (fun _ => rfl) (fun x v hv => by simp [encR] at hv; rcases hv with rfl | rfl <;> rfl) cmpR swoR 34 #[] g' 0 c d w eg (fun _ _ _ _ x y => orc_any x y _) hH hlt (by omega)
    change Calls Try.prog 33 _ _ _ at hcon
    rw [hds] at hcon
    refine hcon.mono ?_
    rintro e w' ⟨rfl, d', q, os, hp, hsrt, rfl⟩
    have hd's : d'.size = n := by rw [hp.1, hds]
    refine ⟨rfl, d'.toList.map (·.1), ?_, ?_, ?_, grownV _⟩
    · have h1 := hp.2.2
      rw [show d'.extract 0 n = d' from by rw [← hd's]; simp, show d.extract 0 n = d from by rw [← hds]; simp] at h1
      have h2 := h1.map Subtype.val
      rw [hd] at h2
      exact h2
    · rw [List.pairwise_map, List.pairwise_iff_getElem]
      intro i j hi hj hij
      rw [Array.length_toList] at hi hj
      have h1 := hsrt i j (Nat.zero_le _) hij (by omega)
      rw [ltR, getElem!_pos d' j hj, getElem!_pos d' i hi] at h1
      have h2 := of_decide_eq_false h1
      simp only [Array.getElem_toList]
      omega
    · have h1 := ownV (n := q) (os := os) (ts := Go.Sort.flatK encR 2 d') (k := n) (size := 2) (by rw [Go.Sort.size_flatK, hd's]) hb hh hcap.1 hcap.2 hs
      rw [flatR] at h1
      exact h1
end Go.Proofs.Ytjfpflnijkokaaa
