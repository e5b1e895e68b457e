/- What a round of the loop of join.Merge comes to: plain laws. -/
import Derived.Test.YtghaffafglfdlaaMeX
namespace Go.Proofs.Ytghaffafglfdlaa
open Go.RowKit

/-- How long a slice is. -/
def lenV : Value → Nat
  | .slice _ n _ => n
  | _ => 0

theorem step_facts {ra rb : List RowM} {i k : Nat} {x y : RowM} {a' b' : List RowM} {l r : Int} (hda : ra.drop i = x :: a') (hdb : rb.drop k = y :: b') (hoa : Ord ra l) (hob : Ord rb r)
    (hra : ∀ z ∈ ra, ∀ v ∈ z, rightV v = true) (hrb : ∀ z ∈ rb, ∀ v ∈ z, rightV v = true) {vx vy : Va} (hvx : colAt x l = vx) (hvy : colAt y r = vy) {m m' : Nat} (hm : runN (ra.drop i) l = m) (hm' : runN (rb.drop k) r = m') :
    0 < m ∧ m ≤ ra.length - i ∧ 0 < m' ∧ m' ≤ rb.length - k ∧
    (vx.k = 0 ∨ (vy.k ≠ 0 ∧ cmpVa vx vy < 0) → nested (ra.drop i) (rb.drop k) l r = nested (ra.drop (i + m)) (rb.drop k) l r) ∧
    (vx.k ≠ 0 → (vy.k = 0 ∨ ¬ cmpVa vx vy < 0) → cmpVa vx vy ≠ 0 → nested (ra.drop i) (rb.drop k) l r = nested (ra.drop i) (rb.drop (k + m')) l r) ∧
    (vx.k ≠ 0 → cmpVa vx vy = 0 → nested (ra.drop i) (rb.drop k) l r = (((ra.drop i).take m).flatMap fun p => ((rb.drop k).take m').map (p ++ ·)) ++ nested (ra.drop (i + m)) (rb.drop (k + m')) l r) := by
  have h1 : Ord (x :: a') l := by rw [← hda]; exact hoa.drop i
  have h2 : Ord (y :: b') r := by rw [← hdb]; exact hob.drop k
  have h3 : ∀ z ∈ x :: a', ∀ v ∈ z, rightV v = true := fun z hz => hra z (List.mem_of_mem_drop (by rw [hda]; exact hz))
  have h4 : ∀ z ∈ y :: b', ∀ v ∈ z, rightV v = true := fun z hz => hrb z (List.mem_of_mem_drop (by rw [hdb]; exact hz))
  have h5 := runN_le (ra.drop i) l
  have h6 := runN_le (rb.drop k) r
  rw [List.length_drop] at h5 h6
  have e1 : ra.drop (i + m) = (ra.drop i).drop m := by rw [List.drop_drop]
  have e2 : rb.drop (k + m') = (rb.drop k).drop m' := by rw [List.drop_drop]
  subst hvx hvy
  rw [e1, e2, hda, hdb]
  rw [hm] at h5
  rw [hm'] at h6
  rw [hda] at hm
  rw [hdb] at hm'
  subst hm hm'
  exact ⟨runN_pos, h5, runN_pos, h6, fun h => merge_a h2 h, fun h7 h8 h9 => merge_b h1 h7 h8 h9, fun h7 h8 => merge_both h1 h2 h3 h4 h7 h8⟩

theorem five_ways (k1 k2 C : Int) (h : C = 0 → k1 = k2) : k1 = 0 ∨ (k1 ≠ 0 ∧ k2 ≠ 0 ∧ C < 0) ∨ (k1 ≠ 0 ∧ k2 = 0 ∧ C ≠ 0) ∨ (k1 ≠ 0 ∧ k2 ≠ 0 ∧ ¬ C < 0 ∧ C ≠ 0) ∨ (k1 ≠ 0 ∧ k2 ≠ 0 ∧ C = 0) := by
  by_cases h1 : k1 = 0
  · exact .inl h1
  · by_cases h2 : k2 = 0
    · exact .inr (.inr (.inl ⟨h1, h2, fun h3 => h1 ((h h3).trans h2)⟩))
    · by_cases h3 : C = 0
      · exact .inr (.inr (.inr (.inr ⟨h1, h2, h3⟩)))
      · by_cases h4 : C < 0
        · exact .inr (.inl ⟨h1, h2, h4⟩)
        · exact .inr (.inr (.inr (.inl ⟨h1, h2, h4, h3⟩)))

theorem cmpVa_k {x y : Va} (h : cmpVa x y = 0) : x.k = y.k := by rw [(cmpVa_zero x y).1 h]

theorem Rows.drop {w : World} {hs : List Value} {rs : List RowM} (h : Rows w hs rs) (i : Nat) : Rows w (hs.drop i) (rs.drop i) :=
  ⟨by rw [List.length_drop, List.length_drop, h.len], fun k r hk => by
    rw [List.getElem?_drop] at hk ⊢
    exact h.at_ (i + k) r hk⟩
theorem Rd.skip {w : World} {b o : Nat} {xs : List Value} (h : Rd w (some ⟨b, o, none⟩) xs) (m : Nat) : Rd w (some ⟨b, o + m, none⟩) (xs.drop m) := fun hn => by
  obtain ⟨b', o', e, hr⟩ := h (fun e => hn (by rw [e, List.drop_nil]))
  cases e
  exact ⟨_, _, rfl, fun j v hv => by
    rw [List.getElem?_drop] at hv
    rw [Nat.add_assoc]
    exact hr _ _ hv⟩

theorem Rd.ahead {w : World} {b o i m n ca : Nat} {xs : List Value} (h : Rd w (some ⟨b, o, none⟩) (xs.drop i)) (hl : xs.length = n) (hca : n - i ≤ ca) : Rd w (if ca = m then some ⟨b, o, none⟩ else some ⟨b, o + m, none⟩) (xs.drop (i + m)) := by
  split
  · rw [List.drop_eq_nil_of_le (by omega)]
    exact Rd.nil _ _
  · rw [← List.drop_drop]
    exact h.skip m

/-- The row at q of those from i on. -/
theorem row_ahead {w : World} {hs : List Value} {rs : List RowM} {b o i q m : Nat} (hR : Rows w hs rs) (hA : Rd w (some ⟨b, o, none⟩) (hs.drop i)) (hq : q < m) (hm : m ≤ rs.length - i) :
    ∃ x E d, ((rs.drop i).take m)[q]? = some x ∧ x ∈ rs ∧ w.cell? ⟨b, o + q, none⟩ = some (.slice E x.length d) ∧ x.length ≤ d ∧ d ≤ maxLen ∧ Rd w E (rcells x) ∧ ∀ v ∈ x, v.ok := by
  have hl : i + q < rs.length := by omega
  obtain ⟨E, d, h1, h2, h3, h4, h5⟩ := hR.at_ (i + q) rs[i + q] (List.getElem?_eq_getElem hl)
  have hdl : (hs.drop i)[q]? = some (.slice E rs[i + q].length d) := by rw [List.getElem?_drop]; exact h1
  obtain ⟨b', o', e, hr⟩ := hA (fun e => by rw [e] at hdl; simp at hdl)
  cases e
  exact ⟨rs[i + q], E, d, by rw [List.getElem?_take_of_lt hq, List.getElem?_drop]; exact List.getElem?_eq_getElem hl, List.getElem_mem hl, hr q _ hdl, h2, h3, h4, h5⟩

theorem nested_nil_right (a : List RowM) (l r : Int) : nested a [] l r = [] := nested_none fun _ _ _ hq => by cases hq

/-- Rows of XS, each with all of YS. -/
def allPairs (XS YS : List RowM) : List RowM := XS.flatMap fun p => YS.map (p ++ ·)
theorem allPairs_len (YS : List RowM) : ∀ XS : List RowM, (allPairs XS YS).length = XS.length * YS.length
  | [] => by simp [allPairs]
  | x :: XS => by
    have ih := allPairs_len YS XS
    unfold allPairs at *
    rw [List.flatMap_cons, List.length_append, List.length_map, ih, List.length_cons, Nat.add_mul]
    omega
theorem take_snoc {α : Type} {l : List α} {q : Nat} {x : α} (h : l[q]? = some x) : l.take (q + 1) = l.take q ++ [x] := by
  rw [List.take_add_one, h]
  rfl
theorem allPairs_snoc (YS : List RowM) {XS : List RowM} {q : Nat} {x : RowM} (h : XS[q]? = some x) : allPairs (XS.take (q + 1)) YS = allPairs (XS.take q) YS ++ YS.map (x ++ ·) := by
  rw [take_snoc h]
  unfold allPairs
  rw [List.flatMap_append, List.flatMap_cons, List.flatMap_nil, List.append_nil]

/-- Four boxes made, one behind the other. -/
theorem box4 (w : World) (o2 o3 o4 : Obj) (xs : List Value) (t : TypeId) : Blk ((((w.alloc (.cells xs.toArray t)).alloc o2).alloc o3).alloc o4).drew w.heap.size t xs := ((((Blk.new w t xs.toArray).alloc o2).alloc o3).alloc o4)
theorem box3 (w : World) (o1 o3 o4 : Obj) (xs : List Value) (t : TypeId) : Blk ((((w.alloc o1).alloc (.cells xs.toArray t)).alloc o3).alloc o4).drew (w.heap.size + 1) t xs := by
  have := ((Blk.new (w.alloc o1) t xs.toArray).alloc o3).alloc o4
  rwa [World.size_alloc] at this
theorem box2 (w : World) (o1 o2 o4 : Obj) (xs : List Value) (t : TypeId) : Blk ((((w.alloc o1).alloc o2).alloc (.cells xs.toArray t)).alloc o4).drew (w.heap.size + 1 + 1) t xs := by
  have := (Blk.new ((w.alloc o1).alloc o2) t xs.toArray).alloc o4
  rwa [World.size_alloc, World.size_alloc] at this
theorem box1 (w : World) (o1 o2 o3 : Obj) (xs : List Value) (t : TypeId) : Blk ((((w.alloc o1).alloc o2).alloc o3).alloc (.cells xs.toArray t)).drew (w.heap.size + 1 + 1 + 1) t xs := by
  have := Blk.new (((w.alloc o1).alloc o2).alloc o3) t xs.toArray
  rwa [World.size_alloc, World.size_alloc, World.size_alloc] at this
end Go.Proofs.Ytghaffafglfdlaa
