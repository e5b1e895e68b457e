/- A query, and tables, as they lie. -/
import Derived.Test.YtheafcfbahdcfaaDoorMGrG
namespace Go.Proofs.YtheafcfbahdcfaaDoor
set_option linter.unusedVariables false
set_option linter.unusedSimpArgs false
open Go.RowKit

def Jn.cells (x : Jn) : List Value := [.string (St8 x.table), .int .i64 x.left, .int .i64 x.right]
def jnc (l : List Jn) : List Value := l.flatMap Jn.cells
theorem jnc_len : ∀ r : List Jn, (jnc r).length = r.length * 3
  | [] => rfl
  | v :: r => by
    have := jnc_len r
    unfold jnc at *
    rw [List.flatMap_cons, List.length_append, this, List.length_cons]
    show 3 + _ = _
    omega
theorem jnc_get : ∀ (r : List Jn) (j k : Nat) (hj : j < r.length), k < 3 → (jnc r)[j * 3 + k]? = (r[j]).cells[k]?
  | v :: r, 0, k, _, hk => by
    unfold jnc
    rw [List.flatMap_cons, List.getElem?_append_left (by show _ < 3; omega)]
    simp
  | v :: r, j + 1, k, hj, hk => by
    have h := jnc_get r j k (by simpa using hj) hk
    unfold jnc at *
    rw [List.flatMap_cons, List.getElem?_append_right (by show 3 ≤ _; omega), List.getElem_cons_succ, ← h]
    congr 1
    show (j + 1) * 3 + k - 3 = _
    omega
theorem Rd.jn {w : World} {A : Option Addr} {l : List Jn} (h : Rd w A (jnc l)) {j : Nat} (hj : j < l.length) :
    ∃ b o, A = some ⟨b, o, none⟩ ∧ w.cell? ⟨b, o + j * 3, none⟩ = some (.string (St8 l[j].table)) ∧ w.cell? ⟨b, o + j * 3 + 1, none⟩ = some (.int .i64 l[j].left) ∧ w.cell? ⟨b, o + j * 3 + 2, none⟩ = some (.int .i64 l[j].right) := by
  obtain ⟨b, o, e, hr⟩ := h (by intro e; have := congrArg List.length e; rw [jnc_len, List.length_nil] at this; omega)
  exact ⟨b, o, e, hr (j * 3) _ (jnc_get l j 0 hj (by omega)), hr (j * 3 + 1) _ (jnc_get l j 1 hj (by omega)), hr (j * 3 + 2) _ (jnc_get l j 2 hj (by omega))⟩
def Ag.cells (x : Ag) : List Value := [.int .u8 x.op, .int .i64 x.col]
def agc (l : List Ag) : List Value := l.flatMap Ag.cells
theorem agc_len : ∀ r : List Ag, (agc r).length = r.length * 2
  | [] => rfl
  | v :: r => by
    have := agc_len r
    unfold agc at *
    rw [List.flatMap_cons, List.length_append, this, List.length_cons]
    show 2 + _ = _
    omega
theorem agc_get : ∀ (r : List Ag) (j k : Nat) (hj : j < r.length), k < 2 → (agc r)[j * 2 + k]? = (r[j]).cells[k]?
  | v :: r, 0, k, _, hk => by
    unfold agc
    rw [List.flatMap_cons, List.getElem?_append_left (by show _ < 2; omega)]
    simp
  | v :: r, j + 1, k, hj, hk => by
    have h := agc_get r j k (by simpa using hj) hk
    unfold agc at *
    rw [List.flatMap_cons, List.getElem?_append_right (by show 2 ≤ _; omega), List.getElem_cons_succ, ← h]
    congr 1
    show (j + 1) * 2 + k - 2 = _
    omega
theorem Rd.ag {w : World} {A : Option Addr} {l : List Ag} (h : Rd w A (agc l)) {j : Nat} (hj : j < l.length) :
    ∃ b o, A = some ⟨b, o, none⟩ ∧ w.cell? ⟨b, o + j * 2, none⟩ = some (.int .u8 l[j].op) ∧ w.cell? ⟨b, o + j * 2 + 1, none⟩ = some (.int .i64 l[j].col) := by
  obtain ⟨b, o, e, hr⟩ := h (by intro e; have := congrArg List.length e; rw [agc_len, List.length_nil] at this; omega)
  exact ⟨b, o, e, hr (j * 2) _ (agc_get l j 0 hj (by omega)), hr (j * 2 + 1) _ (agc_get l j 1 hj (by omega))⟩
theorem Rd.num {w : World} {A : Option Addr} {l : List Int} (h : Rd w A (icl l)) {j : Nat} (hj : j < l.length) : ∃ b o, A = some ⟨b, o, none⟩ ∧ w.cell? ⟨b, o + j, none⟩ = some (.int .i64 l[j]) := by
  obtain ⟨b, o, e, _, _, c⟩ := h.get (k := j) (by rw [icl_len]; exact hj)
  refine ⟨b, o, e, ?_⟩
  rw [c]
  unfold icl
  rw [List.getElem_map]

/-- A query as it lies: a query's value is a text and six slices. -/
structure Qi (w : World) (q : Qy) (a1 : Option Addr) (n1 : Nat) (a2 : Option Addr) (n2 : Nat) (a3 : Option Addr) (n3 : Nat) (a4 : Option Addr) (n4 : Nat) (a5 : Option Addr) (n5 : Nat) (a6 : Option Addr) (n6 : Nat) : Prop where
  l1 : q.joins.length = n1
  l2 : q.asked.length = n2
  l3 : q.by_.length = n3
  l4 : q.aggs.length = n4
  l5 : q.want.length = n5
  l6 : q.keys.length = n6
  r1 : Rd w a1 (jnc q.joins)
  r2 : Rd w a2 (ncells q.asked)
  r3 : Rd w a3 (icl q.by_)
  r4 : Rd w a4 (agc q.aggs)
  r5 : Rd w a5 (icl q.want)
  r6 : Rd w a6 (kyc q.keys)
theorem Qi.below {w w' : World} {q : Qy} {a1 a2 a3 a4 a5 a6 : Option Addr} {n1 n2 n3 n4 n5 n6 : Nat} (k : Qi w q a1 n1 a2 n2 a3 n3 a4 n4 a5 n5 a6 n6) (hb : Below w.heap.size w w') : Qi w' q a1 n1 a2 n2 a3 n3 a4 n4 a5 n5 a6 n6 :=
  ⟨k.l1, k.l2, k.l3, k.l4, k.l5, k.l6, k.r1.below hb, k.r2.below hb, k.r3.below hb, k.r4.below hb, k.r5.below hb, k.r6.below hb⟩
/-- A row that a literal made. -/
theorem Own.lit (w : World) {B : Nat} (hB : B ≤ w.heap.size) (t : TypeId) (vs : Array Value) (n : Nat) (hn : vs.size = n) (hm : n ≤ maxLen) : Own (w.alloc (.cells vs t)) B t 1 (some ⟨w.heap.size, 0, none⟩) n n vs.toList :=
  ⟨by rw [Array.length_toList, hn, Nat.mul_one], .inr ⟨w.heap.size, n, vs, rfl, hB, Blk.new w t vs, Nat.le_refl _, hm, by rw [hn, Nat.mul_one], by rw [Nat.mul_one, ← hn, ← Array.length_toList, List.take_length]⟩⟩
def ints (l : List Nat) : List Int := l.map fun n : Nat => (n : Int)
theorem ints_len (l : List Nat) : (ints l).length = l.length := List.length_map _
theorem ints_snoc (l : List Nat) (x : Nat) : ints (l ++ [x]) = ints l ++ [(x : Int)] := List.map_append
def tcl (l : List (List UInt8)) : List Value := l.map fun s => .string (St8 s)
theorem tcl_len (l : List (List UInt8)) : (tcl l).length = l.length := List.length_map _
theorem tcl_snoc (l : List (List UInt8)) (s : List UInt8) : tcl (l ++ [s]) = tcl l ++ [.string (St8 s)] := List.map_append
theorem Rd.txt {w : World} {A : Option Addr} {l : List (List UInt8)} (h : Rd w A (tcl l)) {j : Nat} (hj : j < l.length) : ∃ b o, A = some ⟨b, o, none⟩ ∧ w.cell? ⟨b, o + j, none⟩ = some (.string (St8 l[j])) := by
  obtain ⟨b, o, e, _, _, c⟩ := h.get (k := j) (by rw [tcl_len]; exact hj)
  refine ⟨b, o, e, ?_⟩
  rw [c]
  unfold tcl
  rw [List.getElem_map]
/-- Up to 12 of each thing. -/
structure Qy.Few (q : Qy) : Prop where
  frm : q.frm.length ≤ 200
  joins : q.joins.length ≤ 12
  asked : q.asked.length ≤ 60
  by_ : q.by_.length ≤ 12
  aggs : q.aggs.length ≤ 12
  want : q.want.length ≤ 12
  keys : q.keys.length ≤ 12
  texts : ∀ x ∈ q.asked, x.v.s.length ≤ 200
/-- Tables as they lie. -/
structure Tin (w : World) (L : Option Addr) (l : List Th) : Prop where
  rd : Rd w L (thc l)
  kinds : ∀ h ∈ l, Rd w h.a (kcells h.t.kinds)
theorem Tin.below {w w' : World} {L : Option Addr} {l : List Th} (k : Tin w L l) (hb : Below w.heap.size w w') : Tin w' L l :=
  ⟨k.rd.below hb, fun h hh => (k.kinds h hh).below hb⟩
structure FewT (l : List Tb) : Prop where
  len : l.length ≤ 12
  names : ∀ t ∈ l, t.name.length ≤ 1000000
  kinds : ∀ t ∈ l, t.kinds.length ≤ 12

/-! ### Which tables may be -/
theorem findT_first : ∀ (l : List Tb) (s : List UInt8) (k : Nat), findT l s = some k → ∀ i (hi : i < l.length), i < k → ¬ (l[i]).name = s
  | [], _, _, h => by cases h
  | t :: l, s, k, h => by
    rw [findT] at h
    split at h
    · obtain rfl := Option.some.inj h
      intro i _ h2
      omega
    · rename_i e
      obtain ⟨j, hj, rfl⟩ := Option.map_eq_some_iff.1 h
      intro i hi h2
      cases i with
      | zero => exact e
      | succ i => exact findT_first l s j hj i (by simpa using hi) (by omega)
theorem tablesOk_iff (l : List Tb) : tablesOk l = true ↔ (1 ≤ l.length ∧ l.length ≤ 4) ∧ ∀ j (hj : j < l.length), tableOk l[j] = true ∧ ¬ placeT l (l[j]).name < (j : Int) := by
  unfold tablesOk
  rw [Bool.and_eq_true, Bool.and_eq_true, decide_eq_true_iff, decide_eq_true_iff, List.all_eq_true]
  constructor
  · rintro ⟨⟨h1, h2⟩, h3⟩
    refine ⟨h1, fun j hj => ⟨h2 _ (List.getElem_mem hj), ?_⟩⟩
    have hne : findT l (l[j]).name ≠ none := fun e => (findT_none _ _).1 e (List.mem_map.2 ⟨_, List.getElem_mem hj, rfl⟩)
    cases e : findT l (l[j]).name with
    | none => exact absurd e hne
    | some k =>
      obtain ⟨h4, h5⟩ := findT_lt _ _ _ e
      have hkj : k = j := by
        rw [List.getD_eq_getElem?_getD, List.getElem?_eq_getElem h4] at h5
        have h6 : (l.map Tb.name)[k]'(by rw [List.length_map]; exact h4) = (l.map Tb.name)[j]'(by rw [List.length_map]; exact hj) := by
          rw [List.getElem_map, List.getElem_map]
          exact h5
        exact (List.getElem_inj h3).1 h6
      unfold placeT
      rw [e]
      show ¬ (k : Int) < j
      omega
  · rintro ⟨h1, h2⟩
    refine ⟨⟨h1, fun t ht => ?_⟩, ?_⟩
    · obtain ⟨j, hj, rfl⟩ := List.mem_iff_getElem.1 ht
      exact (h2 j hj).1
    · refine List.pairwise_iff_getElem.2 fun i j hi hj hij e => ?_
      rw [List.length_map] at hi hj
      rw [List.getElem_map, List.getElem_map] at e
      have h3 := (h2 j hj).2
      have hne : findT l (l[j]).name ≠ none := fun e => (findT_none _ _).1 e (List.mem_map.2 ⟨_, List.getElem_mem hj, rfl⟩)
      cases e2 : findT l (l[j]).name with
      | none => exact hne e2
      | some k =>
        unfold placeT at h3
        rw [e2] at h3
        have h4 : ¬ (k : Int) < j := h3
        exact findT_first l _ k e2 i hi (by omega) e
theorem own_new {w : World} {base : Nat} {e : TypeId} {size : Nat} {A : Option Addr} {n c : Nat} {xs : List Value} (h : Own w base e size A n c xs) : ∀ k, (Value.slice A n c).ownBlock = some k → k < w.heap.size := fun k hk => (h.lt k hk).2
theorem dj_next {w : World} {base : Nat} {e : TypeId} {size : Nat} {A B A' : Option Addr} {n c m d n' c' : Nat} {ys : List Value} (hB : Own w base e size B m d ys) (hdj : (Value.slice A n c).ownBlock = none ∨ (Value.slice A n c).ownBlock ≠ (Value.slice B m d).ownBlock)
    (hw : (Value.slice A' n' c').ownBlock = (Value.slice A n c).ownBlock ∨ (Value.slice A' n' c').ownBlock = some w.heap.size) : (Value.slice A' n' c').ownBlock = none ∨ (Value.slice A' n' c').ownBlock ≠ (Value.slice B m d).ownBlock := by
  rcases hw with hw | hw
  · rw [hw]; exact hdj
  · refine .inr fun e => ?_
    rw [hw] at e
    exact absurd (own_new hB _ e.symm) (Nat.lt_irrefl _)
theorem dj_swap {a b : Option Nat} (h : a = none ∨ a ≠ b) : b = none ∨ b ≠ a := by
  rcases h with h | h
  · cases b with
    | none => exact .inl rfl
    | some b => exact .inr (by rw [h]; intro e; cases e)
  · exact .inr (Ne.symm h)

/-! ### Which tables are joined -/
theorem joined_bad {l : List Tb} {q : Qy} (h : tablesOk l = false) : joinedE l q = 230 ∧ joinedP l q = [] := by
  have h1 : joinedE l q = 230 := by unfold joinedE; rw [if_pos h]
  exact ⟨h1, by unfold joinedP; rw [h1, if_neg (by decide)]⟩
theorem joined_none {l : List Tb} {q : Qy} (h : tablesOk l = true) (h2 : placesM l (namesM q) = none) : joinedE l q = 231 ∧ joinedP l q = [] := by
  have h1 : joinedE l q = 231 := by unfold joinedE; rw [if_neg (by rw [h]; decide), h2]
  exact ⟨h1, by unfold joinedP; rw [h1, if_neg (by decide)]⟩
theorem joined_twice {l : List Tb} {q : Qy} {p : List Nat} (h : tablesOk l = true) (h2 : placesM l (namesM q) = some p) (h3 : ¬ p.Nodup) : joinedE l q = 232 ∧ joinedP l q = [] := by
  have h1 : joinedE l q = 232 := by unfold joinedE; rw [if_neg (by rw [h]; decide), h2]; exact if_neg h3
  exact ⟨h1, by unfold joinedP; rw [h1, if_neg (by decide)]⟩
theorem joined_good {l : List Tb} {q : Qy} {p : List Nat} (h : tablesOk l = true) (h2 : placesM l (namesM q) = some p) (h3 : p.Nodup) : joinedE l q = 0 ∧ joinedP l q = p := by
  have h1 : joinedE l q = 0 := by unfold joinedE; rw [if_neg (by rw [h]; decide), h2]; exact if_pos h3
  exact ⟨h1, by unfold joinedP; rw [if_pos h1, h2]; rfl⟩
theorem placesM_snoc (l : List Tb) : ∀ (r : List (List UInt8)) (s : List UInt8) (p : List Nat) (k : Nat), placesM l r = some p → findT l s = some k → placesM l (r ++ [s]) = some (p ++ [k])
  | [], s, p, k, h, h2 => by
    obtain rfl : [] = p := Option.some.inj h
    rw [List.nil_append, placesM, h2]
    rfl
  | t :: r, s, p, k, h, h2 => by
    rw [placesM] at h
    cases e : findT l t with
    | none => rw [e] at h; cases h
    | some i =>
      rw [e] at h
      obtain ⟨p1, h1, rfl⟩ := Option.map_eq_some_iff.1 (show (placesM l r).map (i :: ·) = some p from h)
      rw [List.cons_append, placesM, e]
      show (placesM l (r ++ [s])).map _ = _
      rw [placesM_snoc l r s p1 k h1 h2]
      rfl
theorem placesM_none (l : List Tb) : ∀ (r : List (List UInt8)) (j : Nat) (hj : j < r.length), findT l r[j] = none → placesM l r = none
  | t :: r, 0, _, h => by
    have h0 : findT l t = none := h
    rw [placesM, h0]
  | t :: r, j + 1, hj, h => by
    rw [placesM]
    cases findT l t with
    | none => rfl
    | some i =>
      show (placesM l r).map _ = _
      rw [placesM_none l r j (by simpa using hj) (by simpa using h)]
      rfl
theorem ints_mem {l : List Nat} {k : Nat} : (k : Int) ∈ ints l ↔ k ∈ l := by
  unfold ints
  rw [List.mem_map]
  exact ⟨fun ⟨x, h1, h2⟩ => by rwa [Int.ofNat.inj (show (x : Int) = (k : Int) from h2)] at h1, fun h => ⟨k, h, rfl⟩⟩
theorem nodup_snoc {p : List Nat} {k : Nat} : (p ++ [k]).Nodup ↔ p.Nodup ∧ k ∉ p := by
  rw [List.nodup_append]
  constructor
  · rintro ⟨h1, _, h2⟩
    exact ⟨h1, fun h => h2 k h k (by simp) rfl⟩
  · rintro ⟨h1, h2⟩
    exact ⟨h1, by simp, fun a ha b hb e => by
      rw [List.mem_singleton] at hb
      subst hb
      subst e
      exact h2 ha⟩
theorem tabK_len {l : List Tb} (h : ∀ t ∈ l, t.kinds.length ≤ 12) (k : Nat) : (tabK l k).length ≤ 12 := by
  unfold tabK
  rw [List.getD_eq_getElem?_getD]
  cases e : l[k]? with
  | none => exact Nat.zero_le _
  | some t => exact h t (List.mem_of_getElem? e)
theorem flat_snoc (l : List Tb) (p : List Nat) (k : Nat) : ((p ++ [k]).map (tabK l)).flatten.length = (p.map (tabK l)).flatten.length + (tabK l k).length := by
  simp [List.map_append, List.flatten_append]
theorem tabK_at {l : List Th} {k : Nat} (h : k < l.length) : tabK (l.map Th.t) k = (l[k]).t.kinds := by
  unfold tabK
  rw [List.getD_eq_getElem?_getD, List.getElem?_map, List.getElem?_eq_getElem h]
  rfl
end Go.Proofs.YtheafcfbahdcfaaDoor
