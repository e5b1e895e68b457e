/- What a cursor takes from pages one of which is spoilt: a plain law; and Next, of such a cursor. -/
import Derived.Test.YtjjmnjgkodiibaaMCuY
namespace Go.Proofs.Ytjjmnjgkodiibaa
open Go.RowKit
namespace Pg

/-- What lies ahead of a cursor reads as rows, up to a page that is spoilt; g bytes lie ahead of that page. -/
def Spo (s : St) (l : List Nat) (p : List UInt8) (rs : List RowM) (g : Int) : Prop :=
  ∃ (l1 : List Nat) (b : Nat) (l2 : List Nat) (G : List UInt8) (j : Nat), l = l1 ++ b :: l2 ∧ (∀ i ∈ l1, readE s (i : Int) = 0) ∧ readE s (b : Int) = 6 ∧ p ++ (onP s l1 ++ G) = rowsB rs ++ List.replicate j 0 ∧ j < 56 ∧ 56 ≤ G.length ∧ (p.length : Int) + 56 * (l1.length : Int) = g

theorem Spo.none {s : St} {l : List Nat} {p : List UInt8} {g : Int} (h : Spo s l p [] g) : False := by
  obtain ⟨l1, b, l2, G, j, _, _, _, e, hj, hG, _⟩ := h
  have := congrArg List.length e
  have h0 : rowsB [] = [] := rfl
  rw [h0] at this
  simp only [List.length_append, List.length_nil, List.length_replicate] at this
  omega

theorem spo_next {s : St} (h64 : ∀ (k : Nat) (l : List UInt8), s[k]? = some (some l) → l.length = 64) {r : RowM} (hr : Fine r) {b : Nat} (hb : readE s (b : Int) = 6) (l2 : List Nat) (G T : List UInt8) :
    ∀ (l1 : List Nat) (p : List UInt8), (∀ i ∈ l1, readE s (i : Int) = 0) → p ++ (onP s l1 ++ G) = rowB r ++ T →
      (nextR s (l1 ++ b :: l2) p = .inl 6 ∧ p.length + 56 * l1.length < (rowB r).length) ∨
      ∃ u l1', nextR s (l1 ++ b :: l2) p = .inr (r, u, l1' ++ b :: l2) ∧ (∃ d, l1 = d ++ l1') ∧ u ++ (onP s l1' ++ G) = T ∧ p.length + 56 * l1.length = (rowB r).length + (u.length + 56 * l1'.length)
  | [], p, _, e => by
    rcases hr.cases e with ⟨u, h1, h2, h3⟩ | ⟨h1, h2⟩
    · refine .inr ⟨u, [], nextR_now h3, ⟨[], rfl⟩, h2, ?_⟩
      rw [h1, List.length_append]
      simp
    · refine .inl ⟨?_, by simpa using h1⟩
      rw [List.nil_append, nextR_err h2 (by rw [hb]; decide), hb]
  | i :: l, p, ho, e => by
    have hi : readE s (i : Int) = 0 := ho i (by simp)
    rcases hr.cases e with ⟨u, h1, h2, h3⟩ | ⟨h1, h2⟩
    · refine .inr ⟨u, i :: l, nextR_now h3, ⟨[], rfl⟩, h2, ?_⟩
      rw [h1, List.length_append]
      omega
    · have hl := readB_len h64 hi
      have e' : (p ++ readB s (i : Int)) ++ (onP s l ++ G) = rowB r ++ T := by
        rw [onP_cons] at e
        rw [← e]
        simp
      have hn : nextR s ((i :: l) ++ b :: l2) p = nextR s (l ++ b :: l2) (p ++ readB s (i : Int)) := nextR_on h2 hi
      rcases spo_next h64 hr hb l2 G T l _ (fun k hk => ho k (by simp [hk])) e' with ⟨q1, q2⟩ | ⟨u, l1', q1, ⟨d, q2⟩, q3, q4⟩
      · refine .inl ⟨by rw [hn]; exact q1, ?_⟩
        rw [List.length_append, hl] at q2
        rw [List.length_cons]
        omega
      · refine .inr ⟨u, l1', by rw [hn]; exact q1, ⟨i :: d, by rw [q2]; rfl⟩, q3, ?_⟩
        rw [List.length_append, hl] at q4
        rw [List.length_cons]
        omega

theorem Spo.next {s : St} (h64 : ∀ (k : Nat) (l : List UInt8), s[k]? = some (some l) → l.length = 64) {r : RowM} {rs : List RowM} (hr : Fine r) {l : List Nat} {p : List UInt8} {g : Int} (h : Spo s l p (r :: rs) g) :
    (nextR s l p = .inl 6 ∧ g < ((rowB r).length : Int)) ∨ ∃ u l', nextR s l p = .inr (r, u, l') ∧ Spo s l' u rs (g - ((rowB r).length : Int)) ∧ (∃ d, l = d ++ l') ∧ u.length + 56 * l'.length ≤ p.length + 56 * l.length := by
  obtain ⟨l1, b, l2, G, j, rfl, h1, h2, e, hj, hG, hg⟩ := h
  rw [rowsB_cons, List.append_assoc] at e
  rcases spo_next h64 hr h2 l2 G _ l1 p h1 e with ⟨q1, q2⟩ | ⟨u, l1', q1, ⟨d, q2⟩, q3, q4⟩
  · exact .inl ⟨q1, by omega⟩
  · refine .inr ⟨u, l1' ++ b :: l2, q1, ⟨l1', b, l2, G, j, rfl, fun i hi => h1 i (by rw [q2]; simp [hi]), h2, q3, hj, hG, by omega⟩, ⟨d, by rw [q2]; simp⟩, ?_⟩
    rw [List.length_append, List.length_append]
    omega

theorem readE_set {s : St} {i d : Nat} {L : List UInt8} (h : i ≠ d) : readE (s.set d (some L)) (i : Int) = readE s (i : Int) := by
  unfold readE
  rw [at_nat, at_nat, List.getElem?_set_ne (fun e => h e.symm)]
theorem readB_set {s : St} {i d : Nat} {L : List UInt8} (h : i ≠ d) : readB (s.set d (some L)) (i : Int) = readB s (i : Int) := by
  unfold readB
  rw [at_nat, at_nat, List.getElem?_set_ne (fun e => h e.symm)]

theorem onP_set {s : St} {d : Nat} {L : List UInt8} : ∀ (l : List Nat), (∀ i ∈ l, i ≠ d) → onP (s.set d (some L)) l = onP s l
  | [], _ => rfl
  | i :: l, h => by rw [onP_cons, onP_cons, readB_set (h i (by simp)), onP_set l fun k hk => h k (by simp [hk])]

/-- Behind Put, a page of which has been spoilt. -/
theorem PutAt.spo {s0 : St} {rs : List RowM} (h : PutAt s0 rs) (h64 : ∀ (k : Nat) (l : List UInt8), (putRS s0 rs)[k]? = some (some l) → l.length = 64) {q d : Nat} {L : List UInt8} (hq : (putRL s0 rs)[q]? = some d) (hL : okPage (d : Int) L = false) :
    Spo ((putRS s0 rs).set d (some L)) (putRL s0 rs) [] rs (56 * (q : Int)) := by
  obtain ⟨j, hj, hh⟩ := h.hon
  have hnod := h.nodup
  have hlt := h.lt
  have hlen := h.len
  generalize putRS s0 rs = s at *
  generalize putRL s0 rs = l at *
  obtain ⟨hq1, hq2⟩ := List.getElem?_eq_some_iff.1 hq
  have hl : l = l.take q ++ d :: l.drop (q + 1) := by
    rw [← hq2, ← List.drop_eq_getElem_cons hq1, List.take_append_drop]
  have hne : ∀ i ∈ l.take q, i ≠ d := fun i hi e => by
    obtain ⟨k, hk⟩ := List.getElem?_of_mem hi
    have hkq : k < q := by
      have := (List.getElem?_eq_some_iff.1 hk).1
      rw [List.length_take] at this
      omega
    rw [List.getElem?_take_of_lt hkq] at hk
    rw [e] at hk
    have := (List.getElem?_inj hq1 hnod).1 (hq.trans hk.symm)
    omega
  have hds : d < s.length := by
    have := hlt d (List.mem_of_getElem? hq)
    omega
  have hat : at_ (s.set d (some L)) (d : Int) = some L := by
    rw [at_nat, List.getElem?_set_self hds]; rfl
  have hon : onP (s.set d (some L)) (l.take q) = onP s (l.take q) := onP_set _ hne
  refine ⟨l.take q, d, l.drop (q + 1), onP s (d :: l.drop (q + 1)), j, hl, fun i hi => ?_, ?_, ?_, hj, ?_, ?_⟩
  · rw [readE_set (hne i hi)]
    exact hh.ok i (List.mem_of_mem_take hi)
  · unfold readE
    rw [hat]
    simp [hL]
  · rw [hon, ← hh.eq]
    congr 1
    unfold onP
    rw [← List.flatMap_append, ← hl]
  · rw [onP_cons, List.length_append, readB_len h64 (hh.ok d (List.mem_of_getElem? hq))]
    omega
  · rw [List.length_take]
    simp
    omega
end Pg

/-- A cursor over pages one of which may be spoilt. -/
def Cur2 (w : World) (S : Nat → Prop) (M bs bc : Nat) (s : Pg.St) (t : Bool) (rs : List RowM) (j : Nat) (g left : Int) : Prop :=
  (∃ l k ic I p n rc R, CuAt w S bs bc l k ic I p n rc R left 0 ∧ (t = true → Pg.Spo s l p rs g) ∧ (t = false → Pg.Hon s l p rs j) ∧ (∀ i ∈ l, i < 600) ∧ n + 56 * k ≤ 40000) ∧ ∀ b, S b → M ≤ b ∧ b < w.heap.size
theorem Cur2.drewN {w : World} {S : Nat → Prop} {M bs bc : Nat} {s : Pg.St} {t : Bool} {rs : List RowM} {j : Nat} {g left : Int} (h : Cur2 w S M bs bc s t rs j g left) (d : Nat) : Cur2 (w.drewN d) S M bs bc s t rs j g left := by
  obtain ⟨⟨l, k, ic, I, p, n, rc, R, h1, h2⟩, h3⟩ := h
  exact ⟨⟨l, k, ic, I, p, n, rc, R, h1.drewN d, h2⟩, h3⟩
theorem Cur2.below {w w' : World} {S : Nat → Prop} {M bs bc : Nat} {s : Pg.St} {t : Bool} {rs : List RowM} {j : Nat} {g left : Int} (h : Cur2 w S M bs bc s t rs j g left) (hb : Below w.heap.size w w') : Cur2 w' S M bs bc s t rs j g left := by
  obtain ⟨⟨l, k, ic, I, p, n, rc, R, h1, h2⟩, h3⟩ := h
  exact ⟨⟨l, k, ic, I, p, n, rc, R, h1.below hb, h2⟩, fun b h' => ⟨(h3 b h').1, Nat.lt_of_lt_of_le (h3 b h').2 hb.size⟩⟩
theorem Cur2.cast {w : World} {S : Nat → Prop} {M bs bc : Nat} {s : Pg.St} {t : Bool} {rs rs' : List RowM} {j : Nat} {g g' left left' : Int} (h : Cur2 w S M bs bc s t rs j g left) (e1 : rs = rs') (e2 : left = left') (e3 : g = g') : Cur2 w S M bs bc s t rs' j g' left' := by
  subst e1; subst e2; subst e3
  exact h

/-- Next, of such a cursor. -/
theorem cur2_next (S : Nat → Prop) (M B bs bc : Nat) (s : Pg.St) (t : Bool) (r : RowM) (rs : List RowM) (j : Nat) (g left : Int) (w : World) (h : Cur2 w S M bs bc s t (r :: rs) j g left) (hs : Sto w B bs s) (hr : Pg.Fine r) (h0 : 0 < left) (hle : left ≤ 1000000) (hM : M ≤ w.heap.size) :
    Calls Try.prog 36 #[.pointer (some ⟨bc, 0, none⟩)] w fun e w' =>
      ((t = true ∧ g < ((rowB r).length : Int) ∧ e = .returned (.tuple #[.slice none 0 0, .bool false, .int .i64 6]) ∧ ∃ S' l' k' ic' I' p' n' rc' R', CuAt w' S' bs bc l' k' ic' I' p' n' rc' R' left 6) ∨
        ∃ R rc S', e = .returned (.tuple #[.slice R r.length rc, .bool true, .int .i64 0]) ∧ Own w' w.heap.size 37 3 R r.length rc (rcells r) ∧ Cur2 w' S' M bs bc s t rs j (g - ((rowB r).length : Int)) (left - 1)) ∧
      Sto w' B bs s ∧ Below M w w' := by
  obtain ⟨⟨l, k, ic, I, p, n, rc, R, h1, h2a, h2b, h3, h4⟩, h5⟩ := h
  have h64 := sto_64 hs
  have hkl := h1.klen
  have hpl := h1.plen
  have hcase : (t = true ∧ g < ((rowB r).length : Int) ∧ Pg.nextR s l p = .inl 6) ∨ ∃ u l', Pg.nextR s l p = .inr (r, u, l') ∧ (t = true → Pg.Spo s l' u rs (g - ((rowB r).length : Int))) ∧ (t = false → Pg.Hon s l' u rs j) ∧ (∃ d, l = d ++ l') ∧ u.length + 56 * l'.length ≤ p.length + 56 * l.length := by
    cases t with
    | true =>
      rcases (h2a rfl).next h64 hr with ⟨q1, q2⟩ | ⟨u, l', q1, q2, q3, q4⟩
      · exact .inl ⟨rfl, q2, q1⟩
      · exact .inr ⟨u, l', q1, fun _ => q2, fun h => (by cases h), q3, q4⟩
    | false =>
      obtain ⟨u, l', e1, e2, d, e3⟩ := (h2b rfl).next hr
      refine .inr ⟨u, l', e1, fun h => (by cases h), fun _ => e2, ⟨d, e3⟩, ?_⟩
      have a := (h2b rfl).len h64
      have b := e2.len h64
      rw [Pg.rowsB_cons, List.length_append] at a
      omega
  have hsub : ∀ {w' : World}, Turns (fun b => S b ∨ w.heap.size ≤ b) [] 0 w w' → Below M w w' := fun ht => ht.below0 (fun b hb => by
    rcases hb with hb | hb
    · exact (h5 b hb).1
    · omega) hM
  refine (next_any (fun b => S b ∨ w.heap.size ≤ b) B bs bc s l k ic I p n rc R left w (h1.more fun b hb => .inl hb) hs (fun b hb => .inr hb) h0 hle (by omega) (fun i hi => by have := h3 i hi; omega)).mono ?_
  rintro e w' ⟨⟨er, q1, q2, q3⟩ | ⟨r', u', l2, R', rc', k', ic', I', n', rc2, R2, q1, q2, rfl, q3, q4⟩, q5, q6⟩
  · rcases hcase with ⟨c1, c2, c3⟩ | ⟨u, l', c1, _⟩
    · rw [c3] at q1
      injection q1 with q1
      subst q1
      obtain ⟨l', k', ic', I', p', n', rc', R', q3⟩ := q3
      exact ⟨.inl ⟨c1, c2, q2, _, l', k', ic', I', p', n', rc', R', q3⟩, q5, hsub q6⟩
    · rw [c1] at q1; cases q1
  · rcases hcase with ⟨_, _, c3⟩ | ⟨u, l', c1, c2, c3, ⟨d, c4⟩, c5⟩
    · rw [c3] at q1; cases q1
    · rw [c1] at q1
      injection q1 with q1
      injection q1 with q1 q7
      injection q7 with q7 q8
      subst q1; subst q7; subst q8
      have hkl' := q4.klen
      have hpl' := q4.plen
      have hz := q6.size
      refine ⟨.inr ⟨R', rc', fun b => (S b ∨ w.heap.size ≤ b) ∧ b < w'.heap.size, rfl, q3, ⟨_, _, _, _, _, _, _, _, q4.bound, c2, c3, fun i hi => h3 i (by rw [c4]; simp [hi]), by omega⟩, ?_⟩, q5, hsub q6⟩
      rintro b ⟨hb | hb, hb2⟩
      · exact ⟨(h5 b hb).1, hb2⟩
      · exact ⟨by omega, hb2⟩
end Go.Proofs.Ytjjmnjgkodiibaa
