/- What lies on pages behind a writer's rows: a plain law, with no program in sight. -/
import Derived.Test.YtjjmnjgkodiibaaMSpM
namespace Go.Proofs.Ytjjmnjgkodiibaa
open Go.RowKit
namespace Pg

/-- The stream T has been written: the pages l hold its beginning, b is what no page holds yet. -/
structure Laid (s0 s : St) (l : List Nat) (T b : List UInt8) : Prop where
  le : 56 * l.length ≤ T.length
  rest : b = T.drop (56 * l.length)
  at_ : ∀ (k i : Nat), l[k]? = some i → s[i]? = some (some (page i ((T.drop (56 * k)).take 56)))
  used : used s = used s0 + l.length
  len : s.length = s0.length
  nodup : l.Nodup

theorem Laid.nil (s : St) : Laid s s [] [] [] := ⟨Nat.zero_le _, rfl, (fun k i h => by simp at h), rfl, rfl, List.nodup_nil⟩
theorem Laid.add {s0 s : St} {l : List Nat} {T b : List UInt8} (h : Laid s0 s l T b) (U : List UInt8) : Laid s0 s l (T ++ U) (b ++ U) := by
  refine ⟨by rw [List.length_append]; exact Nat.le_trans h.le (Nat.le_add_right _ _), ?_, fun k i hk => ?_, h.used, h.len, h.nodup⟩
  · rw [h.rest, List.drop_append_of_le_length h.le]
  · have hl := (List.getElem?_eq_some_iff.1 hk).1
    have := h.le
    rw [List.drop_append_of_le_length (by omega), List.take_append_of_le_length (by rw [List.length_drop]; omega)]
    exact h.at_ k i hk
theorem free1_is {s : St} (h : Pg.used s < s.length) : ∃ i, free1 s = some i := by
  have hl := length_ids (s := s) (n := 1) (by omega)
  unfold free1
  cases e : ids s 1 with
  | nil => rw [e] at hl; cases hl
  | cons i _ => exact ⟨i, rfl⟩
theorem Laid.ne {s0 s : St} {l : List Nat} {T b : List UInt8} (h : Laid s0 s l T b) {i : Nat} (hi : s[i]? = some none) : i ∉ l := fun hm => by
  obtain ⟨k, hk⟩ := List.getElem?_of_mem hm
  rw [h.at_ k i hk] at hi
  cases hi
theorem Laid.step {s0 s : St} {l : List Nat} {T b : List UInt8} (h : Laid s0 s l T b) {i : Nat} (hb : 56 ≤ b.length) (hi : free1 s = some i) : Laid s0 (s.set i (some (page i (b.take 56)))) (l ++ [i]) T (b.drop 56) := by
  obtain ⟨_, _, _, h1, h2⟩ := free1_some hi
  have hT : b.length = T.length - 56 * l.length := by rw [h.rest, List.length_drop]
  have hle := h.le
  have hni := h.ne h2
  refine ⟨?_, ?_, fun k j hk => ?_, ?_, ?_, ?_⟩
  · rw [List.length_append, List.length_cons, List.length_nil]
    omega
  · rw [h.rest, List.drop_drop, List.length_append, List.length_cons, List.length_nil, show 56 * (l.length + (0 + 1)) = 56 * l.length + 56 from by omega]
  · rw [List.getElem?_append] at hk
    split at hk
    · rw [List.getElem?_set_ne (fun e => hni (by rw [e]; exact List.mem_of_getElem? hk))]
      exact h.at_ k j hk
    · have hk0 : k = l.length := by
        have := (List.getElem?_eq_some_iff.1 hk).1
        simp at this
        omega
      subst hk0
      rw [Nat.sub_self] at hk
      injection hk with hk
      subst hk
      rw [List.getElem?_set_self h1, h.rest]
  · rw [used_set h2, h.used, List.length_append]
    rfl
  · rw [List.length_set, h.len]
  · rw [List.nodup_append]
    refine ⟨h.nodup, by simp, fun x hx y hy e => ?_⟩
    rw [List.mem_singleton.1 hy] at e
    exact hni (e ▸ hx)
theorem Laid.lay : ∀ (n : Nat) {s0 s : St} {l : List Nat} {T b : List UInt8}, b.length ≤ n → Laid s0 s l T b → T.length / 56 ≤ s0.length - Pg.used s0 →
    Laid s0 (Pg.lay s l b).1 (Pg.lay s l b).2.1 T (Pg.lay s l b).2.2 ∧ (Pg.lay s l b).2.2.length < 56
  | n, s0, s, l, T, b, hn, h, hr => by
    by_cases hb : 56 ≤ b.length
    · have hT : b.length = T.length - 56 * l.length := by rw [h.rest, List.length_drop]
      have hu := used_le s0
      obtain ⟨i, hi⟩ := free1_is (s := s) (by have := h.used; have := h.len; have := h.le; omega)
      rw [lay_yes hb hi]
      cases n with
      | zero => omega
      | succ n => exact Laid.lay n (by rw [List.length_drop]; omega) (h.step hb hi) hr
    · rw [lay_end (by omega)]
      exact ⟨h, by show b.length < 56; omega⟩
theorem Laid.run : ∀ (rs : List RowM) {s0 s : St} {l : List Nat} {T b : List UInt8}, Laid s0 s l T b → b.length < 56 → (∀ r ∈ rs, mayR r = 0) → (T ++ rowsB rs).length / 56 ≤ s0.length - Pg.used s0 →
    ∃ s' l' b', Pg.run s l b rs = (s', l', b', 0) ∧ Laid s0 s' l' (T ++ rowsB rs) b' ∧ b'.length < 56
  | [], s0, s, l, T, b, h, hb, _, _ => ⟨s, l, b, by rw [Pg.run], by rw [show rowsB [] = [] from rfl, List.append_nil]; exact h, hb⟩
  | r :: rs, s0, s, l, T, b, h, hb, hm, hr => by
    have e : rowsB (r :: rs) = rowB r ++ rowsB rs := by simp [rowsB]
    rw [e, ← List.append_assoc] at hr ⊢
    have hr1 : (T ++ rowB r).length / 56 ≤ s0.length - Pg.used s0 := by
      rw [List.length_append] at hr
      omega
    have h1 := Laid.lay _ (Nat.le_refl _) (h.add (rowB r)) hr1
    obtain ⟨s1, l1, b1, hl⟩ : ∃ s1 l1 b1, Pg.lay s l (b ++ rowB r) = (s1, l1, b1) := ⟨_, _, _, rfl⟩
    rw [hl] at h1
    rw [run_on (hm r (by simp)) hl h1.2]
    exact Laid.run rs h1.1 h1.2 (fun q hq => hm q (by simp [hq])) hr

/-- Behind Put: the bytes of all rows lie on the pages. -/
structure PutAt (s0 : St) (rs : List RowM) : Prop where
  ok : putRE s0 rs = 0
  holds : Holds (putRS s0 rs) (putRL s0 rs) (rowsB rs)
  used : Pg.used (putRS s0 rs) = Pg.used s0 + need (rowsB rs).length
  len : (putRS s0 rs).length = s0.length
  nodup : (putRL s0 rs).Nodup
  lt : ∀ i ∈ putRL s0 rs, i < s0.length
theorem need_div {n k : Nat} (h1 : 56 * k ≤ n) (h2 : n - 56 * k < 56) : need n = if n - 56 * k = 0 then k else k + 1 := by
  unfold need
  split <;> split <;> omega
theorem put_at {s0 : St} {rs : List RowM} (hm : ∀ r ∈ rs, mayR r = 0) (hr : need (rowsB rs).length ≤ s0.length - Pg.used s0) : PutAt s0 rs := by
  have hr' : ([] ++ rowsB rs).length / 56 ≤ s0.length - Pg.used s0 := by
    rw [List.nil_append]
    unfold need at hr
    split at hr <;> omega
  obtain ⟨s', l', b', h1, h2, h3⟩ := Laid.run rs (Laid.nil s0) (by decide) hm hr'
  rw [List.nil_append] at h2
  have hle := h2.le
  have hbl : b'.length = (rowsB rs).length - 56 * l'.length := by rw [h2.rest, List.length_drop]
  have hlt : ∀ (s : St) (l : List Nat), s.length = s0.length → (∀ (k i : Nat), l[k]? = some i → ∃ x, s[i]? = some (some x)) → ∀ i ∈ l, i < s0.length := fun s l hl ha i hi => by
    obtain ⟨k, hk⟩ := List.getElem?_of_mem hi
    obtain ⟨x, hx⟩ := ha k i hk
    rw [← hl]
    exact (List.getElem?_eq_some_iff.1 hx).1
  by_cases hb : b' = []
  · subst hb
    obtain ⟨e1, e2, e3⟩ := putR_none h1
    have hz : (rowsB rs).length - 56 * l'.length = 0 := hbl.symm
    have hn : need (rowsB rs).length = l'.length := by rw [need_div hle (by omega), if_pos hz]
    refine ⟨e1, ?_, ?_, ?_, ?_, ?_⟩
    · rw [e2, e3]
      exact ⟨hn.symm, fun k i hk => by rw [at_nat, h2.at_ k i hk]; rfl⟩
    · rw [e3, h2.used, hn]
    · rw [e3, h2.len]
    · rw [e2]; exact h2.nodup
    · rw [e2]; exact hlt s' l' h2.len fun k i hk => ⟨_, h2.at_ k i hk⟩
  · have hbp : 0 < b'.length := List.length_pos_iff.2 hb
    have hn : need (rowsB rs).length = l'.length + 1 := by rw [need_div hle (by omega), if_neg (by omega)]
    obtain ⟨i, hi⟩ := free1_is (s := s') (by have := h2.used; have := h2.len; have := used_le s0; omega)
    obtain ⟨_, _, _, hi1, hi2⟩ := free1_some hi
    have hni := h2.ne hi2
    obtain ⟨e1, e2, e3⟩ := putR_some h1 hb hi
    have hat : ∀ (k j : Nat), (l' ++ [i])[k]? = some j → (s'.set i (some (page i b')))[j]? = some (some (page j (((rowsB rs).drop (56 * k)).take 56))) := fun k j hk => by
      rw [List.getElem?_append] at hk
      split at hk
      · rw [List.getElem?_set_ne (fun e => hni (by rw [e]; exact List.mem_of_getElem? hk))]
        exact h2.at_ k j hk
      · have hk0 : k = l'.length := by
          have := (List.getElem?_eq_some_iff.1 hk).1
          simp at this
          omega
        subst hk0
        rw [Nat.sub_self] at hk
        injection hk with hk
        subst hk
        rw [List.getElem?_set_self hi1, ← h2.rest, List.take_of_length_le (by omega)]
    refine ⟨e1, ?_, ?_, ?_, ?_, ?_⟩
    · rw [e2, e3]
      exact ⟨by rw [hn, List.length_append]; rfl, fun k j hk => by rw [at_nat, hat k j hk]; rfl⟩
    · rw [e3, used_set hi2, h2.used, hn]
      omega
    · rw [e3, List.length_set, h2.len]
    · rw [e2, List.nodup_append]
      refine ⟨h2.nodup, by simp, fun x hx y hy e => ?_⟩
      rw [List.mem_singleton.1 hy] at e
      exact hni (e ▸ hx)
    · rw [e2]
      exact hlt (s'.set i (some (page i b'))) _ (by rw [List.length_set, h2.len]) fun k j hk => ⟨_, hat k j hk⟩
end Pg
end Go.Proofs.Ytjjmnjgkodiibaa
