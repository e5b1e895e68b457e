/- The walk of the reference's spans: of a set of places. -/
import Derived.Test.YtjfpflnijkokaaaSwG
import Derived.Test.YtjfpflnijkokaaaSwH
namespace Go.Proofs.Ytjfpflnijkokaaa
open Go.RowKit

attribute [local go_sem ↓] Go.wp_at_zero Go.wp_at_succ

theorem addS_far {l : List SpanM} {a b : Int} (hab : a < b) (h : ∀ s ∈ l, s.2 < a) : addS l (a, b) = l ++ [(a, b)] := by
  rcases List.eq_nil_or_concat l with rfl | ⟨l', t, e⟩
  · rw [addS_nil, if_neg (by dsimp only; omega)]
    rfl
  · rw [List.concat_eq_append] at e
    subst e
    have := h t (by simp)
    rw [addS_snoc, if_neg (by dsimp only; omega), if_neg (by dsimp only; omega)]
theorem spansF_on (f : Nat → Bool) (k : Nat) (h : f k = true) : spansF f (k + 1) = addS (spansF f k) ((k : Int), (k : Int) + 1) := by rw [spansF, if_pos h]
theorem spansF_off (f : Nat → Bool) (k : Nat) (h : f k = false) : spansF f (k + 1) = spansF f k := by rw [spansF, if_neg (by rw [h]; simp)]
theorem spansF_to (f : Nat → Bool) (k : Nat) : ∀ s ∈ spansF f k, s.2 ≤ k := fun s hs => ((spansF_spec f k).2.1 s hs).2
theorem spansF_last (f : Nat → Bool) (k : Nat) (h : f k = true) : ∃ (i : List SpanM) (t : Int), spansF f (k + 1) = i ++ [(t, (k : Int) + 1)] := by
  rw [spansF_on f k h]
  rcases List.eq_nil_or_concat (spansF f k) with e | ⟨l', t, e⟩
  · rw [e, addS_nil, if_neg (by dsimp only; omega)]
    exact ⟨[], k, rfl⟩
  · rw [List.concat_eq_append] at e
    have h1 := spansF_to f k t (by rw [e]; simp)
    rw [e, addS_snoc, if_neg (by dsimp only; omega)]
    split
    · refine ⟨l', t.1, ?_⟩
      rw [show max t.2 ((k : Int), (k : Int) + 1).2 = (k : Int) + 1 from by dsimp only; omega]
    · exact ⟨l' ++ [t], k, rfl⟩
theorem spansF_grow (f : Nat → Bool) (k : Nat) (h : f (k + 1) = true) (hp : f k = true) : ∃ (i : List SpanM) (t : Int), spansF f (k + 1) = i ++ [(t, (k : Int) + 1)] ∧ spansF f (k + 1 + 1) = i ++ [(t, (k : Int) + 1 + 1)] := by
  obtain ⟨i, t, e⟩ := spansF_last f k hp
  refine ⟨i, t, e, ?_⟩
  rw [spansF_on f (k + 1) h, e, addS_snoc, if_neg (by dsimp only; omega), if_pos (by dsimp only; omega)]
  rw [show max (t, (k : Int) + 1).2 (((k + 1 : Nat) : Int), ((k + 1 : Nat) : Int) + 1).2 = (k : Int) + 1 + 1 from by dsimp only; omega]
theorem spansF_new (f : Nat → Bool) (k : Nat) (h : f k = true) (hp : k = 0 ∨ ∃ j, k = j + 1 ∧ f j = false) : spansF f (k + 1) = spansF f k ++ [((k : Int), (k : Int) + 1)] := by
  rw [spansF_on f k h]
  refine addS_far (by omega) fun s hs => ?_
  rcases hp with rfl | ⟨j, rfl, hj⟩
  · rw [spansF] at hs
    simp at hs
  · rw [spansF_off f j hj] at hs
    have := spansF_to f j s hs
    omega
theorem spansF_len (f : Nat → Bool) : ∀ k : Nat, (spansF f k).length ≤ k
  | 0 => by simp [spansF]
  | k + 1 => by
    have h := spansF_len f k
    cases hf : f k
    · rw [spansF_off f k hf]
      omega
    · rw [spansF_on f k hf]
      have := addS_len (spansF f k) ((k : Int), (k : Int) + 1)
      omega

/-- How the reference's spans ends. -/
def SpsOK (m : List SpanM) (w : World) (e : Ending) (w' : World) : Prop :=
  (∃ A c, e = .returned (.slice A m.length c) ∧ Own w' w.heap.size 40 2 A m.length c (spc m)) ∧ Below w.heap.size w w'

theorem bool_at {w : World} {A : Option Addr} {f : Nat → Bool} (h : Rd w A (bcl (setL f))) {k : Nat} (hk : k < 4096) : ∃ b o, A = some ⟨b, o, none⟩ ∧ w.cell? ⟨b, o + k, none⟩ = some (.bool (f k)) := by
  obtain ⟨b, o, e, hr⟩ := h (by intro e; have := congrArg List.length e; rw [bcl_len, setL_len, List.length_nil] at this; omega)
  exact ⟨b, o, e, hr k (.bool (f k)) (by unfold bcl; rw [List.getElem?_map, setL_get f hk]; rfl)⟩

set_option maxHeartbeats 16000000 in
set_option maxRecDepth 100000 in
theorem rspans_any (f : Nat → Bool) (c : Nat) (A : Option Addr) (w : World) (hr : Rd w A (bcl (setL f))) :
    Calls Try.prog 28 #[.slice A 4096 c] w fun e w' => SpsOK (spansF f 4096) w e w' := by
  obtain ⟨b, o, hA, _⟩ := bool_at hr (k := 0) (by omega)
  subst hA
  have Hcell : Hid (∀ k, k < 4096 → ∀ w', Below w.heap.size w w' → w'.cell? ⟨b, o + k, none⟩ = some (.bool (f k))) := fun k hk w' h => by
    obtain ⟨b', o', e, h1⟩ := bool_at (hr.below h) hk
    cases e
    exact h1
  clear hr
  go_enter Try.func28, Try.ntmps28
  go_wp2_with fail
  go_loopw [3, 4] (fun vo vk wr => ∃ (k m c' : Nat) (A' : Option Addr), vo = .slice A' m c' ∧ vk = .int .i64 (k : Int) ∧ k ≤ 4096 ∧ m ≤ k ∧ Hid ((spansF f k).length = m) ∧ Hid (Own wr w.heap.size 40 2 A' m c' (spc (spansF f k))) ∧ Hid (Below w.heap.size w wr)) (fun _ vk _ => 4096 - (intOf vk).toNat)
  case atStart => exact ⟨0, 0, 0, none, rfl, rfl, by omega, by omega, rfl, Own.nil _ _ _ _, Below.refl _ _⟩
  case round =>
    obtain ⟨k, m, c', A', rfl, rfl, hk, hmk, Hm, Ho, Hb⟩ := hrel
    by_cases hkn : k < 4096
    · have hkI : (k : Int) < 4096 := by omega
      have hk0 : (0 : Int) ≤ (k : Int) := by omega
      have d1 := Hcell.out k hkn _ Hb.out
      cases hfk : f k
      · rw [hfk] at d1
        have Hm2 : Hid ((spansF f (k + 1)).length = m) := by
          show _ = _
          rw [spansF_off f k hfk]
          exact Hm.out
        have Ho2 : Hid (Own wr w.heap.size 40 2 A' m c' (spc (spansF f (k + 1)))) := by
          show Own _ _ _ _ _ _ _ _
          rw [spansF_off f k hfk]
          exact Ho.out
        clear Hm Ho hfk
        go_wp2_with fail
        go_roundw
        case rel => exact ⟨k + 1, m, c', A', rfl, by go_num, by omega, by omega, Hm2, Ho2, Hb⟩
        case measure => simp only [intOf, Int.toNat_natCast]; omega
      · rw [hfk] at d1
        by_cases hnew : k = 0 ∨ ∃ j, k = j + 1 ∧ f j = false
        · have he := Lib.hid (spansF_new f k hfk hnew)
          have ho5 := Own.below Ho.out ((Below.refl wr.heap.size wr).alloc (Nat.le_refl _) (.cells #[.int .i64 (k : Int), .int .i64 ((k : Int) + 1)] 40))
          have hnewr := (Blk.new wr 40 #[.int .i64 (k : Int), .int .i64 ((k : Int) + 1)]).range
          have hb5 := Hb.out.trans (((Below.refl wr.heap.size wr).alloc (Nat.le_refl _) (.cells #[.int .i64 (k : Int), .int .i64 ((k : Int) + 1)] 40)).mono Hb.out.size)
          have hz5 := hb5.size
          have Hnew := Lib.hid hnew
          have Hfk := Lib.hid hfk
          rcases hnew with hz | ⟨j, hj, hfj⟩
          · have gz : decide (0 < k) = false := decide_eq_false (by omega)
            have gzI : decide ((0 : Int) < (k : Int)) = false := decide_eq_false (by omega)
            clear Hnew Hfk hfk Ho hz
            go_wp2_with (first | (at_builtin; refine hold ?_) | (at_make; refine hold ?_))
            (with_reducible refine unhold ?_)
            refine wpList_apd rfl _ _ _ rfl Espan w.heap.size _ m _ (spc (spansF f k)) rfl ho5 _ 1 _ [.int .i64 (k : Int), .int .i64 ((k : Int) + 1)] rfl rfl (fun _ => ⟨_, _, rfl, hnewr⟩) (by simp [Value.oneCell']) (m + 1) rfl _ rfl (by omega) (by omega) hz5 ?_
            intro A5 c5 w9 ho9 hg9 _
            have Hb9 := Lib.hid (hb5.grown hg9 hb5.size ho5.row_ge)
            have Ho9 : Hid (Own w9 w.heap.size 40 2 A5 (m + 1) c5 (spc (spansF f (k + 1)))) := by
              show Own _ _ _ _ _ _ _ _
              rw [he.out, spc_snoc]
              exact ho9
            have Hm9 : Hid ((spansF f (k + 1)).length = m + 1) := by
              show _ = _
              rw [he.out, List.length_append, Hm.out]
              rfl
            clear ho9 hg9 ho5 hb5 hnewr Hm
            go_wp2_with fail
            go_roundw
            case rel => exact ⟨k + 1, m + 1, c5, A5, rfl, by go_num, by omega, by omega, Hm9, Ho9, Hb9⟩
            case measure => simp only [intOf, Int.toNat_natCast]; omega
          · have d2 := Hcell.out j (by omega) _ Hb.out
            rw [hfj] at d2
            have hsub : (k : Int) - 1 = (j : Int) := by omega
            have hj0 : (0 : Int) ≤ (j : Int) := by omega
            have hjI : (j : Int) < 4096 := by omega
            have hz0 : 0 < k := by omega
            have gzI : (0 : Int) < (k : Int) := by omega
            clear Hnew Hfk hfk hfj Ho hj
            go_wp2_with (first | (at_builtin; refine hold ?_) | (at_make; refine hold ?_))
            (with_reducible refine unhold ?_)
            refine wpList_apd rfl _ _ _ rfl Espan w.heap.size _ m _ (spc (spansF f k)) rfl ho5 _ 1 _ [.int .i64 (k : Int), .int .i64 ((k : Int) + 1)] rfl rfl (fun _ => ⟨_, _, rfl, hnewr⟩) (by simp [Value.oneCell']) (m + 1) rfl _ rfl (by omega) (by omega) hz5 ?_
            intro A5 c5 w9 ho9 hg9 _
            have Hb9 := Lib.hid (hb5.grown hg9 hb5.size ho5.row_ge)
            have Ho9 : Hid (Own w9 w.heap.size 40 2 A5 (m + 1) c5 (spc (spansF f (k + 1)))) := by
              show Own _ _ _ _ _ _ _ _
              rw [he.out, spc_snoc]
              exact ho9
            have Hm9 : Hid ((spansF f (k + 1)).length = m + 1) := by
              show _ = _
              rw [he.out, List.length_append, Hm.out]
              rfl
            clear ho9 hg9 ho5 hb5 hnewr Hm
            go_wp2_with fail
            go_roundw
            case rel => exact ⟨k + 1, m + 1, c5, A5, rfl, by go_num, by omega, by omega, Hm9, Ho9, Hb9⟩
            case measure => simp only [intOf, Int.toNat_natCast]; omega
        · obtain ⟨j, rfl⟩ : ∃ j, k = j + 1 := ⟨k - 1, by omega⟩
          have hfj : f j = true := by
            cases h : f j
            · exact absurd (Or.inr ⟨j, rfl, h⟩) hnew
            · rfl
          have d2 := Hcell.out j (by omega) _ Hb.out
          rw [hfj] at d2
          obtain ⟨i, t, e1, e2⟩ := spansF_grow f j hfk hfj
          have ho1 := Ho.out
          have hm1 := Hm.out
          rw [e1] at ho1 hm1
          obtain ⟨q, hq⟩ : ∃ q, i.length = q := ⟨_, rfl⟩
          have hmq : m = q + 1 := by rw [List.length_append, hq] at hm1; exact hm1.symm
          obtain ⟨g, hA⟩ : ∃ g, A' = some ⟨g, 0, none⟩ := by
            rcases ho1.lies with ⟨_, h0, _⟩ | ⟨g, cur, hA, _⟩
            · omega
            · exact ⟨g, hA⟩
          subst hA
          obtain ⟨b', o', e, x0, x1⟩ := ho1.rd.span (j := q) (by rw [List.length_append, hq]; simp)
          cases e
          rw [List.getElem_concat_length (by omega)] at x0 x1
          simp only [Nat.zero_add] at x0 x1
          obtain ⟨p1, p2, p3⟩ := ho1.put (i := q * 2 + 1) (by omega) (.int .i64 ((j : Int) + 1 + 1))
          have hset : (spc (i ++ [(t, (j : Int) + 1)])).set (q * 2 + 1) (.int .i64 ((j : Int) + 1 + 1)) = spc (spansF f (j + 1 + 1)) := by
            rw [e2, spc_snoc, spc_snoc, List.set_append_right _ _ (by rw [spc_len, hq]; omega), spc_len, hq]
            rw [show q * 2 + 1 - q * 2 = 1 from by omega]
            rfl
          rw [hset] at p1
          have Ho9 := Lib.hid p1
          have Hb9 := Lib.hid (Hb.out.grown p2 Hb.out.size (fun k hk => ho1.row_ge k hk))
          have Hm9 : Hid ((spansF f (j + 1 + 1)).length = m) := by
            show _ = _
            rw [e2, List.length_append, hq, hmq]
            rfl
          obtain ⟨k, hkj⟩ : ∃ k, j + 1 = k := ⟨_, rfl⟩
          have hkjI : (j : Int) + 1 = (k : Int) := by omega
          rw [hkjI] at x1 Ho9 Hb9
          rw [hkj] at d1 Hm9 Ho9 hkI hk0 hmk ⊢
          have hsub : (k : Int) - 1 = (j : Int) := by omega
          have hj0 : (0 : Int) ≤ (j : Int) := by omega
          have hjI : (j : Int) < 4096 := by omega
          have hz0 : 0 < k := by omega
          have gzI : (0 : Int) < (k : Int) := by omega
          have hsq : (m : Int) - 1 = (q : Int) := by omega
          have hq0 : (0 : Int) ≤ (q : Int) := by omega
          have hqm : (q : Int) < (m : Int) := by omega
          have hk1 : k + 1 ≤ 4096 := by omega
          clear p1 p2 hset e1 e2 Hm Ho ho1 hm1 hfk hfj hnew hq hmq hk hkn
          go_wp2_with fail
          go_roundw
          case rel => exact ⟨k + 1, m, c', _, rfl, by go_num, by omega, by omega, Hm9, Ho9, Hb9⟩
          case measure => simp only [intOf, Int.toNat_natCast]; omega
    · obtain rfl : k = 4096 := by omega
      have Hm2 : Hid (m = (spansF f 4096).length) := Hm.out.symm
      have Ho2 : Hid (Own wr w.heap.size 40 2 A' (spansF f 4096).length c' (spc (spansF f 4096))) := by
        show Own _ _ _ _ _ _ _ _
        rw [Hm.out]
        exact Ho.out
      clear Hm Ho
      go_wp2_with fail
      go_ret
      rw [Hm2.out]
      exact ⟨⟨A', c', rfl, Ho2.out⟩, Hb.out⟩
end Go.Proofs.Ytjfpflnijkokaaa
