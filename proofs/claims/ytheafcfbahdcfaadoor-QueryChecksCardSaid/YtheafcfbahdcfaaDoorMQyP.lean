/- Walks: the kinds of all columns that a query joins: the program's. (Printed by gen_qyp.py.) -/
import Derived.Test.YtheafcfbahdcfaaDoorMQyK
namespace Go.Proofs.YtheafcfbahdcfaaDoor
set_option linter.unusedVariables false
set_option linter.unusedSimpArgs false
open Go.RowKit

attribute [local go_sem ↓] Go.wp_at_zero Go.wp_at_succ

theorem placesM_lt (l : List Tb) : ∀ (r : List (List UInt8)) (p : List Nat), placesM l r = some p → ∀ k ∈ p, k < l.length
  | [], p, h, k, hk => by
    obtain rfl : [] = p := Option.some.inj h
    cases hk
  | s :: r, p, h, k, hk => by
    rw [placesM] at h
    cases e : findT l s with
    | none => rw [e] at h; cases h
    | some i =>
      rw [e] at h
      obtain ⟨p1, h1, rfl⟩ := Option.map_eq_some_iff.1 (show (placesM l r).map (i :: ·) = some p from h)
      rcases List.mem_cons.1 hk with rfl | hk
      · exact (findT_lt l s _ e).1
      · exact placesM_lt l r p1 h1 k hk
theorem placesM_len (l : List Tb) : ∀ (r : List (List UInt8)) (p : List Nat), placesM l r = some p → p.length = r.length
  | [], p, h => by
    obtain rfl : [] = p := Option.some.inj h
    rfl
  | s :: r, p, h => by
    rw [placesM] at h
    cases e : findT l s with
    | none => rw [e] at h; cases h
    | some i =>
      rw [e] at h
      obtain ⟨p1, h1, rfl⟩ := Option.map_eq_some_iff.1 (show (placesM l r).map (i :: ·) = some p from h)
      rw [List.length_cons, List.length_cons, placesM_len l r p1 h1]
theorem joinedP_some {l : List Tb} {q : Qy} (h : joinedE l q = 0) : tablesOk l = true ∧ placesM l (namesM q) = some (joinedP l q) ∧ (joinedP l q).Nodup := by
  by_cases ht : tablesOk l = true
  · cases e : placesM l (namesM q) with
    | none => rw [(joined_none ht e).1] at h; cases h
    | some p =>
      by_cases hp : p.Nodup
      · rw [(joined_good ht e hp).2]
        exact ⟨ht, rfl, hp⟩
      · rw [(joined_twice ht e hp).1] at h; cases h
  · rw [(joined_bad (Bool.eq_false_iff.2 ht)).1] at h
    cases h
theorem joinedP_lt {l : List Tb} {q : Qy} {k : Nat} (hk : k ∈ joinedP l q) : k < l.length := by
  by_cases h : joinedE l q = 0
  · exact placesM_lt l _ _ (joinedP_some h).2.1 k hk
  · unfold joinedP at hk
    rw [if_neg h] at hk
    cases hk
theorem joinedP_len {l : List Tb} {q : Qy} (h : joinedE l q = 0) : (joinedP l q).length = q.joins.length + 1 := by
  rw [placesM_len l _ _ (joinedP_some h).2.1]
  show (q.frm :: q.joins.map Jn.table).length = _
  rw [List.length_cons, List.length_map]
theorem joinedP_le (l : List Tb) (q : Qy) : (joinedP l q).length ≤ q.joins.length + 1 := by
  by_cases h : joinedE l q = 0
  · rw [joinedP_len h]; exact Nat.le_refl _
  · unfold joinedP
    rw [if_neg h]
    exact Nat.zero_le _
theorem tabs_le {l : List Tb} (h : ∀ t ∈ l, t.kinds.length ≤ 12) : ∀ p : List Nat, (p.map (tabK l)).flatten.length ≤ 12 * p.length
  | [] => Nat.zero_le _
  | k :: p => by
    have := tabs_le h p
    have := tabK_len h k
    rw [List.map_cons, List.flatten_cons, List.length_append, List.length_cons]
    omega
theorem kcells_app (a b : List Int) : kcells a ++ kcells b = kcells (a ++ b) := List.map_append.symm
theorem kcells_one (l : List Int) : ∀ u ∈ kcells l, u.oneCell' = true := by
  intro u hu
  obtain ⟨x, _, rfl⟩ := List.mem_map.1 hu
  rfl

set_option maxHeartbeats 8000000 in
set_option maxRecDepth 100000 in
theorem kinds_any (l : List Th) (L : Option Addr) (n c : Nat) (q : Qy) (a1 : Option Addr) (n1 c1 : Nat) (a2 : Option Addr) (n2 c2 : Nat) (a3 : Option Addr) (n3 c3 : Nat) (a4 : Option Addr) (n4 c4 : Nat) (a5 : Option Addr) (n5 c5 : Nat) (a6 : Option Addr) (n6 c6 : Nat) (w : World) (hl : l.length = n) (hL : Tin w L l) (hf : FewT (l.map Th.t)) (hq : Qi w q a1 n1 a2 n2 a3 n3 a4 n4 a5 n5 a6 n6) (hqf : q.Few) :
    Calls Tryd.prog 9 #[.slice L n c, .agg #[.string (St8 q.frm), .slice a1 n1 c1, .slice a2 n2 c2, .slice a3 n3 c3, .slice a4 n4 c4, .slice a5 n5 c5, .slice a6 n6 c6]] w fun e w' => (∃ A d, e = .returned (.tuple #[.slice A (ktabs (l.map Th.t) q).flatten.length d, .int .i64 (joinedE (l.map Th.t) q)]) ∧ Own w' w.heap.size 5 1 A (ktabs (l.map Th.t) q).flatten.length d (kcells (ktabs (l.map Th.t) q).flatten)) ∧ Below w.heap.size w w' := by
  have Hl := Lib.hid hl
  have HL := Lib.hid hL
  have Hf := Lib.hid hf
  have hn12 := hf.len
  rw [List.length_map, hl] at hn12
  obtain ⟨lt, hlt⟩ : ∃ lt, lt = l.map Th.t := ⟨_, rfl⟩
  have Hjd := Lib.hid (fun w' (hw : Below w.heap.size w w') => joined_any l L n c q a1 n1 c1 a2 n2 c2 a3 n3 c3 a4 n4 c4 a5 n5 c5 a6 n6 c6 w' hl (hL.below hw) hf (hq.below hw) hqf)
  rw [← hlt] at Hjd ⊢
  have Hlt := Lib.hid hlt
  obtain ⟨P, hP⟩ : ∃ P, P = joinedP lt q := ⟨_, rfl⟩
  obtain ⟨E, hE⟩ : ∃ E, E = joinedE lt q := ⟨_, rfl⟩
  obtain ⟨X, hX⟩ : ∃ X, X = (ktabs lt q).flatten := ⟨_, rfl⟩
  have hpn : P.length ≤ 13 := by
    rw [hP]
    have := joinedP_le lt q
    have := hqf.joins
    omega
  have HX : Hid (X = (P.map (tabK lt)).flatten) := by
    show _ = _
    rw [hX, hP]
    rfl
  have Hkl : Hid (∀ k ∈ P, k < l.length) := Lib.hid fun k hk => by
    rw [hP] at hk
    have := joinedP_lt hk
    rwa [hlt, List.length_map] at this
  have Hnil : Hid (¬ E = 0 → X = []) := Lib.hid fun h => by
    rw [hE] at h
    rw [hX]
    unfold ktabs joinedP
    rw [if_neg h]
    rfl
  rw [← hP, ← hE] at Hjd
  rw [← hE, ← hX]
  obtain ⟨wb, hwb⟩ : ∃ x, x = w.alloc (.cells #[.string (St8 q.frm), .slice a1 n1 c1, .slice a2 n2 c2, .slice a3 n3 c3, .slice a4 n4 c4, .slice a5 n5 c5, .slice a6 n6 c6] 29) := ⟨_, rfl⟩
  have Hbb : Hid (Below w.heap.size w wb) := by
    show Below _ _ _
    rw [hwb]
    exact (Below.refl _ _).alloc (Nat.le_refl _) _
  clear hl hL hf hq hqf hlt hP hE hX
  go_enter Tryd.func9, Tryd.ntmps9
  go_wp2_with fail
  rw [← hwb]
  refine (Hjd.out wb Hbb.out).mono ?_
  rintro e w1 ⟨⟨A, A', d, d', rfl, hoA, _⟩, hb1⟩
  have Hb1 := Lib.hid (Hbb.out.trans (hb1.mono Hbb.out.size))
  have HoA := Lib.hid hoA.rd
  clear Hjd hb1 hwb Hbb hoA
  by_cases hE : E = 0
  · subst hE
    generalize hpl : P.length = pn at *
    have Hpl := Lib.hid hpl
    clear hpl
    generalize w1 = w3 at *
    go_wp2_with fail
    go_loopw [9, 24] (fun vo vi wr => ∃ (j m : Nat) (A : Option Addr) (d : Nat), vo = .slice A m d ∧ vi = .int .i64 j ∧ j ≤ pn ∧ m ≤ 200 ∧ Hid (m = ((P.take j).map (tabK lt)).flatten.length) ∧ Hid (Own wr w3.heap.size 5 1 A m d (kcells ((P.take j).map (tabK lt)).flatten)) ∧ Hid (Below w3.heap.size w3 wr)) (fun _ vi _ => pn - (intOf vi).toNat)
    case atStart => exact ⟨0, 0, none, 0, rfl, rfl, by omega, by omega, rfl, Own.nil _ _ _ _, Below.refl _ _⟩
    case round =>
      obtain ⟨j, m, B, g, rfl, rfl, hj, hm, Hm, Ho, Hb⟩ := hrel
      by_cases hjn : j < pn
      · have hjI : (j : Int) < (pn : Int) := by omega
        have hjI0 : (0 : Int) ≤ (j : Int) := by omega
        have hjl : j < P.length := by rw [Hpl.out]; exact hjn
        obtain ⟨b, o, hAe, c0⟩ := (HoA.out.below Hb.out).num (j := j) (by rw [ints_len]; exact hjl)
        have hKe : (ints P)[j]'(by rw [ints_len]; exact hjl) = ((P[j] : Nat) : Int) := by unfold ints; rw [List.getElem_map]
        rw [hKe] at c0
        have hKl := Hkl.out _ (List.getElem_mem hjl)
        have Hst : Hid (((P.take j).map (tabK lt)).flatten ++ tabK lt P[j] = ((P.take (j + 1)).map (tabK lt)).flatten) := by
          show _ = _
          rw [List.take_succ_eq_append_getElem hjl, List.map_append, List.flatten_append]
          simp
        have hm2 : m + (tabK lt P[j]).length ≤ 200 := by
          have h1 := congrArg List.length Hst.out
          rw [List.length_append, ← Hm.out] at h1
          have h2 := tabs_le (l := lt) (by rw [Hlt.out]; exact Hf.out.kinds) (P.take (j + 1))
          rw [List.length_take] at h2
          omega
        subst hAe
        generalize P[j] = K at *
        clear hKe
        have hKn : K < n := by rw [← Hl.out]; exact hKl
        have hKI : (K : Int) < (n : Int) := by omega
        have hKI0 : (0 : Int) ≤ (K : Int) := by omega
        have hT := HL.out.below (Hb1.out.trans (Hb.out.mono Hb1.out.size))
        obtain ⟨b2, o2, hLe, d0, d1⟩ := hT.rd.table hKl
        have hk2 := hT.kinds _ (List.getElem_mem hKl)
        have hte : tabK lt K = (l[K]).t.kinds := by rw [Hlt.out, tabK_at hKl]
        rw [hte] at Hst hm2
        subst hLe
        generalize (l[K]).t.kinds = kk at *
        generalize (l[K]).a = ka at *
        generalize (l[K]).c = kc at *
        have Hmk : Hid (kk.length = kk.length) := rfl
        have hkcl := kcells_len kk
        obtain ⟨mk, hmk⟩ : ∃ mk, mk = kk.length := ⟨_, rfl⟩
        rw [← hmk] at d1 hm2 hkcl
        have hkc1 : (kcells kk).length = mk * 1 := by rw [hkcl, Nat.mul_one]
        have Hn : Hid (m + mk = ((P.take (j + 1)).map (tabK lt)).flatten.length) := by
          show _ = _
          rw [← Hst.out, List.length_append, ← Hm.out, hmk]
        have Hys : Hid (kcells ((P.take j).map (tabK lt)).flatten ++ kcells kk = kcells ((P.take (j + 1)).map (tabK lt)).flatten) := by
          show _ = _
          rw [kcells_app, Hst.out]
        have ho := Ho.out
        have hz := Hb.out.size
        clear hT hte hmk Hmk Hst hkcl hKl hjl d0
        go_wp2_with (first | (at_builtin; refine hold ?_) | (at_make; refine hold ?_))
        (with_reducible refine unhold ?_)
        refine wpList_apd rfl _ _ _ rfl E8 w3.heap.size _ m _ _ rfl ho _ mk _ (kcells kk) rfl hkc1 hk2 (kcells_one kk) (m + mk) rfl _ Hys.out (by omega) (by omega) hz ?_
        intro A5 d5 w9 ho9 hg9 _
        have Hb9 := Lib.hid (Hb.out.grown hg9 hz ho.row_ge)
        have Ho9 := Lib.hid ho9
        clear ho9 hg9 ho hk2
        go_wp2_with fail
        go_roundw
        case rel => exact ⟨j + 1, m + mk, A5, d5, rfl, by go_num, by omega, by omega, Hn, Ho9, Hb9⟩
        case measure => simp [intOf]; omega
      · obtain rfl : j = pn := by omega
        have hX2 : P.take j = P := List.take_of_length_le (by rw [Hpl.out]; exact Nat.le_refl _)
        have Hm2 : Hid (X.length = m) := by
          show _ = _
          rw [HX.out, Hm.out, hX2]
        have Ho2 : Hid (Own wr w3.heap.size 5 1 B m g (kcells X)) := by
          show Own _ _ _ _ _ _ _ _
          have := Ho.out
          rwa [hX2, ← HX.out] at this
        have Hfin := Lib.hid (Hb1.out.trans (Hb.out.mono Hb1.out.size))
        clear hX2
        go_wp2_with fail
        go_ret2
        exact ⟨⟨B, g, by rw [Hm2.out]; rfl, by rw [Hm2.out]; exact Ho2.out.lower Hb1.out.size⟩, Hfin.out⟩
  · have HX2 := Lib.hid (Hnil.out hE)
    have e1 : (E == 0) = false := by rw [beq_eq_false_iff_ne]; exact hE
    have e2 : (E != 0) = true := by simpa using hE
    clear Hnil hE
    go_wp2_with fail
    go_ret2
    exact ⟨⟨none, 0, by rw [HX2.out]; rfl, by rw [HX2.out]; exact Own.nil _ _ _ _⟩, Hb1.out⟩
end Go.Proofs.YtheafcfbahdcfaaDoor
