/- The walks of the reference's Of and List. -/
import Derived.Test.YtjfpflnijkokaaaSwI
namespace Go.Proofs.Ytjfpflnijkokaaa
open Go.RowKit

attribute [local go_sem ↓] Go.wp_at_zero Go.wp_at_succ

theorem setL_put (f h : Nat → Bool) (v : Bool) {k : Nat} (hk : k < 4096) (hh : ∀ t, t < 4096 → (if t = k then v else f t) = h t) : (bcl (setL f)).set k (.bool v) = bcl (setL h) := by
  rw [bcl_set]
  refine congrArg bcl (List.ext_getElem? fun i => ?_)
  rw [List.getElem?_set]
  by_cases hi : i < 4096
  · rw [setL_get _ hi, setL_get _ hi]
    by_cases e : k = i
    · subst e
      rw [if_pos rfl, if_pos (by rw [setL_len]; exact hk), ← hh k hk, if_pos rfl]
    · rw [if_neg e, ← hh i hi, if_neg (fun h => e h.symm)]
  · have h1 : (setL f)[i]? = none := List.getElem?_eq_none (by rw [setL_len]; omega)
    have h2 : (setL h)[i]? = none := List.getElem?_eq_none (by rw [setL_len]; omega)
    rw [h1, h2]
    split
    · rename_i e
      omega
    · rfl
/-- A place is put. -/
theorem bput {w : World} {base g : Nat} {f h : Nat → Bool} (ho : Own w base 4 1 (some ⟨g, 0, none⟩) 4096 4096 (bcl (setL f))) (v : Bool) {k : Nat} (hk : k < 4096) (hh : ∀ t, t < 4096 → (if t = k then v else f t) = h t) :
    Own (w.setCell ⟨g, k, none⟩ (.bool v)) base 4 1 (some ⟨g, 0, none⟩) 4096 4096 (bcl (setL h)) ∧ w.grownBy (w.setCell ⟨g, k, none⟩ (.bool v)) (some g) ∧ w.frozen? ⟨g, k, none⟩ = false := by
  have h1 := ho.put (i := k) (by omega) (.bool v)
  rw [setL_put f h v hk hh] at h1
  exact h1

theorem int_at {w : World} {A : Option Addr} {l : List Int} (h : Rd w A (icl l)) {j : Nat} (hj : j < l.length) : ∃ b o, A = some ⟨b, o, none⟩ ∧ w.cell? ⟨b, o + j, none⟩ = some (.int .i64 l[j]) := by
  obtain ⟨b, o, e, h1⟩ := icl_at h hj
  rw [List.getElem?_eq_getElem hj] at h1
  exact ⟨b, o, e, h1⟩

set_option maxHeartbeats 16000000 in
set_option maxRecDepth 100000 in
theorem rof_any (p : List Int) (n c : Nat) (A : Option Addr) (w : World) (hl : p.length = n) (hr : Rd w A (icl p)) (hn : n ≤ 5000) :
    Calls Try.prog 11 #[.slice A n c] w fun e w' => ResOK (ofS p) w e w' := by
  have Hout : Hid (∀ k ∈ p, ¬ (0 ≤ k ∧ k < 4096) → ofS p = none) := fun k hk h => ofS_none hk h
  have Hin : Hid ((∀ k ∈ p, 0 ≤ k ∧ k < 4096) → ofS p = some (spansF (fun k => decide ((k : Int) ∈ p)) 4096)) := fun h => by
    unfold ofS
    rw [if_pos ((all_in p).2 h)]
  generalize ofS p = R at *
  have Hl := Lib.hid hl
  have Hr := Lib.hid hr
  clear hl hr
  go_enter Try.func11, Try.ntmps11
  go_wp2_with (first | (at_builtin; refine hold ?_) | (at_make; refine hold ?_))
  (with_reducible refine unhold ?_)
  refine wpList_mkn rfl _ _ _ rfl Ebool w.heap.size _ _ _ _ 4096 rfl rfl rfl rfl (by omega) (by unfold maxLen; omega) (Nat.le_refl _) ?_
  intro w1 ho1 hb1 _
  rw [make_set] at ho1
  have Ho1 : Hid (Own w1 w.heap.size 4 1 (some ⟨w.heap.size, 0, none⟩) 4096 4096 (bcl (setL fun t => decide ((t : Int) ∈ p.take 0)))) := by
    show Own _ _ _ _ _ _ _ _
    rw [show setL (fun t => decide ((t : Int) ∈ p.take 0)) = setL fun _ => false from setL_congr fun t _ => by simp]
    exact ho1
  have Hb1 := Lib.hid hb1
  clear ho1 hb1
  go_wp2_with fail
  go_loopw [5] (fun vi wr => ∃ (j : Nat), vi = .int .i64 (j : Int) ∧ j ≤ n ∧ Hid (∀ k ∈ p.take j, 0 ≤ k ∧ k < 4096) ∧ Hid (Own wr w.heap.size 4 1 (some ⟨w.heap.size, 0, none⟩) 4096 4096 (bcl (setL fun t => decide ((t : Int) ∈ p.take j)))) ∧ Hid (Below w.heap.size w wr)) (fun vi _ => n - (intOf vi).toNat)
  case atStart => exact ⟨0, rfl, by omega, (fun k hk => by simp at hk), Ho1.out, Hb1.out⟩
  case round =>
    obtain ⟨j, rfl, hj, Hk, Ho, Hb⟩ := hrel
    by_cases hjn : j < n
    · have hjl : j < p.length := by rw [Hl.out]; exact hjn
      have hjI : (j : Int) < (n : Int) := by omega
      have hj0 : (0 : Int) ≤ (j : Int) := by omega
      obtain ⟨bb, ob, rfl, c0⟩ := int_at (Hr.out.below Hb.out) hjl
      have Hmem : Hid (p[j] ∈ p) := List.getElem_mem hjl
      have Htk : Hid (p.take (j + 1) = p.take j ++ [p[j]]) := List.take_succ_eq_append_getElem hjl
      generalize p[j] = k at *
      by_cases h1 : k < 0
      · have hf : Hid (R = none) := Hout.out k Hmem.out (by omega)
        clear Ho Hk
        go_wp2_with fail
        go_ret2
        exact ⟨.inl ⟨hf.out, rfl⟩, Hb.out⟩
      · by_cases h2 : 4096 ≤ k
        · have hf : Hid (R = none) := Hout.out k Hmem.out (by omega)
          clear Ho Hk
          go_wp2_with fail
          go_ret2
          exact ⟨.inl ⟨hf.out, rfl⟩, Hb.out⟩
        · obtain ⟨t, rfl⟩ : ∃ t : Nat, k = (t : Int) := ⟨k.toNat, by omega⟩
          have ht0 : (0 : Int) ≤ (t : Int) := by omega
          have ht1 : (t : Int) < 4096 := by omega
          have hset := bset (h := fun x => decide ((x : Int) ∈ p.take (j + 1))) Ho.out (k := t) (by omega) (fun x _ => by
            rw [Htk.out]
            by_cases h : x = t
            · subst h
              simp
            · rw [decide_eq_false h, Bool.or_false]
              refine decide_eq_decide.2 ?_
              rw [List.mem_append, List.mem_singleton]
              exact ⟨.inl, fun h' => h'.elim id (fun e => (h (by omega)).elim)⟩)
          have hfr := hset.2.2
          obtain ⟨old, hold⟩ : ∃ old, wr.cell? ⟨w.heap.size, t, none⟩ = some (.bool old) := ⟨_, bset_cell Ho.out (k := t) (by omega)⟩
          have Hset := Lib.hid hset.1
          have Hbs := Lib.hid (show Below w.heap.size w (wr.setCell ⟨w.heap.size, t, none⟩ (.bool true)) from Hb.out.setCell (p := ⟨w.heap.size, t, none⟩) (Nat.le_refl _) _)
          have Hk2 : Hid (∀ x ∈ p.take (j + 1), 0 ≤ x ∧ x < 4096) := fun x hx => by
            rw [Htk.out] at hx
            rcases List.mem_append.1 hx with hx | hx
            · exact Hk.out x hx
            · rw [List.mem_singleton.1 hx]
              omega
          clear hset Ho Hb Hk Htk Hmem
          go_wp2_with fail
          go_roundw
          case rel => exact ⟨j + 1, by go_num, by omega, Hk2, Hset, Hbs⟩
          case measure => simp only [intOf, Int.toNat_natCast]; omega
    · obtain rfl : j = n := by omega
      have Htk : Hid (p.take j = p) := List.take_of_length_le (by rw [Hl.out]; exact Nat.le_refl _)
      have hres : Hid (R = some (spansF (fun k => decide ((k : Int) ∈ p)) 4096)) := Hin.out fun k hk => Hk.out k (by rw [Htk.out]; exact hk)
      have Hsp : Hid (Calls Try.prog 28 #[.slice (some ⟨w.heap.size, 0, none⟩) 4096 4096] wr fun e w' => SpsOK (spansF (fun k => decide ((k : Int) ∈ p)) 4096) wr e w') := by
        have h9 := Ho.out
        rw [Htk.out] at h9
        exact rspans_any _ 4096 _ wr h9.rd
      generalize spansF (fun k => decide ((k : Int) ∈ p)) 4096 = m at *
      clear Ho Hk
      go_wp2_with fail
      refine Hsp.out.mono ?_
      rintro e w3 ⟨⟨A3, c3, rfl, ho3⟩, hb3⟩
      have Ho3 := Lib.hid (ho3.lower Hb.out.size)
      have Hb3 := Lib.hid (Hb.out.trans (hb3.mono Hb.out.size))
      clear ho3 hb3
      go_wp2_with fail
      go_ret2
      exact ⟨.inr ⟨m, A3, c3, hres.out, rfl, Ho3.out⟩, Hb3.out⟩

theorem rlist_eq (l : List SpanM) : ((List.range 4096).filter fun t => rightS l && onS l t).map (fun t : Nat => (t : Int)) = if rightS l = true then listS l else [] := by
  cases h : rightS l
  · simp
  · rw [if_pos rfl, listS_on h]
    simp

set_option maxHeartbeats 16000000 in
set_option maxRecDepth 100000 in
theorem rlist_any (l : List SpanM) (n c : Nat) (A : Option Addr) (w : World) (hl : l.length = n) (hr : Rd w A (spc l)) (hn : n ≤ 5000) :
    Calls Try.prog 16 #[.slice A n c] w fun e w' => (∃ A' c', e = .returned (.slice A' (if rightS l = true then listS l else []).length c') ∧ Rd w' A' (icl (if rightS l = true then listS l else []))) ∧ Below w.heap.size w w' := by
  have hset := Lib.hid (rset_any l n c A w hl hr hn)
  rw [← rlist_eq]
  generalize (fun t => rightS l && onS l t) = f at *
  clear hl hr hn
  go_enter Try.func16, Try.ntmps16
  go_wp2_with fail
  refine hset.out.mono ?_
  rintro e w1 ⟨⟨g, rfl, ho1⟩, hb1⟩
  have Hcell : Hid (∀ k, k < 4096 → ∀ w', Below w1.heap.size w1 w' → w'.cell? ⟨g, k, none⟩ = some (.bool (f k))) := fun k hk w' h => bset_cell (ho1.below h) hk
  have Hb1 := Lib.hid hb1
  clear ho1 hb1 hset
  go_wp2_with fail
  go_loopw [4, 5] (fun vo vk wr => ∃ (k m c' : Nat) (A' : Option Addr), vo = .slice A' m c' ∧ vk = .int .i64 (k : Int) ∧ k ≤ 4096 ∧ m ≤ k ∧ Hid ((((List.range k).filter f).map fun t : Nat => (t : Int)).length = m) ∧ Hid (Own wr w1.heap.size 3 1 A' m c' (icl (((List.range k).filter f).map fun t : Nat => (t : Int)))) ∧ Hid (Below w1.heap.size w1 wr)) (fun _ vk _ => 4096 - (intOf vk).toNat)
  case atStart => exact ⟨0, 0, 0, none, rfl, rfl, by omega, by omega, rfl, Own.nil _ _ _ _, Below.refl _ _⟩
  case round =>
    obtain ⟨k, m, c', A', rfl, rfl, hk, hmk, Hm, Ho, Hb⟩ := hrel
    by_cases hkn : k < 4096
    · have hkI : (k : Int) < 4096 := by omega
      have hk0 : (0 : Int) ≤ (k : Int) := by omega
      have d1 := Hcell.out k hkn _ Hb.out
      cases hfk : f k
      · rw [hfk] at d1
        have he : (List.range (k + 1)).filter f = (List.range k).filter f := by
          rw [List.range_succ, List.filter_append]
          simp [hfk]
        have Hm2 : Hid ((((List.range (k + 1)).filter f).map fun t : Nat => (t : Int)).length = m) := by
          show _ = _
          rw [he]
          exact Hm.out
        have Ho2 : Hid (Own wr w1.heap.size 3 1 A' m c' (icl (((List.range (k + 1)).filter f).map fun t : Nat => (t : Int)))) := by
          show Own _ _ _ _ _ _ _ _
          rw [he]
          exact Ho.out
        clear Hm Ho hfk he
        go_wp2_with fail
        go_roundw
        case rel => exact ⟨k + 1, m, c', A', rfl, by go_num, by omega, by omega, Hm2, Ho2, Hb⟩
        case measure => simp only [intOf, Int.toNat_natCast]; omega
      · rw [hfk] at d1
        have he : Hid (((List.range (k + 1)).filter f).map (fun t : Nat => (t : Int)) = ((List.range k).filter f).map (fun t : Nat => (t : Int)) ++ [(k : Int)]) := by
          show _ = _
          rw [List.range_succ, List.filter_append, List.map_append]
          simp [hfk]
        have ho5 := Own.below Ho.out ((Below.refl wr.heap.size wr).alloc (Nat.le_refl _) (.cells #[.int .i64 (k : Int)] 3))
        have hnewr := (Blk.new wr 3 #[.int .i64 (k : Int)]).range
        have hb5 := Hb.out.trans (((Below.refl wr.heap.size wr).alloc (Nat.le_refl _) (.cells #[.int .i64 (k : Int)] 3)).mono Hb.out.size)
        have hz5 := hb5.size
        clear hfk Ho
        go_wp2_with (first | (at_builtin; refine hold ?_) | (at_make; refine hold ?_))
        (with_reducible refine unhold ?_)
        refine wpList_apd rfl _ _ _ rfl Eint' w1.heap.size _ m _ _ rfl ho5 _ 1 _ [.int .i64 (k : Int)] rfl rfl (fun _ => ⟨_, _, rfl, hnewr⟩) (by simp [Value.oneCell']) (m + 1) rfl _ rfl (by omega) (by omega) hz5 ?_
        intro A5 c5 w9 ho9 hg9 _
        have Hb9 := Lib.hid (hb5.grown hg9 hb5.size ho5.row_ge)
        have Ho9 : Hid (Own w9 w1.heap.size 3 1 A5 (m + 1) c5 (icl (((List.range (k + 1)).filter f).map fun t : Nat => (t : Int)))) := by
          show Own _ _ _ _ _ _ _ _
          rw [he.out, icl_snoc]
          exact ho9
        have Hm9 : Hid ((((List.range (k + 1)).filter f).map fun t : Nat => (t : Int)).length = m + 1) := by
          show _ = _
          rw [he.out, List.length_append, Hm.out]
          rfl
        clear ho9 hg9 ho5 hb5 hnewr Hm
        go_wp2_with fail
        go_roundw
        case rel => exact ⟨k + 1, m + 1, c5, A5, rfl, by go_num, by omega, by omega, Hm9, Ho9, Hb9⟩
        case measure => simp only [intOf, Int.toNat_natCast]; omega
    · obtain rfl : k = 4096 := by omega
      have Hm2 : Hid (m = (((List.range 4096).filter f).map fun t : Nat => (t : Int)).length) := Hm.out.symm
      have Hrd := Lib.hid Ho.out.rd
      have Hb2 := Lib.hid (Hb1.out.trans (Hb.out.mono Hb1.out.size))
      clear Hm Ho
      go_wp2_with fail
      go_ret
      rw [Hm2.out]
      exact ⟨⟨A', c', rfl, Hrd.out⟩, Hb2.out⟩
end Go.Proofs.Ytjfpflnijkokaaa
