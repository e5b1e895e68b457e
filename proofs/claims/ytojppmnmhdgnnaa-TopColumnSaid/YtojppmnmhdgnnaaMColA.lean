/- Walks: numbers as runs: the program's and the reference's. -/
import Derived.Test.YtojppmnmhdgnnaaMCoMP
import Derived.Test.YtojppmnmhdgnnaaMLst
import Derived.Test.YtojppmnmhdgnnaaMDwEF
import Derived.Test.YtojppmnmhdgnnaaMOwP
import Derived.Deep.QuietTactic
import Derived.BigQuiet
namespace Go.Proofs.Ytojppmnmhdgnnaa
set_option linter.unusedVariables false
set_option linter.unusedSimpArgs false
open Go.RowKit

attribute [local go_sem ↓] Go.wp_at_zero Go.wp_at_succ

def runc (l : List (Int × Nat)) : List Value := l.flatMap fun r => [.int .i64 r.1, .int .i64 (r.2 : Int)]
theorem runc_len (l : List (Int × Nat)) : (runc l).length = l.length * 2 := flat_len _ 2 (fun _ => rfl) l
theorem runc_append (l m : List (Int × Nat)) : runc (l ++ m) = runc l ++ runc m := List.flatMap_append
theorem Erun : ElemT Try.prog 97 100 2 16 (.agg #[.int .i64 0, .int .i64 0]) := ElemT.mk' (by kernel_rfl) (by kernel_rfl) rfl (by omega)
theorem icl_get {w : World} {A : Option Addr} {l : List Int} (h : Rd w A (icl l)) {j : Nat} (hj : j < l.length) : ∃ b o, A = some ⟨b, o, none⟩ ∧ w.cell? ⟨b, o + j, none⟩ = some (.int .i64 l[j]) := by
  obtain ⟨b, o, e, hr⟩ := h (by intro e; have := congrArg List.length e; rw [icl_len, List.length_nil] at this; omega)
  refine ⟨b, o, e, hr j _ ?_⟩
  unfold icl
  rw [List.getElem?_map, List.getElem?_eq_getElem hj]
  rfl
theorem Rd.run {w : World} {A : Option Addr} {l : List (Int × Nat)} (h : Rd w A (runc l)) {j : Nat} (hj : j < l.length) :
    ∃ b o, A = some ⟨b, o, none⟩ ∧ w.cell? ⟨b, o + j * 2, none⟩ = some (.int .i64 l[j].1) ∧ w.cell? ⟨b, o + j * 2 + 1, none⟩ = some (.int .i64 (l[j].2 : Int)) := by
  have h0 := flat_get (fun s : Int × Nat => [Value.int .i64 s.1, .int .i64 (s.2 : Int)]) 2 (fun _ => rfl) l j l[j] 0 (List.getElem?_eq_getElem hj) (by omega)
  have h1 := flat_get (fun s : Int × Nat => [Value.int .i64 s.1, .int .i64 (s.2 : Int)]) 2 (fun _ => rfl) l j l[j] 1 (List.getElem?_eq_getElem hj) (by omega)
  simp only [List.getElem?_cons_zero, List.getElem?_cons_succ, Nat.add_zero] at h0 h1
  obtain ⟨b, o, e, hr⟩ := h (by
    intro e
    have := congrArg List.length e
    rw [runc_len, List.length_nil] at this
    omega)
  refine ⟨b, o, e, hr (j * 2) _ h0, ?_⟩
  have := hr (j * 2 + 1) _ h1
  rwa [← Nat.add_assoc] at this

/-- Runs in memory of the call's own. -/
def RunsOK (x : List (Int × Nat)) (w : World) (e : Ending) (w' : World) : Prop :=
  (∃ A c, e = .returned (.slice A x.length c) ∧ Own w' w.heap.size 100 2 A x.length c (runc x)) ∧ Below w.heap.size w w'

theorem runs_end {l : List Int} {i : Nat} (h : i + 1 = l.length) (k : Nat) : runsF (l.drop i) k = [(l[i], k + 1)] := by
  rw [List.drop_eq_getElem_cons (by omega), List.drop_eq_nil_of_le (by omega)]
  rfl
theorem runs_next {l : List Int} {i : Nat} (h : i + 1 < l.length) (k : Nat) : runsF (l.drop i) k = if l[i] = l[i + 1] then runsF (l.drop (i + 1)) (k + 1) else (l[i], k + 1) :: runsF (l.drop (i + 1)) 0 := by
  rw [List.drop_eq_getElem_cons (show i < l.length by omega), List.drop_eq_getElem_cons h, runsF]


set_option maxHeartbeats 8000000 in
set_option maxRecDepth 100000 in
theorem runsof_any (l : List Int) (n c : Nat) (A : Option Addr) (w : World) (hl : l.length = n) (hr : Rd w A (icl l)) (hn : n ≤ 100000) :
    Calls Try.prog 57 #[.slice A n c] w fun e w' => RunsOK (runsM l) w e w' := by
  have Hl := Lib.hid hl
  have Hr := Lib.hid hr
  obtain ⟨R, hR⟩ : ∃ R, runsM l = R := ⟨_, rfl⟩
  rw [hR]
  have HR := Lib.hid hR
  clear hl hr hR
  go_enter Try.func57, Try.ntmps57
  go_wp2_with fail
  go_loopw [3, 4, 8] (fun vo vf vi wr => ∃ (i f m c' : Nat) (A' : Option Addr) (o : List (Int × Nat)), vo = .slice A' m c' ∧ vf = .int .i64 (f : Int) ∧ vi = .int .i64 (i : Int) ∧ i ≤ n ∧ f ≤ i ∧ m ≤ i ∧ Hid (o.length = m) ∧ Hid (R = o ++ runsF (l.drop i) (i - f)) ∧ Hid (Own wr w.heap.size 100 2 A' m c' (runc o)) ∧ Hid (Below w.heap.size w wr)) (fun _ _ vi _ => n - (intOf vi).toNat)
  case atStart => exact ⟨0, 0, 0, 0, none, [], rfl, rfl, rfl, by omega, by omega, by omega, rfl, HR.out.symm, Own.nil _ _ _ _, Below.refl _ _⟩
  case round =>
    obtain ⟨i, f, m, c', A', o, rfl, rfl, rfl, hi, hf, hm, Hm, Ho, HO, Hb⟩ := hrel
    by_cases hin : i < n
    · have hil : i < l.length := by rw [Hl.out]; exact hin
      have hiI : (i : Int) < (n : Int) := by omega
      have hi0 : (0 : Int) ≤ (i : Int) := by omega
      obtain ⟨b, ob, hA, c0⟩ := icl_get (Hr.out.below Hb.out) hil
      have hw1 : IntKind.i64.wrap ((i : Int) + 1) = (i : Int) + 1 := by rw [IntKind.wrap_i64]; omega
      have hw2 : IntKind.i64.wrap ((i : Int) + 1 - (f : Int)) = (i : Int) + 1 - (f : Int) := by rw [IntKind.wrap_i64]; omega
      have Happ : Hid (∀ x : Int, runc o ++ [.int .i64 x, .int .i64 ((i : Int) + 1 - (f : Int))] = runc (o ++ [(x, i - f + 1)])) := fun x => by
        have e : ((i - f + 1 : Nat) : Int) = (i : Int) + 1 - (f : Int) := by omega
        rw [runc_append, ← e]
        rfl
      by_cases hlast : i + 1 = n
      · have Hend : Hid (R = (o ++ [(l[i], i - f + 1)]) ++ runsF (l.drop (i + 1)) 0) := by
          show _ = _
          rw [Ho.out, runs_end (by rw [Hl.out]; exact hlast), List.drop_eq_nil_of_le (by rw [Hl.out]; omega)]
          simp [runsF]
        have hq : decide ((i : Int) + 1 = (n : Int)) = true := decide_eq_true (by omega)
        have hq2 : ((i : Int) + 1 == (n : Int)) = true := by rw [beq_iff_eq]; omega
        subst hA
        generalize l[i] = x at *
        clear Ho hil hlast
        go_wp2_with fail
        go_quiet (fail)
        go_wp2_with (first | (at_builtin; refine hold ?_) | (at_make; refine hold ?_))
        (with_reducible refine unhold ?_)
        have hW : Own (wr.drewN nq) w.heap.size 100 2 A' m c' (runc o) := HO.out
        have hbW : Below (wr.drewN nq).heap.size (wr.drewN nq) ((wr.drewN nq).alloc (.cells #[.int .i64 x, .int .i64 ((i : Int) + 1 - (f : Int))] 100)) := (Below.refl _ _).alloc (Nat.le_refl _) _
        have hnew := (Blk.new (wr.drewN nq) 100 #[.int .i64 x, .int .i64 ((i : Int) + 1 - (f : Int))]).range
        have hb5 := (below_drewN' Hb.out nq).trans (hbW.mono (below_drewN' Hb.out nq).size)
        have ho5 := Own.below hW hbW
        refine wpList_apd rfl _ _ _ rfl Erun w.heap.size _ m _ (runc o) rfl ho5 _ 1 _ [.int .i64 x, .int .i64 ((i : Int) + 1 - (f : Int))] rfl rfl (fun _ => ⟨_, _, rfl, hnew⟩) (by simp [Value.oneCell']) (m + 1) rfl _ rfl (by omega) (by omega) hb5.size ?_
        intro A9 c9 w9 ho9 hg9 _
        have Hb9 := Lib.hid (hb5.grown hg9 hb5.size ho5.row_ge)
        have HO9 := Lib.hid ho9
        clear hW hbW hnew hb5 ho5 ho9 hg9
        rw [Happ.out x] at HO9
        go_wp2_with fail
        go_roundw
        case rel => exact ⟨i + 1, i + 1, m + 1, c9, A9, o ++ [(x, i - f + 1)], rfl, by go_num, by go_num, by omega, by omega, by omega, (by show _ = _; rw [List.length_append, Hm.out]; rfl), (by rw [Nat.sub_self]; exact Hend), HO9, Hb9⟩
        case measure => simp only [intOf, Int.toNat_natCast]; omega
      · have hnl : i + 1 < l.length := by rw [Hl.out]; omega
        obtain ⟨b2, ob2, hA2, c1⟩ := icl_get (Hr.out.below Hb.out) hnl
        rw [hA] at hA2
        cases hA2
        have c1' : wr.cell? ⟨b, ob + (i + 1), none⟩ = some (.int .i64 l[i + 1]) := c1
        have Hnx := Lib.hid (runs_next hnl (i - f))
        have hq : decide ((i : Int) + 1 = (n : Int)) = false := decide_eq_false (by omega)
        have hq2 : ((i : Int) + 1 == (n : Int)) = false := by rw [beq_eq_false_iff_ne]; omega
        obtain ⟨i1, hi1⟩ : ∃ i1, i + 1 = i1 := ⟨_, rfl⟩
        have hi1I : (i : Int) + 1 = (i1 : Int) := by omega
        have hi10 : (0 : Int) ≤ (i1 : Int) := by omega
        have hi1n : (i1 : Int) < (n : Int) := by omega
        have hq3 : decide ((i1 : Int) = (n : Int)) = false := decide_eq_false (by omega)
        have hq4 : decide (i1 = n) = false := decide_eq_false (by omega)
        have hq5 : ((i1 : Int) == (n : Int)) = false := by rw [beq_eq_false_iff_ne]; omega
        subst hA
        generalize l[i] = x at *
        generalize l[i + 1] = y at *
        rw [hi1] at c1'
        have Hi1 := Lib.hid hi1
        clear hil hnl hlast c1 hi1
        by_cases hxy : x = y
        · have Hsame : Hid (R = o ++ runsF (l.drop (i + 1)) (i + 1 - f)) := by
            show _ = _
            rw [Ho.out, Hnx.out, if_pos hxy, show i - f + 1 = i + 1 - f by omega]
          have hne : (y != x) = false := by rw [hxy]; simp
          subst hxy
          clear Hnx Ho Happ hw2
          go_wp2_with fail
          go_quiet (fail)
          go_wp2_with fail
          go_roundw
          case rel => exact ⟨i + 1, f, m, c', A', o, rfl, rfl, by go_num, by omega, by omega, by omega, Hm, Hsame, HO, below_drewN' Hb.out _⟩
          case measure => simp only [intOf, Int.toNat_natCast]; omega
        · have Hend : Hid (R = (o ++ [(x, i - f + 1)]) ++ runsF (l.drop (i + 1)) 0) := by
            show _ = _
            rw [Ho.out, Hnx.out, if_neg hxy]
            simp
          have hne : (y != x) = true := by rw [bne_iff_ne]; exact fun e => hxy e.symm
          clear Hnx Ho hxy
          go_wp2_with fail
          go_quiet (fail)
          clear hi1I
          go_wp2_with (first | (at_builtin; refine hold ?_) | (at_make; refine hold ?_))
          (with_reducible refine unhold ?_)
          have hW : Own (wr.drewN nq) w.heap.size 100 2 A' m c' (runc o) := HO.out
          have hbW : Below (wr.drewN nq).heap.size (wr.drewN nq) ((wr.drewN nq).alloc (.cells #[.int .i64 x, .int .i64 ((i : Int) + 1 - (f : Int))] 100)) := (Below.refl _ _).alloc (Nat.le_refl _) _
          have hnew := (Blk.new (wr.drewN nq) 100 #[.int .i64 x, .int .i64 ((i : Int) + 1 - (f : Int))]).range
          have hb5 := (below_drewN' Hb.out nq).trans (hbW.mono (below_drewN' Hb.out nq).size)
          have ho5 := Own.below hW hbW
          refine wpList_apd rfl _ _ _ rfl Erun w.heap.size _ m _ (runc o) rfl ho5 _ 1 _ [.int .i64 x, .int .i64 ((i : Int) + 1 - (f : Int))] rfl rfl (fun _ => ⟨_, _, rfl, hnew⟩) (by simp [Value.oneCell']) (m + 1) rfl _ rfl (by omega) (by omega) hb5.size ?_
          intro A9 c9 w9 ho9 hg9 _
          have Hb9 := Lib.hid (hb5.grown hg9 hb5.size ho5.row_ge)
          have HO9 := Lib.hid ho9
          clear hW hbW hnew hb5 ho5 ho9 hg9
          rw [Happ.out x] at HO9
          go_wp2_with fail
          go_roundw
          case rel => exact ⟨i + 1, i + 1, m + 1, c9, A9, o ++ [(x, i - f + 1)], rfl, by go_num, by go_num, by omega, by omega, by omega, (by show _ = _; rw [List.length_append, Hm.out]; rfl), (by rw [Nat.sub_self]; exact Hend), HO9, Hb9⟩
          case measure => simp only [intOf, Int.toNat_natCast]; omega
    · obtain rfl : i = n := by omega
      have hres : Hid (o = R) := by
        show _ = _
        rw [Ho.out, List.drop_eq_nil_of_le (by rw [Hl.out]; exact Nat.le_refl _)]
        simp [runsF]
      rw [hres.out] at Hm HO
      rw [← Hm.out] at HO ⊢
      clear Ho
      go_wp2_with fail
      go_ret
      exact ⟨⟨_, _, rfl, HO.out⟩, Hb.out⟩

theorem runc_last (o : List (Int × Nat)) (x : Int) (k : Nat) : (runc (o ++ [(x, k)])).set (o.length * 2 + 1) (.int .i64 ((k : Int) + 1)) = runc (o ++ [(x, k + 1)]) := by
  rw [runc_append, runc_append, List.set_append_right _ _ (by rw [runc_len]; omega), runc_len, show o.length * 2 + 1 - o.length * 2 = 1 from by omega]
  rfl

set_option maxHeartbeats 8000000 in
set_option maxRecDepth 100000 in
theorem rrunsof_any (l : List Int) (n c : Nat) (A : Option Addr) (w : World) (hl : l.length = n) (hr : Rd w A (icl l)) (hn : n ≤ 100000) :
    Calls Try.prog 80 #[.slice A n c] w fun e w' => RunsOK (runsM l) w e w' := by
  have Hl := Lib.hid hl
  have Hr := Lib.hid hr
  obtain ⟨R, hR⟩ : ∃ R, runsM l = R := ⟨_, rfl⟩
  rw [hR]
  have HR := Lib.hid hR
  clear hl hr hR
  go_enter Try.func80, Try.ntmps80
  go_wp2_with fail
  go_loopw [3, 4] (fun vo vi wr => ∃ (i m c' : Nat) (A' : Option Addr) (o : List (Int × Nat)), vo = .slice A' m c' ∧ vi = .int .i64 (i : Int) ∧ i ≤ n ∧ m ≤ i ∧ Hid (o.length = m) ∧ Hid (Own wr w.heap.size 100 2 A' m c' (runc o)) ∧ Hid (Below w.heap.size w wr) ∧ Hid ((i = 0 ∧ o = []) ∨ ∃ (i' : Nat) (p : List (Int × Nat)) (x : Int) (k : Nat), i = i' + 1 ∧ o = p ++ [(x, k + 1)] ∧ k ≤ i' ∧ l[i']? = some x ∧ R = p ++ runsF (x :: l.drop i) k)) (fun _ vi _ => n - (intOf vi).toNat)
  case atStart => exact ⟨0, 0, 0, none, [], rfl, rfl, by omega, by omega, rfl, Own.nil _ _ _ _, Below.refl _ _, .inl ⟨rfl, rfl⟩⟩
  case round =>
    obtain ⟨i, m, c', A', o, rfl, rfl, hi, hm, Hm, HO, Hb, Hor⟩ := hrel
    by_cases hin : i < n
    · have hil : i < l.length := by rw [Hl.out]; exact hin
      have hiI : (i : Int) < (n : Int) := by omega
      have hi0 : (0 : Int) ≤ (i : Int) := by omega
      obtain ⟨b, ob, hA, c0⟩ := icl_get (Hr.out.below Hb.out) hil
      have Happ : Hid (∀ x : Int, runc o ++ [.int .i64 x, .int .i64 1] = runc (o ++ [(x, 0 + 1)])) := fun x => by
        rw [runc_append]
        rfl
      rcases Hor.out with ⟨hz, ho⟩ | ⟨i', p, x', k, hi', hop, hk, hx', hRp⟩
      · have gz : decide (0 < i) = false := decide_eq_false (by omega)
        have Hnew : Hid ((i + 1 = 0 ∧ o ++ [(l[i], 0 + 1)] = []) ∨ ∃ (i' : Nat) (p : List (Int × Nat)) (x : Int) (k : Nat), i + 1 = i' + 1 ∧ o ++ [(l[i], 0 + 1)] = p ++ [(x, k + 1)] ∧ k ≤ i' ∧ l[i']? = some x ∧ R = p ++ runsF (x :: l.drop (i + 1)) k) :=
          .inr ⟨i, o, l[i], 0, rfl, rfl, by omega, List.getElem?_eq_getElem hil, by
            rw [← List.drop_eq_getElem_cons hil, hz, List.drop_zero, ← HR.out, ho]
            rfl⟩
        subst hA
        generalize l[i] = x at *
        clear hil Hor hz ho
        go_wp2_with fail
        go_quiet (fail)
        go_wp2_with (first | (at_builtin; refine hold ?_) | (at_make; refine hold ?_))
        (with_reducible refine unhold ?_)
        have hW : Own (wr.drewN nq) w.heap.size 100 2 A' m c' (runc o) := HO.out
        have hbW : Below (wr.drewN nq).heap.size (wr.drewN nq) ((wr.drewN nq).alloc (.cells #[.int .i64 x, .int .i64 1] 100)) := (Below.refl _ _).alloc (Nat.le_refl _) _
        have hnew := (Blk.new (wr.drewN nq) 100 #[.int .i64 x, .int .i64 1]).range
        have hb5 := (below_drewN' Hb.out nq).trans (hbW.mono (below_drewN' Hb.out nq).size)
        have ho5 := Own.below hW hbW
        refine wpList_apd rfl _ _ _ rfl Erun w.heap.size _ m _ (runc o) rfl ho5 _ 1 _ [.int .i64 x, .int .i64 1] rfl rfl (fun _ => ⟨_, _, rfl, hnew⟩) (by simp [Value.oneCell']) (m + 1) rfl _ rfl (by omega) (by omega) hb5.size ?_
        intro A9 c9 w9 ho9 hg9 _
        have Hb9 := Lib.hid (hb5.grown hg9 hb5.size ho5.row_ge)
        have HO9 := Lib.hid ho9
        clear hW hbW hnew hb5 ho5 ho9 hg9
        rw [Happ.out x] at HO9
        go_wp2_with fail
        go_roundw
        case rel => exact ⟨i + 1, m + 1, c9, A9, o ++ [(x, 0 + 1)], rfl, by go_num, by omega, by omega, (by show _ = _; rw [List.length_append, Hm.out]; rfl), HO9, Hb9, Hnew⟩
        case measure => simp only [intOf, Int.toNat_natCast]; omega
      · have gz : decide (0 < i) = true := decide_eq_true (by omega)
        have hil' : i' < l.length := by omega
        have hx2 : l[i'] = x' := by rw [List.getElem?_eq_getElem hil'] at hx'; injection hx'
        obtain ⟨b2, ob2, hA2, c1⟩ := icl_get (Hr.out.below Hb.out) hil'
        rw [hA] at hA2
        cases hA2
        rw [hx2] at c1
        have hi'I : (i : Int) - 1 = (i' : Int) := by omega
        have hi'0 : (0 : Int) ≤ (i' : Int) := by omega
        have hi'n : (i' : Int) < (n : Int) := by omega
        have hil2 := List.getElem?_eq_getElem hil
        have hdr := List.drop_eq_getElem_cons hil
        subst hA
        obtain ⟨x, hx⟩ : ∃ x, l[i] = x := ⟨_, rfl⟩
        rw [hx] at c0 hil2 hdr
        rw [hdr, runsF] at hRp
        by_cases hxx : x' = x
        · rw [if_pos hxx] at hRp
          subst hxx
          have hme : p.length + 1 = m := by rw [← Hm.out, hop, List.length_append]; rfl
          have Hnew : Hid ((i + 1 = 0 ∧ p ++ [(x', k + 1 + 1)] = []) ∨ ∃ (i' : Nat) (p' : List (Int × Nat)) (x : Int) (k' : Nat), i + 1 = i' + 1 ∧ p ++ [(x', k + 1 + 1)] = p' ++ [(x, k' + 1)] ∧ k' ≤ i' ∧ l[i']? = some x ∧ R = p' ++ runsF (x :: l.drop (i + 1)) k') :=
            .inr ⟨i, p, x', k + 1, rfl, rfl, by omega, hil2, hRp⟩
          have Hlen : Hid ((p ++ [(x', k + 1 + 1)]).length = m) := by show _ = _; rw [List.length_append, ← hme]; rfl
          obtain ⟨g, hg⟩ : ∃ g, A' = some ⟨g, 0, none⟩ := by
            rcases HO.out.lies with ⟨_, h0, _⟩ | ⟨g, cur, hA, _⟩
            · omega
            · exact ⟨g, hA⟩
          subst hg
          have hge := HO.out.row_ge g rfl
          have hput := fun d => (show Own (wr.drewN d) w.heap.size 100 2 (some ⟨g, 0, none⟩) m c' (runc o) from HO.out).put (i := p.length * 2 + 1) (by omega) (.int .i64 (((k + 1 : Nat) : Int) + 1))
          have hset := runc_last p x' (k + 1)
          rw [← hop] at hset
          obtain ⟨bk, oo, e, d0, d1⟩ := HO.out.rd.run (j := p.length) (by rw [Hm.out]; omega)
          cases e
          have hgt : o[p.length]'(by rw [Hm.out]; omega) = (x', k + 1) := by
            subst hop
            rw [List.getElem_append_right (Nat.le_refl _)]
            simp
          rw [hgt] at d1
          dsimp only at d1
          have hfr : wr.frozen? ⟨g, p.length * 2 + 1, none⟩ = false := (hput 0).2.2
          have HO2 : Hid (∀ d, Own ((wr.drewN d).setCell ⟨g, p.length * 2 + 1, none⟩ (.int .i64 (((k + 1 : Nat) : Int) + 1))) w.heap.size 100 2 (some ⟨g, 0, none⟩) m c' (runc (p ++ [(x', k + 1 + 1)]))) := fun d => by
            have := (hput d).1
            rw [hset] at this
            exact this
          have Hb2 : Hid (∀ d, Below w.heap.size w ((wr.drewN d).setCell ⟨g, p.length * 2 + 1, none⟩ (.int .i64 (((k + 1 : Nat) : Int) + 1)))) := fun d => (below_drewN' Hb.out d).setCell (p := ⟨g, p.length * 2 + 1, none⟩) hge _
          obtain ⟨q, hq⟩ : ∃ q, p.length = q := ⟨_, rfl⟩
          obtain ⟨K, hK⟩ : ∃ K : Int, ((k + 1 : Nat) : Int) = K := ⟨_, rfl⟩
          rw [hq] at hme d1 hfr HO2 Hb2
          rw [hK] at d1 HO2 Hb2
          have hmq : (m : Int) - 1 = (q : Int) := by omega
          have hq0 : (0 : Int) ≤ (q : Int) := by omega
          have hqm : (q : Int) < (m : Int) := by omega
          have hwK : IntKind.i64.wrap (K + 1) = K + 1 := by rw [IntKind.wrap_i64]; omega
          rw [Nat.zero_add] at d1
          clear hput hset hgt d0 HO Hb Hor hop hRp hil hil' hx2 hx' hil2 hdr hx hq hK hi' hge
          go_wp2_with fail
          go_quiet (fail)
          go_wp2_with fail
          go_roundw
          case rel => exact ⟨i + 1, m, c', some ⟨g, 0, none⟩, p ++ [(x', k + 1 + 1)], rfl, by go_num, by omega, by omega, Hlen, HO2.out _, Hb2.out _, Hnew⟩
          case measure => simp only [intOf, Int.toNat_natCast]; omega
        · rw [if_neg hxx] at hRp
          have hne : (x == x') = false := by rw [beq_eq_false_iff_ne]; exact fun e => hxx e.symm
          have Hnew : Hid ((i + 1 = 0 ∧ o ++ [(x, 0 + 1)] = []) ∨ ∃ (i' : Nat) (p : List (Int × Nat)) (x' : Int) (k : Nat), i + 1 = i' + 1 ∧ o ++ [(x, 0 + 1)] = p ++ [(x', k + 1)] ∧ k ≤ i' ∧ l[i']? = some x' ∧ R = p ++ runsF (x' :: l.drop (i + 1)) k) :=
            .inr ⟨i, o, x, 0, rfl, rfl, by omega, hil2, by rw [hRp, hop, List.append_assoc]; rfl⟩
          clear hil hil' Hor hop hRp hx2 hx' hil2 hdr hx hxx hi'
          go_wp2_with fail
          go_quiet (fail)
          go_wp2_with (first | (at_builtin; refine hold ?_) | (at_make; refine hold ?_))
          (with_reducible refine unhold ?_)
          have hW : Own (wr.drewN nq) w.heap.size 100 2 A' m c' (runc o) := HO.out
          have hbW : Below (wr.drewN nq).heap.size (wr.drewN nq) ((wr.drewN nq).alloc (.cells #[.int .i64 x, .int .i64 1] 100)) := (Below.refl _ _).alloc (Nat.le_refl _) _
          have hnew := (Blk.new (wr.drewN nq) 100 #[.int .i64 x, .int .i64 1]).range
          have hb5 := (below_drewN' Hb.out nq).trans (hbW.mono (below_drewN' Hb.out nq).size)
          have ho5 := Own.below hW hbW
          refine wpList_apd rfl _ _ _ rfl Erun w.heap.size _ m _ (runc o) rfl ho5 _ 1 _ [.int .i64 x, .int .i64 1] rfl rfl (fun _ => ⟨_, _, rfl, hnew⟩) (by simp [Value.oneCell']) (m + 1) rfl _ rfl (by omega) (by omega) hb5.size ?_
          intro A9 c9 w9 ho9 hg9 _
          have Hb9 := Lib.hid (hb5.grown hg9 hb5.size ho5.row_ge)
          have HO9 := Lib.hid ho9
          clear hW hbW hnew hb5 ho5 ho9 hg9
          rw [Happ.out x] at HO9
          go_wp2_with fail
          go_roundw
          case rel => exact ⟨i + 1, m + 1, c9, A9, o ++ [(x, 0 + 1)], rfl, by go_num, by omega, by omega, (by show _ = _; rw [List.length_append, Hm.out]; rfl), HO9, Hb9, Hnew⟩
          case measure => simp only [intOf, Int.toNat_natCast]; omega
    · obtain rfl : i = n := by omega
      have hres : Hid (o = R) := by
        show _ = _
        rcases Hor.out with ⟨hz, ho⟩ | ⟨i', p, x', k, hi', hop, hk, hx', hRp⟩
        · have hl0 : l = [] := List.eq_nil_of_length_eq_zero (by rw [Hl.out]; exact hz)
          rw [ho, ← HR.out, hl0]
          rfl
        · rw [hRp, List.drop_eq_nil_of_le (by rw [Hl.out]; exact Nat.le_refl _), hop]
          rfl
      rw [hres.out] at Hm HO
      rw [← Hm.out] at HO ⊢
      clear Hor
      go_wp2_with fail
      go_ret
      exact ⟨⟨_, _, rfl, HO.out⟩, Hb.out⟩
end Go.Proofs.Ytojppmnmhdgnnaa
