/- Walks: numbers as runs: the program's and the reference's. Walks: runs as bytes: the program's and the reference's. -/
import Derived.Test.YtojppmnmhdgnnaaGreatMCoMP
import Derived.Test.YtojppmnmhdgnnaaGreatMArIn
import Derived.Test.YtojppmnmhdgnnaaGreatMOwDE
import Derived.Deep.QuietTactic
import Derived.BigQuiet
import Derived.Test.YtojppmnmhdgnnaaGreatMOcPT
namespace Go.Proofs.YtojppmnmhdgnnaaGreat
set_option linter.unusedVariables false
set_option linter.unusedSimpArgs false
open Go.RowKit

attribute [local go_sem ↓] Go.wp_at_zero Go.wp_at_succ

def runc (l : List (Int × Nat)) : List Value := l.flatMap fun r => [.int .i64 r.1, .int .i64 (r.2 : Int)]
theorem runc_len (l : List (Int × Nat)) : (runc l).length = l.length * 2 := flat_len _ 2 (fun _ => rfl) l
theorem runc_append (l m : List (Int × Nat)) : runc (l ++ m) = runc l ++ runc m := List.flatMap_append
theorem Erun : ElemT Tryz.prog 67 69 2 16 (.agg #[.int .i64 0, .int .i64 0]) := ElemT.mk' (by kernel_rfl) (by kernel_rfl) rfl (by omega)
theorem icl_get {w : World} {A : Option Addr} {l : List Int} (h : Rd w A (icl l)) {j : Nat} (hj : j < l.length) : ∃ b o, A = some ⟨b, o, none⟩ ∧ w.cell? ⟨b, o + j, none⟩ = some (.int .i64 l[j]) := by
  obtain ⟨b, o, e, hr⟩ := h (by intro e; have := congrArg List.length e; rw [icl_len, List.length_nil] at this; omega)
  refine ⟨b, o, e, hr j _ ?_⟩
  unfold icl
  rw [List.getElem?_map, List.getElem?_eq_getElem hj]
  rfl
theorem Rd.run {w : World} {A : Option Addr} {l : List (Int × Nat)} (h : Rd w A (runc l)) {j : Nat} (hj : j < l.length) :
    ∃ b o, A = some ⟨b, o, none⟩ ∧ w.cell? ⟨b, o + j * 2, none⟩ = some (.int .i64 l[j].1) ∧ w.cell? ⟨b, o + j * 2 + 1, none⟩ = some (.int .i64 (l[j].2 : Int)) := by
  have h0 := flat_get (fun s : Int × Nat => [Value.int .i64 s.1, .int .i64 (s.2 : Int)]) 2 (fun _ => rfl) l j l[j] 0 (List.getElem?_eq_getElem hj) (by omega)
  have h1 := flat_get (fun s : Int × Nat => [Value.int .i64 s.1, .int .i64 (s.2 : Int)]) 2 (fun _ => rfl) l j l[j] 1 (List.getElem?_eq_getElem hj) (by omega)
  simp only [List.getElem?_cons_zero, List.getElem?_cons_succ, Nat.add_zero] at h0 h1
  obtain ⟨b, o, e, hr⟩ := h (by
    intro e
    have := congrArg List.length e
    rw [runc_len, List.length_nil] at this
    omega)
  refine ⟨b, o, e, hr (j * 2) _ h0, ?_⟩
  have := hr (j * 2 + 1) _ h1
  rwa [← Nat.add_assoc] at this

/-- Runs in memory of the call's own. -/
def RunsOK (x : List (Int × Nat)) (w : World) (e : Ending) (w' : World) : Prop :=
  (∃ A c, e = .returned (.slice A x.length c) ∧ Own w' w.heap.size 69 2 A x.length c (runc x)) ∧ Below w.heap.size w w'

theorem runs_end {l : List Int} {i : Nat} (h : i + 1 = l.length) (k : Nat) : runsF (l.drop i) k = [(l[i], k + 1)] := by
  rw [List.drop_eq_getElem_cons (by omega), List.drop_eq_nil_of_le (by omega)]
  rfl
theorem runs_next {l : List Int} {i : Nat} (h : i + 1 < l.length) (k : Nat) : runsF (l.drop i) k = if l[i] = l[i + 1] then runsF (l.drop (i + 1)) (k + 1) else (l[i], k + 1) :: runsF (l.drop (i + 1)) 0 := by
  rw [List.drop_eq_getElem_cons (show i < l.length by omega), List.drop_eq_getElem_cons h, runsF]


set_option maxHeartbeats 8000000 in
set_option maxRecDepth 100000 in
theorem runsof_any (l : List Int) (n c : Nat) (A : Option Addr) (w : World) (hl : l.length = n) (hr : Rd w A (icl l)) (hn : n ≤ 100000) :
    Calls Tryz.prog 72 #[.slice A n c] w fun e w' => RunsOK (runsM l) w e w' := by
  have Hl := Lib.hid hl
  have Hr := Lib.hid hr
  obtain ⟨R, hR⟩ : ∃ R, runsM l = R := ⟨_, rfl⟩
  rw [hR]
  have HR := Lib.hid hR
  clear hl hr hR
  go_enter Tryz.func72, Tryz.ntmps72
  go_wp2_with fail
  go_loopw [3, 4, 8] (fun vo vf vi wr => ∃ (i f m c' : Nat) (A' : Option Addr) (o : List (Int × Nat)), vo = .slice A' m c' ∧ vf = .int .i64 (f : Int) ∧ vi = .int .i64 (i : Int) ∧ i ≤ n ∧ f ≤ i ∧ m ≤ i ∧ Hid (o.length = m) ∧ Hid (R = o ++ runsF (l.drop i) (i - f)) ∧ Hid (Own wr w.heap.size 69 2 A' m c' (runc o)) ∧ Hid (Below w.heap.size w wr)) (fun _ _ vi _ => n - (intOf vi).toNat)
  case atStart => exact ⟨0, 0, 0, 0, none, [], rfl, rfl, rfl, by omega, by omega, by omega, rfl, HR.out.symm, Own.nil _ _ _ _, Below.refl _ _⟩
  case round =>
    obtain ⟨i, f, m, c', A', o, rfl, rfl, rfl, hi, hf, hm, Hm, Ho, HO, Hb⟩ := hrel
    by_cases hin : i < n
    · have hil : i < l.length := by rw [Hl.out]; exact hin
      have hiI : (i : Int) < (n : Int) := by omega
      have hi0 : (0 : Int) ≤ (i : Int) := by omega
      obtain ⟨b, ob, hA, c0⟩ := icl_get (Hr.out.below Hb.out) hil
      have hw1 : IntKind.i64.wrap ((i : Int) + 1) = (i : Int) + 1 := by rw [IntKind.wrap_i64]; omega
      have hw2 : IntKind.i64.wrap ((i : Int) + 1 - (f : Int)) = (i : Int) + 1 - (f : Int) := by rw [IntKind.wrap_i64]; omega
      have Happ : Hid (∀ x : Int, runc o ++ [.int .i64 x, .int .i64 ((i : Int) + 1 - (f : Int))] = runc (o ++ [(x, i - f + 1)])) := fun x => by
        have e : ((i - f + 1 : Nat) : Int) = (i : Int) + 1 - (f : Int) := by omega
        rw [runc_append, ← e]
        rfl
      by_cases hlast : i + 1 = n
      · have Hend : Hid (R = (o ++ [(l[i], i - f + 1)]) ++ runsF (l.drop (i + 1)) 0) := by
          show _ = _
          rw [Ho.out, runs_end (by rw [Hl.out]; exact hlast), List.drop_eq_nil_of_le (by rw [Hl.out]; omega)]
          simp [runsF]
        have hq : decide ((i : Int) + 1 = (n : Int)) = true := decide_eq_true (by omega)
        have hq2 : ((i : Int) + 1 == (n : Int)) = true := by rw [beq_iff_eq]; omega
        subst hA
        generalize l[i] = x at *
        clear Ho hil hlast
        go_wp2_with fail
        go_quiet (fail)
        go_wp2_with (first | (at_builtin; refine hold ?_) | (at_make; refine hold ?_))
        (with_reducible refine unhold ?_)
        have hW : Own (wr.drewN nq) w.heap.size 69 2 A' m c' (runc o) := HO.out
        have hbW : Below (wr.drewN nq).heap.size (wr.drewN nq) ((wr.drewN nq).alloc (.cells #[.int .i64 x, .int .i64 ((i : Int) + 1 - (f : Int))] 69)) := (Below.refl _ _).alloc (Nat.le_refl _) _
        have hnew := (Blk.new (wr.drewN nq) 69 #[.int .i64 x, .int .i64 ((i : Int) + 1 - (f : Int))]).range
        have hb5 := (below_drewN' Hb.out nq).trans (hbW.mono (below_drewN' Hb.out nq).size)
        have ho5 := Own.below hW hbW
        refine wpList_apd rfl _ _ _ rfl Erun w.heap.size _ m _ (runc o) rfl ho5 _ 1 _ [.int .i64 x, .int .i64 ((i : Int) + 1 - (f : Int))] rfl rfl (fun _ => ⟨_, _, rfl, hnew⟩) (by simp [Value.oneCell']) (m + 1) rfl _ rfl (by omega) (by omega) hb5.size ?_
        intro A9 c9 w9 ho9 hg9 _
        have Hb9 := Lib.hid (hb5.grown hg9 hb5.size ho5.row_ge)
        have HO9 := Lib.hid ho9
        clear hW hbW hnew hb5 ho5 ho9 hg9
        rw [Happ.out x] at HO9
        go_wp2_with fail
        go_roundw
        case rel => exact ⟨i + 1, i + 1, m + 1, c9, A9, o ++ [(x, i - f + 1)], rfl, by go_num, by go_num, by omega, by omega, by omega, (by show _ = _; rw [List.length_append, Hm.out]; rfl), (by rw [Nat.sub_self]; exact Hend), HO9, Hb9⟩
        case measure => simp only [intOf, Int.toNat_natCast]; omega
      · have hnl : i + 1 < l.length := by rw [Hl.out]; omega
        obtain ⟨b2, ob2, hA2, c1⟩ := icl_get (Hr.out.below Hb.out) hnl
        rw [hA] at hA2
        cases hA2
        have c1' : wr.cell? ⟨b, ob + (i + 1), none⟩ = some (.int .i64 l[i + 1]) := c1
        have Hnx := Lib.hid (runs_next hnl (i - f))
        have hq : decide ((i : Int) + 1 = (n : Int)) = false := decide_eq_false (by omega)
        have hq2 : ((i : Int) + 1 == (n : Int)) = false := by rw [beq_eq_false_iff_ne]; omega
        obtain ⟨i1, hi1⟩ : ∃ i1, i + 1 = i1 := ⟨_, rfl⟩
        have hi1I : (i : Int) + 1 = (i1 : Int) := by omega
        have hi10 : (0 : Int) ≤ (i1 : Int) := by omega
        have hi1n : (i1 : Int) < (n : Int) := by omega
        have hq3 : decide ((i1 : Int) = (n : Int)) = false := decide_eq_false (by omega)
        have hq4 : decide (i1 = n) = false := decide_eq_false (by omega)
        have hq5 : ((i1 : Int) == (n : Int)) = false := by rw [beq_eq_false_iff_ne]; omega
        subst hA
        generalize l[i] = x at *
        generalize l[i + 1] = y at *
        rw [hi1] at c1'
        have Hi1 := Lib.hid hi1
        clear hil hnl hlast c1 hi1
        by_cases hxy : x = y
        · have Hsame : Hid (R = o ++ runsF (l.drop (i + 1)) (i + 1 - f)) := by
            show _ = _
            rw [Ho.out, Hnx.out, if_pos hxy, show i - f + 1 = i + 1 - f by omega]
          have hne : (y != x) = false := by rw [hxy]; simp
          subst hxy
          clear Hnx Ho Happ hw2
          go_wp2_with fail
          go_quiet (fail)
          go_wp2_with fail
          go_roundw
          case rel => exact ⟨i + 1, f, m, c', A', o, rfl, rfl, by go_num, by omega, by omega, by omega, Hm, Hsame, HO, below_drewN' Hb.out _⟩
          case measure => simp only [intOf, Int.toNat_natCast]; omega
        · have Hend : Hid (R = (o ++ [(x, i - f + 1)]) ++ runsF (l.drop (i + 1)) 0) := by
            show _ = _
            rw [Ho.out, Hnx.out, if_neg hxy]
            simp
          have hne : (y != x) = true := by rw [bne_iff_ne]; exact fun e => hxy e.symm
          clear Hnx Ho hxy
          go_wp2_with fail
          go_quiet (fail)
          clear hi1I
          go_wp2_with (first | (at_builtin; refine hold ?_) | (at_make; refine hold ?_))
          (with_reducible refine unhold ?_)
          have hW : Own (wr.drewN nq) w.heap.size 69 2 A' m c' (runc o) := HO.out
          have hbW : Below (wr.drewN nq).heap.size (wr.drewN nq) ((wr.drewN nq).alloc (.cells #[.int .i64 x, .int .i64 ((i : Int) + 1 - (f : Int))] 69)) := (Below.refl _ _).alloc (Nat.le_refl _) _
          have hnew := (Blk.new (wr.drewN nq) 69 #[.int .i64 x, .int .i64 ((i : Int) + 1 - (f : Int))]).range
          have hb5 := (below_drewN' Hb.out nq).trans (hbW.mono (below_drewN' Hb.out nq).size)
          have ho5 := Own.below hW hbW
          refine wpList_apd rfl _ _ _ rfl Erun w.heap.size _ m _ (runc o) rfl ho5 _ 1 _ [.int .i64 x, .int .i64 ((i : Int) + 1 - (f : Int))] rfl rfl (fun _ => ⟨_, _, rfl, hnew⟩) (by simp [Value.oneCell']) (m + 1) rfl _ rfl (by omega) (by omega) hb5.size ?_
          intro A9 c9 w9 ho9 hg9 _
          have Hb9 := Lib.hid (hb5.grown hg9 hb5.size ho5.row_ge)
          have HO9 := Lib.hid ho9
          clear hW hbW hnew hb5 ho5 ho9 hg9
          rw [Happ.out x] at HO9
          go_wp2_with fail
          go_roundw
          case rel => exact ⟨i + 1, i + 1, m + 1, c9, A9, o ++ [(x, i - f + 1)], rfl, by go_num, by go_num, by omega, by omega, by omega, (by show _ = _; rw [List.length_append, Hm.out]; rfl), (by rw [Nat.sub_self]; exact Hend), HO9, Hb9⟩
          case measure => simp only [intOf, Int.toNat_natCast]; omega
    · obtain rfl : i = n := by omega
      have hres : Hid (o = R) := by
        show _ = _
        rw [Ho.out, List.drop_eq_nil_of_le (by rw [Hl.out]; exact Nat.le_refl _)]
        simp [runsF]
      rw [hres.out] at Hm HO
      rw [← Hm.out] at HO ⊢
      clear Ho
      go_wp2_with fail
      go_ret
      exact ⟨⟨_, _, rfl, HO.out⟩, Hb.out⟩

theorem runc_last (o : List (Int × Nat)) (x : Int) (k : Nat) : (runc (o ++ [(x, k)])).set (o.length * 2 + 1) (.int .i64 ((k : Int) + 1)) = runc (o ++ [(x, k + 1)]) := by
  rw [runc_append, runc_append, List.set_append_right _ _ (by rw [runc_len]; omega), runc_len, show o.length * 2 + 1 - o.length * 2 = 1 from by omega]
  rfl

set_option maxHeartbeats 8000000 in
set_option maxRecDepth 100000 in
theorem rrunsof_any (l : List Int) (n c : Nat) (A : Option Addr) (w : World) (hl : l.length = n) (hr : Rd w A (icl l)) (hn : n ≤ 100000) :
    Calls Tryz.prog 74 #[.slice A n c] w fun e w' => RunsOK (runsM l) w e w' := by
  have Hl := Lib.hid hl
  have Hr := Lib.hid hr
  obtain ⟨R, hR⟩ : ∃ R, runsM l = R := ⟨_, rfl⟩
  rw [hR]
  have HR := Lib.hid hR
  clear hl hr hR
  go_enter Tryz.func74, Tryz.ntmps74
  go_wp2_with fail
  go_loopw [3, 4] (fun vo vi wr => ∃ (i m c' : Nat) (A' : Option Addr) (o : List (Int × Nat)), vo = .slice A' m c' ∧ vi = .int .i64 (i : Int) ∧ i ≤ n ∧ m ≤ i ∧ Hid (o.length = m) ∧ Hid (Own wr w.heap.size 69 2 A' m c' (runc o)) ∧ Hid (Below w.heap.size w wr) ∧ Hid ((i = 0 ∧ o = []) ∨ ∃ (i' : Nat) (p : List (Int × Nat)) (x : Int) (k : Nat), i = i' + 1 ∧ o = p ++ [(x, k + 1)] ∧ k ≤ i' ∧ l[i']? = some x ∧ R = p ++ runsF (x :: l.drop i) k)) (fun _ vi _ => n - (intOf vi).toNat)
  case atStart => exact ⟨0, 0, 0, none, [], rfl, rfl, by omega, by omega, rfl, Own.nil _ _ _ _, Below.refl _ _, .inl ⟨rfl, rfl⟩⟩
  case round =>
    obtain ⟨i, m, c', A', o, rfl, rfl, hi, hm, Hm, HO, Hb, Hor⟩ := hrel
    by_cases hin : i < n
    · have hil : i < l.length := by rw [Hl.out]; exact hin
      have hiI : (i : Int) < (n : Int) := by omega
      have hi0 : (0 : Int) ≤ (i : Int) := by omega
      obtain ⟨b, ob, hA, c0⟩ := icl_get (Hr.out.below Hb.out) hil
      have Happ : Hid (∀ x : Int, runc o ++ [.int .i64 x, .int .i64 1] = runc (o ++ [(x, 0 + 1)])) := fun x => by
        rw [runc_append]
        rfl
      rcases Hor.out with ⟨hz, ho⟩ | ⟨i', p, x', k, hi', hop, hk, hx', hRp⟩
      · have gz : decide (0 < i) = false := decide_eq_false (by omega)
        have Hnew : Hid ((i + 1 = 0 ∧ o ++ [(l[i], 0 + 1)] = []) ∨ ∃ (i' : Nat) (p : List (Int × Nat)) (x : Int) (k : Nat), i + 1 = i' + 1 ∧ o ++ [(l[i], 0 + 1)] = p ++ [(x, k + 1)] ∧ k ≤ i' ∧ l[i']? = some x ∧ R = p ++ runsF (x :: l.drop (i + 1)) k) :=
          .inr ⟨i, o, l[i], 0, rfl, rfl, by omega, List.getElem?_eq_getElem hil, by
            rw [← List.drop_eq_getElem_cons hil, hz, List.drop_zero, ← HR.out, ho]
            rfl⟩
        subst hA
        generalize l[i] = x at *
        clear hil Hor hz ho
        go_wp2_with fail
        go_quiet (fail)
        go_wp2_with (first | (at_builtin; refine hold ?_) | (at_make; refine hold ?_))
        (with_reducible refine unhold ?_)
        have hW : Own (wr.drewN nq) w.heap.size 69 2 A' m c' (runc o) := HO.out
        have hbW : Below (wr.drewN nq).heap.size (wr.drewN nq) ((wr.drewN nq).alloc (.cells #[.int .i64 x, .int .i64 1] 69)) := (Below.refl _ _).alloc (Nat.le_refl _) _
        have hnew := (Blk.new (wr.drewN nq) 69 #[.int .i64 x, .int .i64 1]).range
        have hb5 := (below_drewN' Hb.out nq).trans (hbW.mono (below_drewN' Hb.out nq).size)
        have ho5 := Own.below hW hbW
        refine wpList_apd rfl _ _ _ rfl Erun w.heap.size _ m _ (runc o) rfl ho5 _ 1 _ [.int .i64 x, .int .i64 1] rfl rfl (fun _ => ⟨_, _, rfl, hnew⟩) (by simp [Value.oneCell']) (m + 1) rfl _ rfl (by omega) (by omega) hb5.size ?_
        intro A9 c9 w9 ho9 hg9 _
        have Hb9 := Lib.hid (hb5.grown hg9 hb5.size ho5.row_ge)
        have HO9 := Lib.hid ho9
        clear hW hbW hnew hb5 ho5 ho9 hg9
        rw [Happ.out x] at HO9
        go_wp2_with fail
        go_roundw
        case rel => exact ⟨i + 1, m + 1, c9, A9, o ++ [(x, 0 + 1)], rfl, by go_num, by omega, by omega, (by show _ = _; rw [List.length_append, Hm.out]; rfl), HO9, Hb9, Hnew⟩
        case measure => simp only [intOf, Int.toNat_natCast]; omega
      · have gz : decide (0 < i) = true := decide_eq_true (by omega)
        have hil' : i' < l.length := by omega
        have hx2 : l[i'] = x' := by rw [List.getElem?_eq_getElem hil'] at hx'; injection hx'
        obtain ⟨b2, ob2, hA2, c1⟩ := icl_get (Hr.out.below Hb.out) hil'
        rw [hA] at hA2
        cases hA2
        rw [hx2] at c1
        have hi'I : (i : Int) - 1 = (i' : Int) := by omega
        have hi'0 : (0 : Int) ≤ (i' : Int) := by omega
        have hi'n : (i' : Int) < (n : Int) := by omega
        have hil2 := List.getElem?_eq_getElem hil
        have hdr := List.drop_eq_getElem_cons hil
        subst hA
        obtain ⟨x, hx⟩ : ∃ x, l[i] = x := ⟨_, rfl⟩
        rw [hx] at c0 hil2 hdr
        rw [hdr, runsF] at hRp
        by_cases hxx : x' = x
        · rw [if_pos hxx] at hRp
          subst hxx
          have hme : p.length + 1 = m := by rw [← Hm.out, hop, List.length_append]; rfl
          have Hnew : Hid ((i + 1 = 0 ∧ p ++ [(x', k + 1 + 1)] = []) ∨ ∃ (i' : Nat) (p' : List (Int × Nat)) (x : Int) (k' : Nat), i + 1 = i' + 1 ∧ p ++ [(x', k + 1 + 1)] = p' ++ [(x, k' + 1)] ∧ k' ≤ i' ∧ l[i']? = some x ∧ R = p' ++ runsF (x :: l.drop (i + 1)) k') :=
            .inr ⟨i, p, x', k + 1, rfl, rfl, by omega, hil2, hRp⟩
          have Hlen : Hid ((p ++ [(x', k + 1 + 1)]).length = m) := by show _ = _; rw [List.length_append, ← hme]; rfl
          obtain ⟨g, hg⟩ : ∃ g, A' = some ⟨g, 0, none⟩ := by
            rcases HO.out.lies with ⟨_, h0, _⟩ | ⟨g, cur, hA, _⟩
            · omega
            · exact ⟨g, hA⟩
          subst hg
          have hge := HO.out.row_ge g rfl
          have hput := fun d => (show Own (wr.drewN d) w.heap.size 69 2 (some ⟨g, 0, none⟩) m c' (runc o) from HO.out).put (i := p.length * 2 + 1) (by omega) (.int .i64 (((k + 1 : Nat) : Int) + 1))
          have hset := runc_last p x' (k + 1)
          rw [← hop] at hset
          obtain ⟨bk, oo, e, d0, d1⟩ := HO.out.rd.run (j := p.length) (by rw [Hm.out]; omega)
          cases e
          have hgt : o[p.length]'(by rw [Hm.out]; omega) = (x', k + 1) := by
            subst hop
            rw [List.getElem_append_right (Nat.le_refl _)]
            simp
          rw [hgt] at d1
          dsimp only at d1
          have hfr : wr.frozen? ⟨g, p.length * 2 + 1, none⟩ = false := (hput 0).2.2
          have HO2 : Hid (∀ d, Own ((wr.drewN d).setCell ⟨g, p.length * 2 + 1, none⟩ (.int .i64 (((k + 1 : Nat) : Int) + 1))) w.heap.size 69 2 (some ⟨g, 0, none⟩) m c' (runc (p ++ [(x', k + 1 + 1)]))) := fun d => by
            have := (hput d).1
            rw [hset] at this
            exact this
          have Hb2 : Hid (∀ d, Below w.heap.size w ((wr.drewN d).setCell ⟨g, p.length * 2 + 1, none⟩ (.int .i64 (((k + 1 : Nat) : Int) + 1)))) := fun d => (below_drewN' Hb.out d).setCell (p := ⟨g, p.length * 2 + 1, none⟩) hge _
          obtain ⟨q, hq⟩ : ∃ q, p.length = q := ⟨_, rfl⟩
          obtain ⟨K, hK⟩ : ∃ K : Int, ((k + 1 : Nat) : Int) = K := ⟨_, rfl⟩
          rw [hq] at hme d1 hfr HO2 Hb2
          rw [hK] at d1 HO2 Hb2
          have hmq : (m : Int) - 1 = (q : Int) := by omega
          have hq0 : (0 : Int) ≤ (q : Int) := by omega
          have hqm : (q : Int) < (m : Int) := by omega
          have hwK : IntKind.i64.wrap (K + 1) = K + 1 := by rw [IntKind.wrap_i64]; omega
          rw [Nat.zero_add] at d1
          clear hput hset hgt d0 HO Hb Hor hop hRp hil hil' hx2 hx' hil2 hdr hx hq hK hi' hge
          go_wp2_with fail
          go_quiet (fail)
          go_wp2_with fail
          go_roundw
          case rel => exact ⟨i + 1, m, c', some ⟨g, 0, none⟩, p ++ [(x', k + 1 + 1)], rfl, by go_num, by omega, by omega, Hlen, HO2.out _, Hb2.out _, Hnew⟩
          case measure => simp only [intOf, Int.toNat_natCast]; omega
        · rw [if_neg hxx] at hRp
          have hne : (x == x') = false := by rw [beq_eq_false_iff_ne]; exact fun e => hxx e.symm
          have Hnew : Hid ((i + 1 = 0 ∧ o ++ [(x, 0 + 1)] = []) ∨ ∃ (i' : Nat) (p : List (Int × Nat)) (x' : Int) (k : Nat), i + 1 = i' + 1 ∧ o ++ [(x, 0 + 1)] = p ++ [(x', k + 1)] ∧ k ≤ i' ∧ l[i']? = some x' ∧ R = p ++ runsF (x' :: l.drop (i + 1)) k) :=
            .inr ⟨i, o, x, 0, rfl, rfl, by omega, hil2, by rw [hRp, hop, List.append_assoc]; rfl⟩
          clear hil hil' Hor hop hRp hx2 hx' hil2 hdr hx hxx hi'
          go_wp2_with fail
          go_quiet (fail)
          go_wp2_with (first | (at_builtin; refine hold ?_) | (at_make; refine hold ?_))
          (with_reducible refine unhold ?_)
          have hW : Own (wr.drewN nq) w.heap.size 69 2 A' m c' (runc o) := HO.out
          have hbW : Below (wr.drewN nq).heap.size (wr.drewN nq) ((wr.drewN nq).alloc (.cells #[.int .i64 x, .int .i64 1] 69)) := (Below.refl _ _).alloc (Nat.le_refl _) _
          have hnew := (Blk.new (wr.drewN nq) 69 #[.int .i64 x, .int .i64 1]).range
          have hb5 := (below_drewN' Hb.out nq).trans (hbW.mono (below_drewN' Hb.out nq).size)
          have ho5 := Own.below hW hbW
          refine wpList_apd rfl _ _ _ rfl Erun w.heap.size _ m _ (runc o) rfl ho5 _ 1 _ [.int .i64 x, .int .i64 1] rfl rfl (fun _ => ⟨_, _, rfl, hnew⟩) (by simp [Value.oneCell']) (m + 1) rfl _ rfl (by omega) (by omega) hb5.size ?_
          intro A9 c9 w9 ho9 hg9 _
          have Hb9 := Lib.hid (hb5.grown hg9 hb5.size ho5.row_ge)
          have HO9 := Lib.hid ho9
          clear hW hbW hnew hb5 ho5 ho9 hg9
          rw [Happ.out x] at HO9
          go_wp2_with fail
          go_roundw
          case rel => exact ⟨i + 1, m + 1, c9, A9, o ++ [(x, 0 + 1)], rfl, by go_num, by omega, by omega, (by show _ = _; rw [List.length_append, Hm.out]; rfl), HO9, Hb9, Hnew⟩
          case measure => simp only [intOf, Int.toNat_natCast]; omega
    · obtain rfl : i = n := by omega
      have hres : Hid (o = R) := by
        show _ = _
        rcases Hor.out with ⟨hz, ho⟩ | ⟨i', p, x', k, hi', hop, hk, hx', hRp⟩
        · have hl0 : l = [] := List.eq_nil_of_length_eq_zero (by rw [Hl.out]; exact hz)
          rw [ho, ← HR.out, hl0]
          rfl
        · rw [hRp, List.drop_eq_nil_of_le (by rw [Hl.out]; exact Nat.le_refl _), hop]
          rfl
      rw [hres.out] at Hm HO
      rw [← Hm.out] at HO ⊢
      clear Hor
      go_wp2_with fail
      go_ret
      exact ⟨⟨_, _, rfl, HO.out⟩, Hb.out⟩
end Go.Proofs.YtojppmnmhdgnnaaGreat
namespace Go.Proofs.YtojppmnmhdgnnaaGreat
set_option linter.unusedVariables false
set_option linter.unusedSimpArgs false
open Go.RowKit

attribute [local go_sem ↓] Go.wp_at_zero Go.wp_at_succ

/-- Bytes of the call's own, and OK. -/
def BytOK (b : List UInt8) (w : World) (e : Ending) (w' : World) : Prop :=
  (∃ A c, e = .returned (.tuple #[.slice A b.length c, .int .i64 0]) ∧ Own w' w.heap.size 5 1 A b.length c (Bs b)) ∧ Below w.heap.size w w'
theorem BytOK.len {b : List UInt8} {w w' : World} {e : Ending} (h : BytOK b w e w') {n : Nat} (hn : b.length = n) :
    (∃ A c, e = .returned (.tuple #[.slice A n c, .int .i64 0]) ∧ Own w' w.heap.size 5 1 A n c (Bs b)) ∧ Below w.heap.size w w' := by
  subst hn
  exact h
theorem numB_le9 {n : Nat} (h : n < 18446744073709551616) : (numB n).length ≤ 9 := numB_len h
theorem runB_le {r : Int × Nat} (h1 : -9223372036854775808 ≤ r.1 ∧ r.1 ≤ 9223372036854775807) (h2 : r.2 < 18446744073709551616) : (runB r).length ≤ 18 := by
  unfold runB
  have a := numB_le9 (zigN_lt h1)
  have b := numB_le9 h2
  rw [List.length_append]
  omega
theorem fmap_le {α : Type} (f : α → List UInt8) (k : Nat) : ∀ l : List α, (∀ x ∈ l, (f x).length ≤ k) → (l.flatMap f).length ≤ l.length * k
  | [], _ => by simp
  | x :: l, h => by
    have h1 := h x (List.mem_cons_self ..)
    have h2 := fmap_le f k l fun y hy => h y (List.mem_cons_of_mem _ hy)
    rw [List.flatMap_cons, List.length_append, List.length_cons, Nat.add_mul]
    omega
/-- What is known of a list's runs. -/
theorem runs_in {l : List Int} (h : ∀ x ∈ l, -9223372036854775808 ≤ x ∧ x ≤ 9223372036854775807) (hl : l.length ≤ 4096) : ∀ r ∈ runsM l, (-9223372036854775808 ≤ r.1 ∧ r.1 ≤ 9223372036854775807) ∧ 1 ≤ r.2 ∧ r.2 ≤ 4096 := fun r hr => by
  have h1 := runsF_many l 0 r hr
  exact ⟨h _ (runsF_mem l 0 r hr), h1.1, by omega⟩
theorem runs_part {R : List (Int × Nat)} (h : ∀ r ∈ R, (-9223372036854775808 ≤ r.1 ∧ r.1 ≤ 9223372036854775807) ∧ 1 ≤ r.2 ∧ r.2 ≤ 4096) (j : Nat) (hj : R.length ≤ 4096) : (numB R.length ++ (R.take j).flatMap runB).length ≤ 100000 := by
  have a := numB_le9 (n := R.length) (by omega)
  have b := fmap_le runB 18 (R.take j) fun r hr => runB_le (h r (List.mem_of_mem_take hr)).1 (by have := (h r (List.mem_of_mem_take hr)).2.2; omega)
  have c : (R.take j).length ≤ 4096 := by rw [List.length_take]; omega
  rw [List.length_append]
  omega
theorem runs_snoc {R : List (Int × Nat)} {j : Nat} (hj : j < R.length) (N : List UInt8) : N ++ (R.take (j + 1)).flatMap runB = (N ++ (R.take j).flatMap runB) ++ numB (zigN R[j].1) ++ numB R[j].2 := by
  rw [List.take_succ_eq_append_getElem hj, List.flatMap_append]
  simp [runB]

set_option maxHeartbeats 8000000 in
set_option maxRecDepth 100000 in
theorem runsput_any (l : List Int) (n c : Nat) (A : Option Addr) (w : World) (hl : l.length = n) (hr : Rd w A (icl l)) (hn : n ≤ 4096) (hin : ∀ x ∈ l, -9223372036854775808 ≤ x ∧ x ≤ 9223372036854775807) :
    Calls Tryz.prog 43 #[.slice A n c] w fun e w' => BytOK (runsB l) w e w' := by
  have hof := Lib.hid (runsof_any l n c A w hl hr (by omega))
  have Hin := Lib.hid (runs_in hin (by omega))
  have hRl := runsF_len l 0
  have hres : Hid (runsB l = numB (runsM l).length ++ (runsM l).flatMap runB) := rfl
  change (runsM l).length ≤ _ at hRl
  rw [hl] at hRl
  generalize runsM l = R at *
  generalize runsB l = Z at *
  obtain ⟨m, hm⟩ : ∃ m, R.length = m := ⟨_, rfl⟩
  rw [hm] at hRl
  have Hm := Lib.hid hm
  have hof2 : Hid (Calls Tryz.prog 72 #[.slice A n c] w fun e w' => (∃ A c, e = .returned (.slice A m c) ∧ Own w' w.heap.size 69 2 A m c (runc R)) ∧ Below w.heap.size w w') := by
    show Calls _ _ _ _ _
    rw [← hm]
    exact hof.out
  have hN : Hid (∀ j, (numB m ++ (R.take j).flatMap runB).length ≤ 100000) := fun j => by
    have := runs_part Hin.out j (by omega)
    rw [hm] at this
    exact this
  have hwm : IntKind.u64.wrap (m : Int) = (m : Int) := by rw [IntKind.wrap_u64]; omega
  clear hl hr hin hm hof
  go_enter Tryz.func43, Tryz.ntmps43
  go_wp2_with fail
  refine hof2.out.mono ?_
  rintro e w1 ⟨⟨A1, c1, rfl, ho1⟩, hb1⟩
  have Hr1 := Lib.hid ho1.rd
  have Hb1 := Lib.hid hb1
  clear hof2 ho1 hb1
  go_wp2_with fail
  refine (onum_any [] 0 0 m none w1 rfl (Rd.nil _ _) (by omega) (by omega)).mono ?_
  rintro e w2 ⟨A2, c2, rfl, ho2, hb2⟩
  rw [List.nil_append, Nat.zero_add] at ho2
  rw [Nat.zero_add]
  have Hb2 := Lib.hid (Hb1.out.trans (hb2.mono Hb1.out.size))
  have Hr2 := Lib.hid (Hr1.out.below hb2)
  have Ho2 := Lib.hid (ho2.lower Hb1.out.size)
  clear ho2 hb2 Hr1
  go_wp2_with fail
  go_loopw [5, 19] (fun vb vi wr => ∃ (j bl c' : Nat) (A' : Option Addr), vb = .slice A' bl c' ∧ vi = .int .i64 (j : Int) ∧ j ≤ m ∧ Hid ((numB m ++ (R.take j).flatMap runB).length = bl) ∧ Hid (Own wr w.heap.size 5 1 A' bl c' (Bs (numB m ++ (R.take j).flatMap runB))) ∧ Hid (Below w2.heap.size w2 wr)) (fun _ vi _ => m - (intOf vi).toNat)
  case atStart => exact ⟨0, _, c2, A2, rfl, rfl, by omega, (by show _ = _; simp), (by show Own _ _ _ _ _ _ _ _; simpa using Ho2.out), Below.refl _ _⟩
  case round =>
    obtain ⟨j, bl, c', A', rfl, rfl, hj, Hbl, Ho, Hb⟩ := hrel
    by_cases hjn : j < m
    · have hjl : j < R.length := by rw [Hm.out]; exact hjn
      have hjI : (j : Int) < (m : Int) := by omega
      have hj0 : (0 : Int) ≤ (j : Int) := by omega
      obtain ⟨b, o, rfl, c0, c1⟩ := (Hr2.out.below Hb.out).run hjl
      have hi := Hin.out _ (List.getElem_mem hjl)
      have Hsn := Lib.hid (runs_snoc hjl (numB m))
      have hbl := hN.out j
      rw [Hbl.out] at hbl
      generalize R[j] = r at *
      obtain ⟨x, k⟩ := r
      dsimp only at c0 c1 hi Hsn
      have hz9 := numB_le9 (zigN_lt hi.1)
      have hk9 := numB_le9 (n := k) (by omega)
      generalize numB m ++ (R.take j).flatMap runB = B0 at *
      have hwk : IntKind.u64.wrap (k : Int) = (k : Int) := by rw [IntKind.wrap_u64]; omega
      have hb0 : Below wr.heap.size wr (wr.alloc (.cells #[.int .i64 x, .int .i64 (k : Int)] 69)) := (Below.refl _ _).alloc (Nat.le_refl _) _
      have Hb3 := Lib.hid (Hb.out.trans (hb0.mono Hb.out.size))
      have hbk := Blk.new wr 69 #[.int .i64 x, .int .i64 (k : Int)]
      have Hrd3 := Lib.hid (Ho.out.rd.below hb0)
      have hsz3 : wr.heap.size < (wr.alloc (.cells #[.int .i64 x, .int .i64 (k : Int)] 69)).heap.size := by rw [World.size_alloc]; omega
      have Hk0 : Hid (∀ w', Below (wr.alloc (.cells #[.int .i64 x, .int .i64 (k : Int)] 69)).heap.size (wr.alloc (.cells #[.int .i64 x, .int .i64 (k : Int)] 69)) w' → w'.cell? ⟨wr.heap.size, 0, none⟩ = some (.int .i64 x) ∧ w'.cell? ⟨wr.heap.size, 0 + 1, none⟩ = some (.int .i64 (k : Int))) := fun w' h => by
        refine ⟨(h.cell (p := ⟨wr.heap.size, 0, none⟩) hsz3).trans ?_, (h.cell (p := ⟨wr.heap.size, 0 + 1, none⟩) hsz3).trans ?_⟩
        · rw [hbk.cell 0]; rfl
        · rw [hbk.cell 1]; rfl
      obtain ⟨q0, q1⟩ := Hk0.out _ (Below.refl _ _)
      have Hc := Lib.hid hi.1
      have Hw : Hid (w.heap.size ≤ w2.heap.size) := Hb2.out.size
      clear hbk hjl Ho
      obtain ⟨W0, hy⟩ : ∃ y, wr.alloc (.cells #[.int .i64 x, .int .i64 (k : Int)] 69) = y := ⟨_, rfl⟩
      rw [hy] at hb0 Hb3 Hrd3 hsz3 Hk0 q0 q1
      generalize hg : wr.heap.size = g at *
      go_wp2_with fail
      refine wp_region_held_drew (S := fun w' => w'.cell? ⟨g, 0, none⟩ = some (.int .i64 x) ∧ w'.cell? ⟨g, 0 + 1, none⟩ = some (.int .i64 (k : Int))) (by kernel_rfl) ⟨q0, q1⟩ (fun hHeld => ?_)
      (refine wpAnyH_take (i := 0) (oi := ?oi0_1) (v := ?vv0_1) ?hi0_1 (by kernel_rfl) (by kernel_rfl) (by kernel_rfl) ?hQ0_1 ?hy0_1 (by assumption) ?rest0_1; (case hi0_1 => ((simp only [List.getElem?_toArray, List.getElem?_cons_zero]); rfl)); (case hQ0_1 => exact (fun _ _ _ h => h)); (case hy0_1 => (refine Or.inl ⟨by rfl, ?_⟩; intro w hSw; (try dsimp only at hSw); go_simp; try (with_reducible rfl))); (try simp only [Act.put, List.setIfInBounds_toArray, List.set_cons_zero, List.set_cons_succ]))
      (refine wpAnyH_take (i := 1) (oi := ?oi1_2) (v := ?vv1_2) ?hi1_2 (by kernel_rfl) (by kernel_rfl) (by kernel_rfl) ?hQ1_2 ?hy1_2 (by assumption) ?rest1_2; (case hi1_2 => ((simp only [List.getElem?_toArray, List.getElem?_cons_succ, List.getElem?_cons_zero]); rfl)); (case hQ1_2 => exact (fun _ _ _ h => h)); (case hy1_2 => (refine Or.inl ⟨by rfl, ?_⟩; intro w hSw; (try dsimp only at hSw); go_simp; try (with_reducible rfl))); (try simp only [Act.put, List.setIfInBounds_toArray, List.set_cons_zero, List.set_cons_succ]))
      (refine wpAnyH_take (i := 2) (oi := ?oi2_3) (v := ?vv2_3) ?hi2_3 (by kernel_rfl) (by kernel_rfl) (by kernel_rfl) ?hQ2_3 ?hy2_3 (by assumption) ?rest2_3; (case hi2_3 => ((simp only [List.getElem?_toArray, List.getElem?_cons_succ, List.getElem?_cons_zero]); rfl)); (case hQ2_3 => exact (fun _ _ _ h => h)); (case hy2_3 => (refine Or.inl ⟨by rfl, ?_⟩; intro w hSw; (try dsimp only at hSw); go_simp; try (with_reducible rfl))); (try simp only [Act.put, List.setIfInBounds_toArray, List.set_cons_zero, List.set_cons_succ]))
      (refine wpAnyH_take (i := 4) (oi := ?oi4_4) (v := ?vv4_4) ?hi4_4 (by kernel_rfl) (by kernel_rfl) (by kernel_rfl) ?hQ4_4 ?hy4_4 (by assumption) ?rest4_4; (case hi4_4 => ((simp only [List.getElem?_toArray, List.getElem?_cons_succ, List.getElem?_cons_zero]); rfl)); (case hQ4_4 => exact (fun _ _ _ h => h)); (case hy4_4 => (refine Or.inl ⟨by rfl, ?_⟩; intro w hSw; (try dsimp only at hSw); go_simp; try (with_reducible rfl))); (try simp only [Act.put, List.setIfInBounds_toArray, List.set_cons_zero, List.set_cons_succ]))
      (refine wpAnyH_take (i := 5) (oi := ?oi5_5) (v := ?vv5_5) ?hi5_5 (by kernel_rfl) (by kernel_rfl) (by kernel_rfl) ?hQ5_5 ?hy5_5 (by assumption) ?rest5_5; (case hi5_5 => ((simp only [List.getElem?_toArray, List.getElem?_cons_succ, List.getElem?_cons_zero]); rfl)); (case hQ5_5 => exact (fun _ _ _ h => h)); (case hy5_5 => (refine Or.inl ⟨by rfl, ?_⟩; intro w hSw; (try dsimp only at hSw); go_simp; try (with_reducible rfl))); (try simp only [Act.put, List.setIfInBounds_toArray, List.set_cons_zero, List.set_cons_succ]))
      (refine wpAnyH_take (i := 6) (oi := ?oi6_6) (v := ?vv6_6) ?hi6_6 (by kernel_rfl) (by kernel_rfl) (by kernel_rfl) ?hQ6_6 ?hy6_6 (by assumption) ?rest6_6; (case hi6_6 => ((simp only [List.getElem?_toArray, List.getElem?_cons_succ, List.getElem?_cons_zero]); rfl)); (case hQ6_6 => exact (fun _ _ _ h => h)); (case hy6_6 => (refine Or.inl ⟨by rfl, ?_⟩; intro w hSw; (try dsimp only at hSw); go_simp; try (with_reducible rfl))); (try simp only [Act.put, List.setIfInBounds_toArray, List.set_cons_zero, List.set_cons_succ]))
      (refine wpAnyH_ready (rs := [3]) (by kernel_rfl) (by simp) ?_; refine AllReadyH.cons (o := ?oc3_7) ?ho3_7 (fun K hK => ?_) AllReadyH.nil; (case ho3_7 => ((simp only [List.getElem?_toArray, List.getElem?_cons_succ, List.getElem?_cons_zero]); rfl)); go_simp)
      refine (int_any B0 bl c' x A' _ Hbl.out (Hrd3.out.drewN _) (by omega) Hc.out).mono ?_
      rintro e w5 ⟨A5, c5, rfl, ho5, hb5⟩
      have Hrd5 := Lib.hid ho5.rd
      have Hb5 := Lib.hid ((below_drewN' Hb3.out _).trans (hb5.mono (below_drewN' Hb3.out _).size))
      have Hln5 : Hid ((B0 ++ numB (zigN x)).length = bl + (numB (zigN x)).length) := by show _ = _; rw [List.length_append, Hbl.out]
      have Hb05 := Lib.hid ((below_drewN' (Below.refl W0.heap.size W0) _).trans hb5)
      have HS5 := Lib.hid (Hk0.out _ Hb05.out)
      clear ho5 hb5
      go_wp2_with fail
      refine hK.out _ _ HS5.out (fun hHeld2 => ?_)
      clear hK
      (try simp only [Act.put, List.setIfInBounds_toArray, List.set_cons_zero, List.set_cons_succ])
      (refine wpAnyH_ready (rs := [7]) (by kernel_rfl) (by simp) ?_; refine AllReadyH.cons (o := ?oc7_8) ?ho7_8 (fun K hK => ?_) AllReadyH.nil; (case ho7_8 => ((simp only [List.getElem?_toArray, List.getElem?_cons_succ, List.getElem?_cons_zero]); rfl)); go_simp)
      refine (onum_any (B0 ++ numB (zigN x)) (bl + (numB (zigN x)).length) c5 k A5 w5 Hln5.out Hrd5.out (by omega) (by omega)).mono ?_
      rintro e w6 ⟨A6, c6, rfl, ho6, hb6⟩
      rw [← Hsn.out] at ho6
      have Hb6 := Lib.hid (Hb5.out.trans (hb6.mono Hb5.out.size))
      have HO6 := Lib.hid (ho6.lower (Nat.le_trans Hw.out Hb5.out.size))
      have HS6 := Lib.hid (Hk0.out _ (Hb05.out.trans (hb6.mono Hb05.out.size)))
      have Hl6 : Hid ((numB m ++ (R.take (j + 1)).flatMap runB).length = bl + (numB (zigN x)).length + (numB k).length) := by
        show _ = _
        rw [Hsn.out, List.length_append, Hln5.out]
      clear ho6 hb6 Hrd5
      go_wp2_with fail
      refine hK.out _ _ HS6.out (fun hHeld3 => ?_)
      clear hK
      (try simp only [Act.put, List.setIfInBounds_toArray, List.set_cons_zero, List.set_cons_succ])
      (refine wpAnyH_take (i := 8) (oi := ?oi8_9) (v := ?vv8_9) ?hi8_9 (by kernel_rfl) (by kernel_rfl) (by kernel_rfl) ?hQ8_9 ?hy8_9 (by assumption) ?rest8_9; (case hi8_9 => ((simp only [List.getElem?_toArray, List.getElem?_cons_succ, List.getElem?_cons_zero]); rfl)); (case hQ8_9 => exact (fun _ _ _ h => h)); (case hy8_9 => (refine Or.inl ⟨by rfl, ?_⟩; intro w hSw; (try dsimp only at hSw); go_simp; try (with_reducible rfl))); (try simp only [Act.put, List.setIfInBounds_toArray, List.set_cons_zero, List.set_cons_succ]))
      refine wpAnyH_done (by kernel_rfl) ?_ _
      clear hHeld hHeld2 hHeld3
      go_wp2_with fail
      go_roundw
      case rel => exact ⟨j + 1, _, c6, A6, rfl, by go_num, by omega, Hl6, HO6, Hb6⟩
      case measure => simp only [intOf, Int.toNat_natCast]; omega
    · obtain rfl : j = m := by omega
      have hta : Hid (Z = numB j ++ (R.take j).flatMap runB) := by
        show _ = _
        rw [hres.out, List.take_of_length_le (by rw [Hm.out]; exact Nat.le_refl _), Hm.out]
      have Hb9 := Lib.hid (Hb2.out.trans (Hb.out.mono Hb2.out.size))
      rw [← hta.out] at Hbl Ho
      rw [← Hbl.out] at Ho ⊢
      clear Hb
      go_wp2_with fail
      go_ret2
      exact ⟨⟨_, _, rfl, Ho.out⟩, Hb9.out⟩

set_option maxHeartbeats 8000000 in
set_option maxRecDepth 100000 in
theorem rrunsput_any (l : List Int) (n c : Nat) (A : Option Addr) (w : World) (hl : l.length = n) (hr : Rd w A (icl l)) (hn : n ≤ 4096) (hin : ∀ x ∈ l, -9223372036854775808 ≤ x ∧ x ≤ 9223372036854775807) :
    Calls Tryz.prog 50 #[.slice A n c] w fun e w' => BytOK (runsB l) w e w' := by
  have hof := Lib.hid (rrunsof_any l n c A w hl hr (by omega))
  have Hin := Lib.hid (runs_in hin (by omega))
  have hRl := runsF_len l 0
  have hres : Hid (runsB l = numB (runsM l).length ++ (runsM l).flatMap runB) := rfl
  change (runsM l).length ≤ _ at hRl
  rw [hl] at hRl
  generalize runsM l = R at *
  generalize runsB l = Z at *
  obtain ⟨m, hm⟩ : ∃ m, R.length = m := ⟨_, rfl⟩
  rw [hm] at hRl
  have Hm := Lib.hid hm
  have hof2 : Hid (Calls Tryz.prog 74 #[.slice A n c] w fun e w' => (∃ A c, e = .returned (.slice A m c) ∧ Own w' w.heap.size 69 2 A m c (runc R)) ∧ Below w.heap.size w w') := by
    show Calls _ _ _ _ _
    rw [← hm]
    exact hof.out
  have hN : Hid (∀ j, (numB m ++ (R.take j).flatMap runB).length ≤ 100000) := fun j => by
    have := runs_part Hin.out j (by omega)
    rw [hm] at this
    exact this
  have hwm : IntKind.u64.wrap (m : Int) = (m : Int) := by rw [IntKind.wrap_u64]; omega
  clear hl hr hin hm hof
  go_enter Tryz.func50, Tryz.ntmps50
  go_wp2_with fail
  refine hof2.out.mono ?_
  rintro e w1 ⟨⟨A1, c1, rfl, ho1⟩, hb1⟩
  have Hr1 := Lib.hid ho1.rd
  have Hb1 := Lib.hid hb1
  clear hof2 ho1 hb1
  go_wp2_with fail
  refine (rnum_any [] 0 0 m none w1 rfl (Rd.nil _ _) (by omega) (by omega)).mono ?_
  rintro e w2 ⟨A2, c2, rfl, ho2, hb2⟩
  rw [List.nil_append, Nat.zero_add] at ho2
  rw [Nat.zero_add]
  have Hb2 := Lib.hid (Hb1.out.trans (hb2.mono Hb1.out.size))
  have Hr2 := Lib.hid (Hr1.out.below hb2)
  have Ho2 := Lib.hid (ho2.lower Hb1.out.size)
  clear ho2 hb2 Hr1
  go_wp2_with fail
  go_loopw [5, 6] (fun vb vi wr => ∃ (j bl c' : Nat) (A' : Option Addr), vb = .slice A' bl c' ∧ vi = .int .i64 (j : Int) ∧ j ≤ m ∧ Hid ((numB m ++ (R.take j).flatMap runB).length = bl) ∧ Hid (Own wr w.heap.size 5 1 A' bl c' (Bs (numB m ++ (R.take j).flatMap runB))) ∧ Hid (Below w2.heap.size w2 wr)) (fun _ vi _ => m - (intOf vi).toNat)
  case atStart => exact ⟨0, _, c2, A2, rfl, rfl, by omega, (by show _ = _; simp), (by show Own _ _ _ _ _ _ _ _; simpa using Ho2.out), Below.refl _ _⟩
  case round =>
    obtain ⟨j, bl, c', A', rfl, rfl, hj, Hbl, Ho, Hb⟩ := hrel
    by_cases hjn : j < m
    · have hjl : j < R.length := by rw [Hm.out]; exact hjn
      have hjI : (j : Int) < (m : Int) := by omega
      have hj0 : (0 : Int) ≤ (j : Int) := by omega
      obtain ⟨b, o, rfl, c0, c1⟩ := (Hr2.out.below Hb.out).run hjl
      have hi := Hin.out _ (List.getElem_mem hjl)
      have Hsn := Lib.hid (runs_snoc hjl (numB m))
      have hbl := hN.out j
      rw [Hbl.out] at hbl
      have Hcell : Hid (∀ w', Below w2.heap.size w2 w' → w'.cell? ⟨b, o + j * 2 + 1, none⟩ = some (.int .i64 (R[j].2 : Int))) := fun w' h => by
        obtain ⟨b', o', e, _, d1⟩ := (Hr2.out.below h).run hjl
        cases e
        exact d1
      generalize R[j] = r at *
      obtain ⟨x, k⟩ := r
      dsimp only at c0 c1 hi Hsn Hcell
      have hz9 := numB_le9 (zigN_lt hi.1)
      have hk9 := numB_le9 (n := k) (by omega)
      generalize numB m ++ (R.take j).flatMap runB = B0 at *
      have hwk : IntKind.u64.wrap (k : Int) = (k : Int) := by rw [IntKind.wrap_u64]; omega
      have Hc := Lib.hid hi.1
      have Hrd := Lib.hid Ho.out.rd
      have Hw : Hid (w.heap.size ≤ w2.heap.size) := Hb2.out.size
      clear hjl Ho c1
      go_wp2_with fail
      refine (rint_any B0 bl c' x A' wr Hbl.out Hrd.out (by omega) Hc.out).mono ?_
      rintro e w5 ⟨A5, c5, rfl, ho5, hb5⟩
      have Hrd5 := Lib.hid ho5.rd
      have Hb5 := Lib.hid (Hb.out.trans (hb5.mono Hb.out.size))
      have Hln5 : Hid ((B0 ++ numB (zigN x)).length = bl + (numB (zigN x)).length) := by show _ = _; rw [List.length_append, Hbl.out]
      have c5' := Hcell.out w5 Hb5.out
      clear ho5 hb5 c0
      go_wp2_with fail
      refine (rnum_any (B0 ++ numB (zigN x)) (bl + (numB (zigN x)).length) c5 k A5 w5 Hln5.out Hrd5.out (by omega) (by omega)).mono ?_
      rintro e w6 ⟨A6, c6, rfl, ho6, hb6⟩
      rw [← Hsn.out] at ho6
      have Hb6 := Lib.hid (Hb5.out.trans (hb6.mono Hb5.out.size))
      have HO6 := Lib.hid (ho6.lower (Nat.le_trans Hw.out Hb5.out.size))
      have Hl6 : Hid ((numB m ++ (R.take (j + 1)).flatMap runB).length = bl + (numB (zigN x)).length + (numB k).length) := by
        show _ = _
        rw [Hsn.out, List.length_append, Hln5.out]
      clear ho6 hb6 Hrd5 c5'
      go_wp2_with fail
      go_roundw
      case rel => exact ⟨j + 1, _, c6, A6, rfl, by go_num, by omega, Hl6, HO6, Hb6⟩
      case measure => simp only [intOf, Int.toNat_natCast]; omega
    · obtain rfl : j = m := by omega
      have hta : Hid (Z = numB j ++ (R.take j).flatMap runB) := by
        show _ = _
        rw [hres.out, List.take_of_length_le (by rw [Hm.out]; exact Nat.le_refl _), Hm.out]
      have Hb9 := Lib.hid (Hb2.out.trans (Hb.out.mono Hb2.out.size))
      rw [← hta.out] at Hbl Ho
      rw [← Hbl.out] at Ho ⊢
      clear Hb
      go_wp2_with fail
      go_ret2
      exact ⟨⟨_, _, rfl, Ho.out⟩, Hb9.out⟩
end Go.Proofs.YtojppmnmhdgnnaaGreat
