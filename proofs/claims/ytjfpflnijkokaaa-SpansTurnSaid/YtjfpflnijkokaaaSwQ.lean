/- Walks: what the program's functions on spans tell, all in one form; few, Ints, and the examples of the statements. -/
import Derived.Test.YtjfpflnijkokaaaSwL
import Derived.Test.YtjfpflnijkokaaaSwN
import Derived.Test.YtjfpflnijkokaaaSwK
import Derived.Test.YtjfpflnijkokaaaSwJ
import Derived.Test.YtjfpflnijkokaaaIn
import Derived.Test.YtjfpflnijkokaaaJoA
namespace Go.Proofs.Ytjfpflnijkokaaa
open Go.RowKit

attribute [local go_sem ↓] Go.wp_at_zero Go.wp_at_succ

theorem ResOK.of_and {a b : List SpanM} {w w' : World} {e : Ending} (h : AndOK a b w e w') : ResOK (bothS 0 a b) w e w' := by
  obtain ⟨h1, h2⟩ := h
  refine ⟨?_, h2⟩
  rcases h1 with ⟨h1, h3⟩ | ⟨⟨ha, hb⟩, A, c, h3, h4⟩
  · refine .inl ⟨?_, h3⟩
    unfold bothS
    rw [if_neg h1]
  · exact .inr ⟨_, A, c, by rw [bothS_some 0 ha hb, and_same ha hb]; rfl, h3, h4⟩
theorem rand_any (a b : List SpanM) (n nb c cb : Nat) (A B : Option Addr) (w : World) (hl : a.length = n) (hr : Rd w A (spc a)) (hn : n ≤ 4000) (hlb : b.length = nb) (hrb : Rd w B (spc b)) (hnb : nb ≤ 4000) :
    Calls Try.prog 21 #[.slice A n c, .slice B nb cb] w fun e w' => ResOK (bothS 0 a b) w e w' :=
  (sand_any a b n nb c cb A B w hl hr (by omega) hlb hrb (by omega)).mono fun _ _ h => ResOK.of_and h
theorem gaps_right {b : List SpanM} (hb : rightS b = true) : rightS (gapsS b 4096) = true := by
  obtain ⟨h1, h2⟩ := (rightS_spec b).1 hb
  obtain ⟨h3, h4⟩ := gapsS_spec (top := 4096) h1 h2
  exact right_of h3 fun k hk => ⟨((h4 k).1 hk).1, ((h4 k).1 hk).2.1⟩
theorem rminus_any (a b : List SpanM) (n nb c cb : Nat) (A B : Option Addr) (w : World) (hl : a.length = n) (hr : Rd w A (spc a)) (hn : n ≤ 4000) (hlb : b.length = nb) (hrb : Rd w B (spc b)) (hnb : nb ≤ 4000) :
    Calls Try.prog 23 #[.slice A n c, .slice B nb cb] w fun e w' => ResOK (bothS 2 a b) w e w' := by
  refine (sminus_any a b n nb c cb A B w hl hr hn hlb hrb hnb).mono ?_
  rintro e w' (⟨h1, h2, h3⟩ | ⟨h1, h2, h3⟩)
  · exact ⟨.inl ⟨bothS_none2 2 h1, h2⟩, h3⟩
  · refine ⟨?_, h3⟩
    rcases h2 with ⟨h4, h5⟩ | ⟨⟨ha, hb⟩, A, c, h5, h6⟩
    · refine .inl ⟨bothS_none1 2 ?_, h5⟩
      cases ha : rightS a
      · rfl
      · exact absurd ⟨ha, gaps_right h1⟩ h4
    · exact .inr ⟨_, A, c, by rw [bothS_some 2 ha h1, minus_same ha h1]; rfl, h5, h6⟩

theorem ResOK.some {r : Option (List SpanM)} {m : List SpanM} {w w' : World} {e : Ending} (h : ResOK r w e w') (hr : r = some m) :
    (∃ A c, e = .returned (.tuple #[.slice A m.length c, .int .i64 0]) ∧ Own w' w.heap.size 40 2 A m.length c (spc m)) ∧ Below w.heap.size w w' := by
  obtain ⟨h1, h2⟩ := h
  refine ⟨?_, h2⟩
  rcases h1 with ⟨h1, _⟩ | ⟨m', A, c, h1, h3, h4⟩
  · rw [hr] at h1; cases h1
  · rw [hr] at h1
    cases h1
    exact ⟨A, c, h3, h4⟩
theorem ResOK.none {r : Option (List SpanM)} {w w' : World} {e : Ending} (h : ResOK r w e w') (hr : r = none) :
    e = .returned (.tuple #[.slice none 0 0, .int .i64 1]) ∧ Below w.heap.size w w' := by
  obtain ⟨h1, h2⟩ := h
  refine ⟨?_, h2⟩
  rcases h1 with ⟨_, h1⟩ | ⟨m', A, c, h1, h3, h4⟩
  · exact h1
  · rw [hr] at h1
    cases h1

/-- few. -/
def fewP (l : List SpanM) : List SpanM := l.take 200
set_option maxRecDepth 100000 in
theorem few_any (l : List SpanM) (n c : Nat) (A : Option Addr) (w : World) (hl : l.length = n) (hnc : n ≤ c) (hc : c ≤ 9223372036854775807) :
    Calls Try.prog 14 #[.slice A n c] w fun e w' => e = .returned (.slice A (fewP l).length c) ∧ w = w' := by
  have he : (fewP l).length = min n 200 := by unfold fewP; rw [List.length_take, hl, Nat.min_comm]
  rw [he]
  clear he
  obtain ⟨F, hF⟩ : ∃ F, min n 200 = F := ⟨_, rfl⟩
  have hm : min (n : Int) 200 = (F : Int) := by omega
  have h1 : F ≤ c := by omega
  rw [hF]
  clear hl hF hnc
  go_enter Try.func14, Try.ntmps14
  go_wp2_with fail
  go_ret
  exact ⟨rfl, rfl⟩
theorem few_rd {l : List SpanM} {A : Option Addr} {w : World} (hr : Rd w A (spc l)) : Rd w A (spc (fewP l)) := by
  have h : spc l = spc (fewP l) ++ spc (l.drop 200) := by
    unfold fewP
    rw [← spc_append, List.take_append_drop]
  rw [h] at hr
  intro hne
  obtain ⟨b, o, e, hr'⟩ := hr (fun e => hne (List.append_eq_nil_iff.1 e).1)
  exact ⟨b, o, e, fun j v hj => hr' j v (by rw [List.getElem?_append_left (List.getElem?_eq_some_iff.1 hj).1]; exact hj)⟩
set_option maxRecDepth 100000 in
theorem ints_same (l : List Int) (n : Nat) (A A' : Option Addr) (c c' : Nat) (w : World) (hl : l.length = n) (hA : Rd w A (icl l)) (hA' : Rd w A' (icl l)) (hn : n ≤ 140737488355328) :
    Calls Try.prog 13 #[.slice A n c, .slice A' n c'] w fun e w' => e = .returned (.bool true) ∧ Below w.heap.size w w' := by
  have Hl := Lib.hid hl
  clear hl
  have hne : ((n : Int) != (n : Int)) = false := by simp
  go_enter Try.func13, Try.ntmps13
  go_wp2_with fail
  go_loopw [5] (fun i wr => ∃ (j q : Nat), j ≤ n ∧ i = .int .i64 j ∧ wr = w.drewN q) (fun i _ => n - (intOf i).toNat)
  case atStart => exact ⟨0, 0, by omega, rfl, rfl⟩
  case round =>
    obtain ⟨j, q, hj, rfl, rfl⟩ := hrel
    by_cases hlt : j < n
    · obtain ⟨b, o, rfl, hb, _, hca⟩ := hA.get (k := j) (by rw [icl_len, Hl.out]; exact hlt)
      obtain ⟨b', o', rfl, hb', _, hca'⟩ := hA'.get (k := j) (by rw [icl_len, Hl.out]; exact hlt)
      clear hA hA'
      have hx : (icl l)[j]'(by rw [icl_len, Hl.out]; exact hlt) = .int .i64 (l[j]'(by rw [Hl.out]; exact hlt)) := by unfold icl; rw [List.getElem_map]
      rw [hx] at hca hca'
      clear hx
      generalize l[j]'(by rw [Hl.out]; exact hlt) = x at *
      have hjI : (0 : Int) ≤ (j : Int) := by omega
      have hjI' : (j : Int) < (n : Int) := by omega
      go_wp2_with fail
      go_quiet (fail)
      go_wp2_with fail
      go_roundw
      case rel => exact ⟨j + 1, _, by omega, by go_num, rfl⟩
      case measure => simp [intOf]; omega
    · obtain rfl : j = n := by omega
      go_wp2_with fail
      go_ret
      exact ⟨rfl, below_drewN' (Below.refl _ _) _⟩
theorem same_any (a b : List SpanM) (n nb c cb : Nat) (A B : Option Addr) (w : World) (hl : a.length = n) (hr : Rd w A (spc a)) (hlb : b.length = nb) (hrb : Rd w B (spc b)) (hn : n ≤ 1000000) :
    Calls Try.prog 12 #[.slice A n c, .slice B nb cb] w fun e w' => e = .returned (.bool (decide (a = b))) ∧ Below w.heap.size w w' :=
  (rsame_any a b n nb c cb A B w hl hr hlb hrb hn).mono fun _ _ ⟨h, q, hq⟩ => ⟨h, by rw [hq]; exact below_drewN' (Below.refl _ _) _⟩
theorem same_yes (a : List SpanM) (n : Nat) (c cb : Nat) (A B : Option Addr) (w : World) (hl : a.length = n) (hr : Rd w A (spc a)) (hrb : Rd w B (spc a)) (hn : n ≤ 1000000) :
    Calls Try.prog 12 #[.slice A n c, .slice B n cb] w fun e w' => e = .returned (.bool true) ∧ Below w.heap.size w w' := by
  have h := same_any a a n n c cb A B w hl hr hl hrb hn
  rw [decide_eq_true rfl] at h
  exact h
theorem right_any (l : List SpanM) (n c : Nat) (A : Option Addr) (w : World) (hl : l.length = n) (hr : Rd w A (spc l)) (hn : n ≤ 1000000) :
    Calls Try.prog 15 #[.slice A n c] w fun e w' => e = .returned (.bool (rightS l)) ∧ Below w.heap.size w w' :=
  (srright_any l n c A w hl hr hn).mono fun _ _ ⟨h, q, hq⟩ => ⟨h, by rw [hq]; exact below_drewN' (Below.refl _ _) _⟩

theorem ex_of : ofS [5, 3, 4, 9] = some [(3, 6), (9, 10)] := by
  unfold ofS
  rw [if_pos (by decide)]
  have h := of_same (p := [5, 3, 4, 9]) (q := [3, 4, 5, 9]) (by decide) (by decide) (by decide)
  rw [← h]
  decide
theorem ex_and : bothS 0 [(0, 5)] [(3, 9)] = some [(3, 5)] := by
  rw [bothS_some 0 (by decide) (by decide)]
  have h := and_same (a := [(0, 5)]) (b := [(3, 9)]) (by decide) (by decide)
  show some _ = _
  rw [show (fun k => opS 0 (onS [(0, 5)] k) (onS [(3, 9)] k)) = (fun k => onS [(0, 5)] k && onS [(3, 9)] k) from rfl, ← h]
  simp [andS, and_step, and_stop, and_end, addS_nil, addS, lastTo]
  decide
theorem ex_minus : bothS 2 [(0, 9)] [(3, 5)] = some [(0, 3), (5, 9)] := by
  rw [bothS_some 2 (by decide) (by decide)]
  have h := minus_same (a := [(0, 9)]) (b := [(3, 5)]) (by decide) (by decide)
  show some _ = _
  rw [show (fun k => opS 2 (onS [(0, 9)] k) (onS [(3, 5)] k)) = (fun k => onS [(0, 9)] k && !onS [(3, 5)] k) from rfl, ← h]
  rw [show gapsS [(3, 5)] 4096 = [(0, 3), (5, 4096)] from by decide]
  simp [andS, and_step, and_stop, and_end, addS_nil, addS, lastTo]
  decide

set_option maxHeartbeats 8000000 in
set_option maxRecDepth 100000 in
theorem shown_any (w : World) : Calls Try.prog 9 #[] w fun e w' => e = .returned (.bool true) ∧ Below w.heap.size w w' := by
  go_enter Try.func9, Try.ntmps9
  go_wp2_with fail
  refine (sof_any [5, 3, 4, 9] 4 4 (some ⟨w.heap.size, 0, none⟩) _ rfl (Rd.new w [.int .i64 5, .int .i64 3, .int .i64 4, .int .i64 9] 3) (by omega)).mono ?_
  intro e w1 h1
  obtain ⟨⟨A1, c1, rfl, hA1⟩, hb1⟩ := h1.some ex_of
  have Hb1 : Hid (Below w.heap.size w w1) := by
    have h0 : Below w.heap.size w (w.alloc (.cells #[.int .i64 5, .int .i64 3, .int .i64 4, .int .i64 9] 3)) := (Below.refl _ _).alloc (Nat.le_refl _) _
    exact h0.trans (hb1.mono h0.size)
  have HA1 := Lib.hid hA1.rd
  clear h1 hb1 hA1
  go_wp2_with fail
  have q2 : Below w1.heap.size w1 (w1.alloc (.cells #[.int .i64 0, .int .i64 5] 40)) := (Below.refl _ _).alloc (Nat.le_refl _) _
  have q3 : Below w1.heap.size w1 ((w1.alloc (.cells #[.int .i64 0, .int .i64 5] 40)).alloc (.cells #[.int .i64 3, .int .i64 9] 40)) := q2.alloc (by rw [World.size_alloc]; omega) _
  have r2 : Rd ((w1.alloc (.cells #[.int .i64 0, .int .i64 5] 40)).alloc (.cells #[.int .i64 3, .int .i64 9] 40)) (some ⟨w1.heap.size, 0, none⟩) (spc [(0, 5)]) := (Rd.new w1 [.int .i64 0, .int .i64 5] 40).below ((Below.refl _ _).alloc (Nat.le_refl _) _)
  have r3 : Rd ((w1.alloc (.cells #[.int .i64 0, .int .i64 5] 40)).alloc (.cells #[.int .i64 3, .int .i64 9] 40)) (some ⟨w1.heap.size + 1, 0, none⟩) (spc [(3, 9)]) := by
    have := Rd.new (w1.alloc (.cells #[.int .i64 0, .int .i64 5] 40)) [.int .i64 3, .int .i64 9] 40
    rw [World.size_alloc] at this
    exact this
  refine (rand_any [(0, 5)] [(3, 9)] 1 1 1 1 (some ⟨w1.heap.size, 0, none⟩) (some ⟨w1.heap.size + 1, 0, none⟩) _ rfl r2 (by omega) rfl r3 (by omega)).mono ?_
  intro e w2 h2
  obtain ⟨⟨A2, c2, rfl, hA2⟩, hb2⟩ := h2.some ex_and
  have Hb2 := Lib.hid (q3.trans (hb2.mono q3.size))
  have HA2 := Lib.hid hA2.rd
  clear h2 hb2 hA2 q2 q3 r2 r3
  go_wp2_with fail
  have q2 : Below w2.heap.size w2 (w2.alloc (.cells #[.int .i64 0, .int .i64 9] 40)) := (Below.refl _ _).alloc (Nat.le_refl _) _
  have q3 : Below w2.heap.size w2 ((w2.alloc (.cells #[.int .i64 0, .int .i64 9] 40)).alloc (.cells #[.int .i64 3, .int .i64 5] 40)) := q2.alloc (by rw [World.size_alloc]; omega) _
  have r2 : Rd ((w2.alloc (.cells #[.int .i64 0, .int .i64 9] 40)).alloc (.cells #[.int .i64 3, .int .i64 5] 40)) (some ⟨w2.heap.size, 0, none⟩) (spc [(0, 9)]) := (Rd.new w2 [.int .i64 0, .int .i64 9] 40).below ((Below.refl _ _).alloc (Nat.le_refl _) _)
  have r3 : Rd ((w2.alloc (.cells #[.int .i64 0, .int .i64 9] 40)).alloc (.cells #[.int .i64 3, .int .i64 5] 40)) (some ⟨w2.heap.size + 1, 0, none⟩) (spc [(3, 5)]) := by
    have := Rd.new (w2.alloc (.cells #[.int .i64 0, .int .i64 9] 40)) [.int .i64 3, .int .i64 5] 40
    rw [World.size_alloc] at this
    exact this
  refine (rminus_any [(0, 9)] [(3, 5)] 1 1 1 1 (some ⟨w2.heap.size, 0, none⟩) (some ⟨w2.heap.size + 1, 0, none⟩) _ rfl r2 (by omega) rfl r3 (by omega)).mono ?_
  intro e w3 h3
  obtain ⟨⟨A3, c3, rfl, hA3⟩, hb3⟩ := h3.some ex_minus
  have Hb3 := Lib.hid (q3.trans (hb3.mono q3.size))
  have HA3 := Lib.hid hA3.rd
  clear h3 hb3 hA3 q2 q3 r2 r3
  have HA1' := Lib.hid ((HA1.out.below Hb2.out).below Hb3.out)
  have HA2' := Lib.hid (HA2.out.below Hb3.out)
  have Hb13 := Lib.hid (Hb1.out.trans ((Hb2.out.trans (Hb3.out.mono Hb2.out.size)).mono Hb1.out.size))
  go_wp2_with fail
  have q4 : Below w3.heap.size w3 (w3.alloc (.cells #[.int .i64 3, .int .i64 6, .int .i64 9, .int .i64 10] 40)) := (Below.refl _ _).alloc (Nat.le_refl _) _
  refine (same_yes [(3, 6), (9, 10)] 2 c1 2 A1 (some ⟨w3.heap.size, 0, none⟩) _ rfl (HA1'.out.below q4) (Rd.new w3 [.int .i64 3, .int .i64 6, .int .i64 9, .int .i64 10] 40) (by omega)).mono ?_
  rintro e w4 ⟨rfl, hb4⟩
  have Hb4 := Lib.hid (q4.trans (hb4.mono q4.size))
  clear hb4 q4
  go_wp2_with fail
  have q5 : Below w4.heap.size w4 (w4.alloc (.cells #[.int .i64 3, .int .i64 5] 40)) := (Below.refl _ _).alloc (Nat.le_refl _) _
  refine (same_yes [(3, 5)] 1 c2 1 A2 (some ⟨w4.heap.size, 0, none⟩) _ rfl ((HA2'.out.below Hb4.out).below q5) (Rd.new w4 [.int .i64 3, .int .i64 5] 40) (by omega)).mono ?_
  rintro e w5 ⟨rfl, hb5⟩
  have Hb5 := Lib.hid (q5.trans (hb5.mono q5.size))
  have Hb45 := Lib.hid (Hb4.out.trans (Hb5.out.mono Hb4.out.size))
  clear hb5 q5
  go_wp2_with fail
  have q6 : Below w5.heap.size w5 (w5.alloc (.cells #[.int .i64 0, .int .i64 3, .int .i64 5, .int .i64 9] 40)) := (Below.refl _ _).alloc (Nat.le_refl _) _
  refine (same_yes [(0, 3), (5, 9)] 2 c3 2 A3 (some ⟨w5.heap.size, 0, none⟩) _ rfl ((HA3.out.below Hb45.out).below q6) (Rd.new w5 [.int .i64 0, .int .i64 3, .int .i64 5, .int .i64 9] 40) (by omega)).mono ?_
  rintro e w6 ⟨rfl, hb6⟩
  have Hb6 := Lib.hid (q6.trans (hb6.mono q6.size))
  have Hall := Lib.hid (Hb13.out.trans ((Hb45.out.trans (Hb6.out.mono Hb45.out.size)).mono Hb13.out.size))
  clear hb6 q6
  go_wp2_with fail
  go_ret
  exact ⟨rfl, Hall.out⟩
end Go.Proofs.Ytjfpflnijkokaaa
