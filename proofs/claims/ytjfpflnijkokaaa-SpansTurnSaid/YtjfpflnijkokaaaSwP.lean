/- The walk of spans.Or: what is in one of both. -/
import Derived.Test.YtjfpflnijkokaaaSwO
import Derived.Test.YtjfpflnijkokaaaSwM
import Derived.Test.YtjfpflnijkokaaaSwL
namespace Go.Proofs.Ytjfpflnijkokaaa
open Go.RowKit

attribute [local go_sem ↓] Go.wp_at_zero Go.wp_at_succ

theorem concat2_any (a b : List SpanM) (n nb c cb : Nat) (A B : Option Addr) (w : World) (hl : a.length = n) (hr : Rd w A (spc a)) (hn : n ≤ 5000) (hlb : b.length = nb) (hrb : Rd w B (spc b)) (hnb : nb ≤ 5000) :
    Calls Try.prog 32 #[.slice (some ⟨w.heap.size, 0, none⟩) 2 2] (w.alloc (.cells #[.slice A n c, .slice B nb cb] 24)) fun e w' => ∃ A' c', e = .returned (.slice A' (n + nb) c') ∧ Own w' w.heap.size 40 2 A' (n + nb) c' (spc (a ++ b)) ∧ Below w.heap.size w w' := by
  have hb0 : Below w.heap.size w (w.alloc (.cells #[.slice A n c, .slice B nb cb] 24)) := (Below.refl _ _).alloc (Nat.le_refl _) _
  have hR : PLists (w.alloc (.cells #[.slice A n c, .slice B nb cb] 24)) [.slice A n c, .slice B nb cb] [a, b] := fun i l hi => by
    match i, hi with
    | 0, hi =>
      obtain rfl : a = l := by simpa using hi
      exact ⟨A, c, by rw [hl]; rfl, hr.below hb0⟩
    | 1, hi =>
      obtain rfl : b = l := by simpa using hi
      exact ⟨B, cb, by rw [hlb]; rfl, hrb.below hb0⟩
    | i + 2, hi => simp at hi
  refine (concatP_any [a, b] [.slice A n c, .slice B nb cb] 2 2 (n + nb) (some ⟨w.heap.size, 0, none⟩) _ rfl (Rd.new w [.slice A n c, .slice B nb cb] 24) hR (by simp [hl, hlb]) (by omega) (by omega)).mono ?_
  rintro e w' ⟨A', c', rfl, ho, hb⟩
  refine ⟨A', c', rfl, ?_, hb0.trans (hb.mono hb0.size)⟩
  have e1 : [a, b].flatten = a ++ b := by simp
  rw [e1] at ho
  exact ho.lower hb0.size

theorem foldl_snoc (l : List SpanM) (s : SpanM) : (l ++ [s]).foldl addS [] = addS (l.foldl addS []) s := by rw [List.foldl_append]; rfl

set_option maxHeartbeats 16000000 in
set_option maxRecDepth 100000 in
theorem sor_any (a b : List SpanM) (n nb c cb : Nat) (A B : Option Addr) (w : World) (hl : a.length = n) (hr : Rd w A (spc a)) (hn : n ≤ 5000) (hlb : b.length = nb) (hrb : Rd w B (spc b)) (hnb : nb ≤ 5000) :
    Calls Try.prog 22 #[.slice A n c, .slice B nb cb] w fun e w' => ResOK (bothS 1 a b) w e w' := by
  have hri := Lib.hid (sright_any a n c A w hl hr (by omega))
  have hri2 := Lib.hid (fun w' (h : Below w.heap.size w w') => sright_any b nb cb B w' hlb (hrb.below h) (by omega))
  have hcc := Lib.hid (fun w' (h : Below w.heap.size w w') => concat2_any a b n nb c cb A B w' hl (hr.below h) hn hlb (hrb.below h) hnb)
  have Hlen : Hid ((a ++ b).length = n + nb) := by show _ = _; rw [List.length_append, hl, hlb]
  clear hl hr hlb hrb
  cases hR : rightS a
  · have hf : Hid (bothS 1 a b = none) := bothS_none1 1 hR
    rw [hR] at hri
    clear hR hcc
    go_enter Try.func22, Try.ntmps22
    go_wp2_with fail
    refine hri.out.mono ?_
    rintro e w1 ⟨rfl, hb1⟩
    go_wp2_with fail
    go_ret2
    exact ⟨.inl ⟨hf.out, rfl⟩, hb1⟩
  · cases hR2 : rightS b
    · have hf : Hid (bothS 1 a b = none) := bothS_none2 1 hR2
      rw [hR] at hri
      rw [hR2] at hri2
      clear hR hR2 hcc
      go_enter Try.func22, Try.ntmps22
      go_wp2_with fail
      refine hri.out.mono ?_
      rintro e w1 ⟨rfl, hb1⟩
      go_wp2_with fail
      refine (hri2.out w1 hb1).mono ?_
      rintro e w2 ⟨rfl, hb2⟩
      go_wp2_with fail
      go_ret2
      exact ⟨.inl ⟨hf.out, rfl⟩, hb1.trans (hb2.mono hb1.size)⟩
    · have hf : Hid (bothS 1 a b = some (spansF (fun k => onS a k || onS b k) 4096)) := bothS_some 1 hR hR2
      have Hin : Hid (∀ s ∈ a ++ b, 0 ≤ s.1 ∧ s.1 ≤ 4096) := fun s hs => by
        have key : ∀ l : List SpanM, rightS l = true → s ∈ l → 0 ≤ s.1 ∧ s.1 ≤ 4096 := fun l h hs => by
          obtain ⟨h1, h2⟩ := (rightS_spec l).1 h
          have h3 := h1.1 s hs
          have h4 := h2 s hs
          omega
        rcases List.mem_append.1 hs with hs | hs
        · exact key a hR hs
        · exact key b hR2 hs
      have Hsame : Hid (∀ c : List SpanM, c.Perm (a ++ b) → c.Pairwise (fun x y => x.1 ≤ y.1) → c.foldl addS [] = spansF (fun k => onS a k || onS b k) 4096) := fun c h1 h2 => or_same hR hR2 h1 h2
      rw [hR] at hri
      rw [hR2] at hri2
      clear hR hR2
      go_enter Try.func22, Try.ntmps22
      go_wp2_with fail
      refine hri.out.mono ?_
      rintro e w1 ⟨rfl, hb1⟩
      go_wp2_with fail
      refine (hri2.out w1 hb1).mono ?_
      rintro e w2 ⟨rfl, hb2⟩
      have Hb2 := Lib.hid (hb1.trans (hb2.mono hb1.size))
      clear hb1 hb2
      have hc2 := Lib.hid (hcc.out w2 Hb2.out)
      go_wp2_with fail
      refine hc2.out.mono ?_
      rintro e w3 ⟨A3, c3, rfl, ho3, hb3⟩
      have hso := Lib.hid (sort_any (a ++ b) A3 (n + nb) c3 w2.heap.size w3 ho3 Hin.out (by omega))
      have Hb3 := Lib.hid (Hb2.out.trans (hb3.mono Hb2.out.size))
      have Hrge3 := Lib.hid ho3.row_ge
      clear hcc hc2 ho3
      go_wp2_with fail
      refine hso.out.mono ?_
      rintro e w4 ⟨rfl, q, hp, hq, ho4, hg4⟩
      have Hb4 := Lib.hid (Hb3.out.grown hg4 Hb3.out.size (fun k hk => Nat.le_trans Hb2.out.size (Hrge3.out k hk)))
      have Hrq := Lib.hid ho4.rd
      have Hres : Hid (q.foldl addS [] = spansF (fun k => onS a k || onS b k) 4096) := Hsame.out q hp hq
      have HQl : Hid (q.length = n + nb) := by show _ = _; rw [hp.length_eq, Hlen.out]
      generalize spansF (fun k => onS a k || onS b k) 4096 = R at *
      obtain ⟨N, hN⟩ : ∃ N, n + nb = N := ⟨_, rfl⟩
      rw [hN] at HQl ⊢
      have hN1 : N ≤ 10000 := by omega
      clear hso Hsame hp hq ho4 hg4 Hrge3 Hlen Hin hb3 hN hri hri2
      go_wp2_with fail
      go_loopw [7, 26] (fun vo vi wr => ∃ (j m c' : Nat) (A' : Option Addr) (g : List SpanM), vo = .slice A' m c' ∧ vi = .int .i64 (j : Int) ∧ j ≤ N ∧ m ≤ j ∧ Hid (g.length = m) ∧ Hid (g = (q.take j).foldl addS []) ∧ Hid (Own wr w4.heap.size 40 2 A' m c' (spc g)) ∧ Hid (Below w4.heap.size w4 wr)) (fun _ vi _ => N - (intOf vi).toNat)
      case atStart => exact ⟨0, 0, 0, none, [], rfl, rfl, by omega, by omega, rfl, rfl, Own.nil _ _ _ _, Below.refl _ _⟩
      case round =>
        obtain ⟨j, m, c', A', g, rfl, rfl, hj, hmj, Hm, Hg, Ho, Hb⟩ := hrel
        by_cases hjn : j < N
        · have hjl : j < q.length := by rw [HQl.out]; exact hjn
          have hjI : (j : Int) < (N : Int) := by omega
          have hj0 : (0 : Int) ≤ (j : Int) := by omega
          obtain ⟨bb, ob, rfl, c0, c1⟩ := (Hrq.out.below Hb.out).span hjl
          have Htk : Hid (q.take (j + 1) = q.take j ++ [q[j]]) := List.take_succ_eq_append_getElem hjl
          generalize q[j] = s at *
          obtain ⟨s1, s2⟩ := s
          dsimp only at c0 c1
          have hb0 : Below wr.heap.size wr (wr.alloc (.cells #[.int .i64 s1, .int .i64 s2] 40)) := (Below.refl _ _).alloc (Nat.le_refl _) _
          have Hb5 := Lib.hid (Hb.out.trans (hb0.mono Hb.out.size))
          have Hadd := Lib.hid (sadd_any g s1 s2 m c' w4.heap.size A' _ Hm.out (Ho.out.below hb0) (by omega) Hb5.out.size)
          have hrge := Ho.out.row_ge
          have Hrge := Lib.hid hrge
          have Hlen2 := addS_len g (s1, s2)
          rw [Hm.out] at Hlen2
          have Hg2 : Hid (addS g (s1, s2) = (q.take (j + 1)).foldl addS []) := by
            show _ = _
            rw [Htk.out, foldl_snoc, Hg.out]
          clear hjl hb0 Ho Hb Hg hrge Htk
          go_wp2_with fail
          refine Hadd.out.mono ?_
          rintro e w6 ⟨A6, c6, rfl, ho6, hg6, hrow6⟩
          have Hb6 := Lib.hid (Hb5.out.grown hg6 Hb5.out.size Hrge.out)
          have Ho6 := Lib.hid ho6
          generalize addS g (s1, s2) = g2 at *
          obtain ⟨m2, hm2⟩ : ∃ m2, g2.length = m2 := ⟨_, rfl⟩
          rw [hm2] at Ho6 Hlen2 ⊢
          have HM2 := Lib.hid hm2
          clear hm2 ho6 hg6 hrow6 Hadd
          go_wp2_with fail
          go_roundw
          case rel => exact ⟨j + 1, m2, c6, A6, g2, rfl, by go_num, by omega, by omega, HM2, Hg2, Ho6, Hb6⟩
          case measure => simp only [intOf, Int.toNat_natCast]; omega
        · obtain rfl : j = N := by omega
          have hres : Hid (bothS 1 a b = some g) := by
            show _ = _
            rw [hf.out, Hg.out, List.take_of_length_le (by rw [HQl.out]; exact Nat.le_refl _), Hres.out]
          have Hob : Hid (Own wr w.heap.size 40 2 A' g.length c' (spc g)) := by
            show Own _ _ _ _ _ _ _ _
            rw [Hm.out]
            exact Ho.out.lower Hb4.out.size
          have Hb9 : Hid (Below w.heap.size w wr) := Hb4.out.trans (Hb.out.mono Hb4.out.size)
          rw [← Hm.out]
          clear Ho Hb
          go_wp2_with fail
          go_ret2
          exact ⟨.inr ⟨g, A', c', hres.out, rfl, Hob.out⟩, Hb9.out⟩
end Go.Proofs.Ytjfpflnijkokaaa
