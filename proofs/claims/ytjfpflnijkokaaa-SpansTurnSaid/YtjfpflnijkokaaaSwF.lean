/- The walk of spans.Minus: what is in the first alone. -/
import Derived.Test.YtjfpflnijkokaaaSwE
namespace Go.Proofs.Ytjfpflnijkokaaa
open Go.RowKit

attribute [local go_sem ↓] Go.wp_at_zero Go.wp_at_succ

theorem AndOK.lower {a b : List SpanM} {w w1 w' : World} {e : Ending} (hb : Below w.heap.size w w1) (h : AndOK a b w1 e w') : AndOK a b w e w' := by
  obtain ⟨h1, h2⟩ := h
  refine ⟨?_, hb.trans (h2.mono hb.size)⟩
  rcases h1 with h1 | ⟨h1, A, c, h3, h4⟩
  · exact .inl h1
  · exact .inr ⟨h1, A, c, h3, h4.lower hb.size⟩
theorem gapsF_len : ∀ (b : List SpanM) (f : Int) (g : List SpanM), (gapsF b f g).1.length ≤ g.length + b.length
  | [], _, _ => by simp [gapsF]
  | s :: b, f, g => by
    rw [gapsF]
    have h1 := gapsF_len b s.2 (addS g (f, s.1))
    have h2 := addS_len g (f, s.1)
    rw [List.length_cons]
    omega

/-- How Minus ends. -/
def MinusOK (a b : List SpanM) (w : World) (e : Ending) (w' : World) : Prop :=
  (rightS b = false ∧ e = .returned (.tuple #[.slice none 0 0, .int .i64 1]) ∧ Below w.heap.size w w') ∨ (rightS b = true ∧ AndOK a (gapsS b 4096) w e w')

set_option maxHeartbeats 16000000 in
set_option maxRecDepth 100000 in
theorem sminus_any (a b : List SpanM) (n nb c cb : Nat) (A B : Option Addr) (w : World) (hl : a.length = n) (hr : Rd w A (spc a)) (hn : n ≤ 4000) (hlb : b.length = nb) (hrb : Rd w B (spc b)) (hnb : nb ≤ 4000) :
    Calls Try.prog 23 #[.slice A n c, .slice B nb cb] w fun e w' => MinusOK a b w e w' := by
  have hri := Lib.hid (sright_any b nb cb B w hlb hrb (by omega))
  have hand := Lib.hid (fun (w' : World) (h : Below w.heap.size w w') (g : List SpanM) (m c' : Nat) (A' : Option Addr) (hg : g.length = m) (hm : m ≤ 5000) (hG : Rd w' A' (spc g)) => sand_any a g n m c c' A A' w' hl (hr.below h) (by omega) hg hG hm)
  have Hlb := Lib.hid hlb
  have Hrb := Lib.hid hrb
  clear hl hr hlb hrb
  cases hR : rightS b
  · have hf : Hid (rightS b = false) := hR
    rw [hR] at hri
    clear hR
    go_enter Try.func23, Try.ntmps23
    go_wp2_with fail
    refine hri.out.mono ?_
    rintro e w1 ⟨rfl, hb1⟩
    go_wp2_with fail
    go_ret2
    exact .inl ⟨hf.out, rfl, hb1⟩
  · have hf : Hid (rightS b = true) := hR
    rw [hR] at hri
    clear hR
    go_enter Try.func23, Try.ntmps23
    go_wp2_with fail
    refine hri.out.mono ?_
    rintro e w1 ⟨rfl, hb1⟩
    have Hb1 := Lib.hid hb1
    clear hb1
    go_wp2_with fail
    go_loopw [6, 7, 15] (fun vo vf vi wr => ∃ (j m c' : Nat) (f : Int) (A' : Option Addr) (g : List SpanM), vo = .slice A' m c' ∧ vf = .int .i64 f ∧ vi = .int .i64 (j : Int) ∧ j ≤ nb ∧ m ≤ j ∧ Hid (g.length = m) ∧ Hid (gapsF b 0 [] = gapsF (b.drop j) f g) ∧ Hid (Own wr w.heap.size 40 2 A' m c' (spc g)) ∧ Hid (Below w.heap.size w wr)) (fun _ _ vi _ => nb - (intOf vi).toNat)
    case atStart => exact ⟨0, 0, 0, 0, none, [], rfl, rfl, rfl, by omega, by omega, rfl, rfl, Own.nil _ _ _ _, Hb1⟩
    case round =>
      obtain ⟨j, m, c', f, A', g, rfl, rfl, rfl, hj, hmj, Hm, Hg, Ho, Hb⟩ := hrel
      by_cases hjn : j < nb
      · have hjl : j < b.length := by rw [Hlb.out]; exact hjn
        have hjI : (j : Int) < (nb : Int) := by omega
        have hj0 : (0 : Int) ≤ (j : Int) := by omega
        obtain ⟨bb, ob, rfl, c0, c1⟩ := (Hrb.out.below Hb.out).span hjl
        have Hd : Hid (gapsF b 0 [] = gapsF (b.drop (j + 1)) b[j].2 (addS g (f, b[j].1))) := by
          show _ = _
          rw [Hg.out, List.drop_eq_getElem_cons hjl, gapsF]
        generalize b[j] = s at *
        obtain ⟨s1, s2⟩ := s
        dsimp only at c0 c1 Hd
        have hbl := Blk.new wr 40 #[.int .i64 s1, .int .i64 s2]
        have hb0 : Below wr.heap.size wr (wr.alloc (.cells #[.int .i64 s1, .int .i64 s2] 40)) := (Below.refl _ _).alloc (Nat.le_refl _) _
        have Hb3 := Lib.hid (Hb.out.trans (hb0.mono Hb.out.size))
        have Hne : Hid (∀ k, (Value.slice A' m c').ownBlock = some k → k ≠ wr.heap.size) := fun k hk e => by
          have := (Ho.out.lt k hk).2
          omega
        have Hadd := Lib.hid (sadd_any g f s1 m c' w.heap.size A' _ Hm.out (Ho.out.below hb0) (by omega) Hb3.out.size)
        have hrge := Ho.out.row_ge
        have Hrge := Lib.hid hrge
        have hlen2 := addS_len g (f, s1)
        rw [Hm.out] at hlen2
        have Hbl := Lib.hid hbl
        clear hjl hb0 hbl Ho Hb Hg hrge
        go_wp2_with fail
        refine Hadd.out.mono ?_
        rintro e w6 ⟨A6, c6, rfl, ho6, hg6, hrow6⟩
        have Hb6 := Lib.hid (Hb3.out.grown hg6 Hb3.out.size Hrge.out)
        have hB6 := Hbl.out.grown hg6 (fun e => Hne.out _ e.symm rfl)
        have x1 := hB6.cell 1
        simp only [List.getElem?_cons_zero, List.getElem?_cons_succ] at x1
        have Ho6 := Lib.hid ho6
        generalize addS g (f, s1) = g2 at *
        obtain ⟨m2, hm2⟩ : ∃ m2, g2.length = m2 := ⟨_, rfl⟩
        rw [hm2] at Ho6 hlen2 ⊢
        have HM2 := Lib.hid hm2
        clear hm2 ho6 hg6 hrow6 hB6 Hadd
        go_wp2_with fail
        go_roundw
        case rel => exact ⟨j + 1, m2, c6, s2, A6, g2, rfl, rfl, by go_num, by omega, by omega, HM2, Hd, Ho6, Hb6⟩
        case measure => simp only [intOf, Int.toNat_natCast]; omega
      · obtain rfl : j = nb := by omega
        have hres : Hid (gapsS b 4096 = addS g (f, 4096)) := by
          show _ = _
          unfold gapsS
          rw [Hg.out, (show b.drop j = [] from List.drop_eq_nil_of_le (by rw [Hlb.out]; exact Nat.le_refl _)), gapsF]
        have Hadd := Lib.hid (sadd_any g f 4096 m c' w.heap.size A' wr Hm.out Ho.out (by omega) Hb.out.size)
        have hrge := Ho.out.row_ge
        have Hrge := Lib.hid hrge
        have hlen2 := addS_len g (f, 4096)
        rw [Hm.out] at hlen2
        rw [← hres.out] at hlen2
        unfold AddOK at Hadd
        rw [← hres.out] at Hadd
        clear hrge Ho Hg
        go_wp2_with fail
        refine Hadd.out.mono ?_
        rintro e w6 ⟨A6, c6, rfl, ho6, hg6, hrow6⟩
        have Hb6 := Lib.hid (Hb.out.grown hg6 Hb.out.size Hrge.out)
        have Hrd6 := Lib.hid ho6.rd
        clear ho6 hg6 hrow6 Hadd
        go_wp2_with fail
        refine (hand.out w6 Hb6.out (gapsS b 4096) _ c6 A6 rfl (by omega) Hrd6.out).mono ?_
        intro e w7 h7
        have H7 := Lib.hid (AndOK.lower Hb6.out h7)
        obtain ⟨h8, _⟩ := h7
        rcases h8 with ⟨_, rfl⟩ | ⟨_, A9, c9, rfl, _⟩
        · go_wp2_with fail
          go_ret2
          exact .inr ⟨hf.out, H7.out⟩
        · go_wp2_with fail
          go_ret2
          exact .inr ⟨hf.out, H7.out⟩
end Go.Proofs.Ytjfpflnijkokaaa
