/- Plain facts of the laws on spans; the walks of SpansLaws and SpansTurn. -/
import Derived.Test.YtjfpflnijkokaaaSwS
import Derived.Test.YtjfpflnijkokaaaSwP
namespace Go.Proofs.Ytjfpflnijkokaaa
open Go.RowKit

attribute [local go_sem ↓] Go.wp_at_zero Go.wp_at_succ

theorem good_half : ∀ (l : List SpanM) (B T : Int), goodS l → (∀ s ∈ l, B ≤ s.1 ∧ s.2 ≤ T) → l ≠ [] → 2 * (l.length : Int) ≤ T - B + 1
  | [], _, _, _, _, h => absurd rfl h
  | [s], B, T, hg, hb, _ => by
    have h1 := hb s (List.mem_singleton.2 rfl)
    have h2 := hg.1 s (List.mem_singleton.2 rfl)
    simp only [List.length_singleton]
    omega
  | s :: t :: l, B, T, hg, hb, _ => by
    have h1 := hb s (List.mem_cons_self ..)
    have h2 := hg.1 s (List.mem_cons_self ..)
    have h3 := good_half (t :: l) (s.2 + 1) T (good_tail hg) (fun u hu => ⟨by
      have := (List.pairwise_cons.1 hg.2).1 u hu
      omega, (hb u (List.mem_cons_of_mem _ hu)).2⟩) (by simp)
    simp only [List.length_cons] at h3 ⊢
    omega
theorem right_half {l : List SpanM} (h : rightS l = true) : l.length ≤ 2048 := by
  obtain ⟨h1, h2⟩ := (rightS_spec l).1 h
  by_cases hn : l = []
  · subst hn; simp
  · have := good_half l 0 4096 h1 h2 hn
    omega

def outM (r : Option (List SpanM)) : List SpanM := r.getD []
def errM (r : Option (List SpanM)) : Int := match r with | none => 1 | some _ => 0
theorem outM_none : outM none = [] := rfl
theorem ResOK.uni {r : Option (List SpanM)} {w w' : World} {e : Ending} (h : ResOK r w e w') :
    (∃ A c, e = .returned (.tuple #[.slice A (outM r).length c, .int .i64 (errM r)]) ∧ Own w' w.heap.size 40 2 A (outM r).length c (spc (outM r))) ∧ Below w.heap.size w w' := by
  obtain ⟨h1, h2⟩ := h
  refine ⟨?_, h2⟩
  rcases h1 with ⟨rfl, h1⟩ | ⟨m, A, c, rfl, h3, h4⟩
  · exact ⟨Option.none, 0, h1, Own.nil _ _ _ _⟩
  · exact ⟨A, c, h3, h4⟩
theorem both_le (k : Nat) (a b : List SpanM) : (outM (bothS k a b)).length ≤ 2048 := by
  unfold bothS
  split
  · unfold outM
    rw [Option.getD_some]
    exact right_half (right_spansF _)
  · simp [outM]
theorem rand2_any (a b : List SpanM) (n nb c cb : Nat) (A B : Option Addr) (w : World) (hl : a.length = n) (hr : Rd w A (spc a)) (hn : n ≤ 4000) (hlb : b.length = nb) (hrb : Rd w B (spc b)) (hnb : nb ≤ 4000) (m : List SpanM) (M : Nat) (E : Int) (hm : outM (bothS 0 a b) = m) (hM : m.length = M) (hE : errM (bothS 0 a b) = E) :
    Calls Try.prog 21 #[.slice A n c, .slice B nb cb] w fun e w' => (∃ A c, e = .returned (.tuple #[.slice A M c, .int .i64 E]) ∧ Own w' w.heap.size 40 2 A M c (spc m)) ∧ Below w.heap.size w w' := by
  subst hm hM hE
  exact (rand_any a b n nb c cb A B w hl hr hn hlb hrb hnb).mono fun _ _ h => h.uni
theorem ror2_any (a b : List SpanM) (n nb c cb : Nat) (A B : Option Addr) (w : World) (hl : a.length = n) (hr : Rd w A (spc a)) (hn : n ≤ 4000) (hlb : b.length = nb) (hrb : Rd w B (spc b)) (hnb : nb ≤ 4000) (m : List SpanM) (M : Nat) (E : Int) (hm : outM (bothS 1 a b) = m) (hM : m.length = M) (hE : errM (bothS 1 a b) = E) :
    Calls Try.prog 22 #[.slice A n c, .slice B nb cb] w fun e w' => (∃ A c, e = .returned (.tuple #[.slice A M c, .int .i64 E]) ∧ Own w' w.heap.size 40 2 A M c (spc m)) ∧ Below w.heap.size w w' := by
  subst hm hM hE
  exact (sor_any a b n nb c cb A B w hl hr (by omega) hlb hrb (by omega)).mono fun _ _ h => h.uni
theorem rminus2_any (a b : List SpanM) (n nb c cb : Nat) (A B : Option Addr) (w : World) (hl : a.length = n) (hr : Rd w A (spc a)) (hn : n ≤ 4000) (hlb : b.length = nb) (hrb : Rd w B (spc b)) (hnb : nb ≤ 4000) (m : List SpanM) (M : Nat) (E : Int) (hm : outM (bothS 2 a b) = m) (hM : m.length = M) (hE : errM (bothS 2 a b) = E) :
    Calls Try.prog 23 #[.slice A n c, .slice B nb cb] w fun e w' => (∃ A c, e = .returned (.tuple #[.slice A M c, .int .i64 E]) ∧ Own w' w.heap.size 40 2 A M c (spc m)) ∧ Below w.heap.size w w' := by
  subst hm hM hE
  exact (rminus_any a b n nb c cb A B w hl hr hn hlb hrb hnb).mono fun _ _ h => h.uni
theorem count2_any (l : List SpanM) (n c : Nat) (A : Option Addr) (w : World) (hl : l.length = n) (hr : Rd w A (spc l)) (hn : n ≤ 1000000) (hR : rightS l = true) (K : Int) (hK : countS l = K) :
    Calls Try.prog 19 #[.slice A n c] w fun e w' => e = .returned (.int .i64 K) ∧ Below w.heap.size w w' := by
  have h := scount_any l n c A w hl hr hn
  rw [if_pos hR, hK] at h
  exact h
theorem comm0 (a b : List SpanM) : bothS 0 a b = bothS 0 b a := by
  unfold bothS
  have e : (fun k => opS 0 (onS a k) (onS b k)) = (fun k => opS 0 (onS b k) (onS a k)) := funext fun k => Bool.and_comm _ _
  rw [e]
  by_cases h : rightS a = true ∧ rightS b = true
  · rw [if_pos h, if_pos ⟨h.2, h.1⟩]
  · rw [if_neg h, if_neg fun h' => h ⟨h'.2, h'.1⟩]
theorem comm1 (a b : List SpanM) : bothS 1 a b = bothS 1 b a := by
  unfold bothS
  have e : (fun k => opS 1 (onS a k) (onS b k)) = (fun k => opS 1 (onS b k) (onS a k)) := funext fun k => Bool.or_comm _ _
  rw [e]
  by_cases h : rightS a = true ∧ rightS b = true
  · rw [if_pos h, if_pos ⟨h.2, h.1⟩]
  · rw [if_neg h, if_neg fun h' => h ⟨h'.2, h'.1⟩]
theorem both_bad (k : Nat) {a b : List SpanM} (h : ¬ (rightS a = true ∧ rightS b = true)) : bothS k a b = none := by unfold bothS; rw [if_neg h]
theorem counts_le {l : List SpanM} (h : rightS l = true) : 0 ≤ countS l ∧ countS l ≤ 4096 := by
  rw [countS_on h]
  have := List.countP_le_length (p := onS l) (l := List.range 4096)
  rw [List.length_range] at this
  omega

set_option maxHeartbeats 16000000 in
set_option maxRecDepth 100000 in
theorem spanslaws_walk (l : List SpanM) (n c : Nat) (A : Option Addr) (l2 : List SpanM) (n2 c2 : Nat) (A2 : Option Addr) (w : World) (hl : l.length = n) (hr : Rd w A (spc l)) (hnc : n ≤ c) (hc : c ≤ 9223372036854775807) (hl2 : l2.length = n2) (hr2 : Rd w A2 (spc l2)) (hnc2 : n2 ≤ c2) (hc2 : c2 ≤ 9223372036854775807) :
    Calls Try.prog 7 #[.slice A n c, .slice A2 n2 c2] w fun e w' => e = .returned (.bool true) ∧ Below w.heap.size w w' := by
  have hfw := Lib.hid (fun w' => few_any l n c A w' hl hnc hc)
  have hfw2 := Lib.hid (fun w' => few_any l2 n2 c2 A2 w' hl2 hnc2 hc2)
  have hR := few_rd hr
  have hR2 := few_rd hr2
  have hle : (fewP l).length ≤ 200 := by unfold fewP; rw [List.length_take]; omega
  have hle2 : (fewP l2).length ≤ 200 := by unfold fewP; rw [List.length_take]; omega
  generalize fewP l = X at *
  generalize fewP l2 = Y at *
  obtain ⟨F, hF⟩ : ∃ F, X.length = F := ⟨_, rfl⟩
  obtain ⟨G, hG⟩ : ∃ G, Y.length = G := ⟨_, rfl⟩
  rw [hF] at hfw hle
  rw [hG] at hfw2 hle2
  have LX := Lib.hid hF
  have LY := Lib.hid hG
  have HX := Lib.hid hR
  have HY := Lib.hid hR2
  have Hb : Hid (Below w.heap.size w w) := Below.refl _ _
  clear hl hr hnc hc hl2 hr2 hnc2 hc2 hF hG hR hR2
  by_cases hRR : rightS X = true ∧ rightS Y = true
  · obtain ⟨hRX, hRY⟩ := hRR
    have e0 := bothS_some 0 hRX hRY
    have e1 := bothS_some 1 hRX hRY
    have e2 := bothS_some 2 hRX hRY
    have e5 := Lib.hid (bothS_some 0 hRX hRY)
    obtain ⟨m0, h0⟩ : ∃ m, spansF (fun k => onS X k && onS Y k) 4096 = m := ⟨_, rfl⟩
    obtain ⟨m1, h1⟩ : ∃ m, spansF (fun k => onS X k || onS Y k) 4096 = m := ⟨_, rfl⟩
    obtain ⟨m2, h2⟩ : ∃ m, spansF (fun k => onS X k && !onS Y k) 4096 = m := ⟨_, rfl⟩
    have r0 : rightS m0 = true := by rw [← h0]; exact right_spansF _
    have r1 : rightS m1 = true := by rw [← h1]; exact right_spansF _
    have r2 : rightS m2 = true := by rw [← h2]; exact right_spansF _
    have b0 : Hid (bothS 0 X Y = some m0) := by show _ = _; rw [e0, ← h0]; rfl
    have b1 : Hid (bothS 1 X Y = some m1) := by show _ = _; rw [e1, ← h1]; rfl
    have b2 : Hid (bothS 2 X Y = some m2) := by show _ = _; rw [e2, ← h2]; rfl
    have b0r : Hid (bothS 0 Y X = some m0) := by show _ = _; rw [comm0]; exact b0.out
    have b1r : Hid (bothS 1 Y X = some m1) := by show _ = _; rw [comm1]; exact b1.out
    have b3 : Hid (bothS 1 m0 m2 = some X) := by
      show _ = _
      rw [bothS_some 1 r0 r2, ← h0, ← h2]
      exact congrArg some (both_rest (b := Y) hRX)
    have b4 : Hid (bothS 0 m2 Y = some []) := by
      show _ = _
      rw [bothS_some 0 r2 hRY, ← h2]
      exact congrArg some rest_none
    have hcb := count_both hRX hRY
    rw [h0, h1] at hcb
    have l0 := right_half r0
    have l1 := right_half r1
    have l2 := right_half r2
    obtain ⟨M0, g0⟩ : ∃ M, m0.length = M := ⟨_, rfl⟩
    obtain ⟨M1, g1⟩ : ∃ M, m1.length = M := ⟨_, rfl⟩
    obtain ⟨M2, g2⟩ : ∃ M, m2.length = M := ⟨_, rfl⟩
    rw [g0] at l0
    rw [g1] at l1
    rw [g2] at l2
    have c0 := counts_le r0
    have c1 := counts_le r1
    have cX := counts_le hRX
    have cY := counts_le hRY
    obtain ⟨K0, k0⟩ : ∃ K, countS m0 = K := ⟨_, rfl⟩
    obtain ⟨K1, k1⟩ : ∃ K, countS m1 = K := ⟨_, rfl⟩
    obtain ⟨KX, kX⟩ : ∃ K, countS X = K := ⟨_, rfl⟩
    obtain ⟨KY, kY⟩ : ∃ K, countS Y = K := ⟨_, rfl⟩
    rw [k0] at c0 hcb
    rw [k1] at c1 hcb
    rw [kX] at cX hcb
    rw [kY] at cY hcb
    have hcb2 : ((KX : Int) + KY == KX + KY) = true := by simp
    have hw1 : IntKind.i64.wrap (K0 + K1) = KX + KY := by rw [IntKind.wrap_i64]; omega
    have hw2 : IntKind.i64.wrap (KX + KY) = KX + KY := by rw [IntKind.wrap_i64]; omega
    have G0 := Lib.hid g0
    have G1 := Lib.hid g1
    have G2 := Lib.hid g2
    have Q0 := Lib.hid k0
    have Q1 := Lib.hid k1
    have QX := Lib.hid kX
    have QY := Lib.hid kY
    have R0 := Lib.hid r0
    have R1 := Lib.hid r1
    have RX := Lib.hid hRX
    have RY := Lib.hid hRY
    clear e0 e1 e2 e5 h0 h1 h2 r0 r1 r2 g0 g1 g2 k0 k1 kX kY hRX hRY
    go_enter Try.func7, Try.ntmps7
    go_wp2_with fail
    refine (shown_any w).mono ?_
    rintro e v1 ⟨rfl, hb⟩
    replace Hb := Lib.hid (Hb.out.trans (hb.mono Hb.out.size))
    replace HX := Lib.hid (HX.out.below hb)
    replace HY := Lib.hid (HY.out.below hb)
    clear hb
    go_wp2_with fail
    refine (hfw.out _).mono ?_
    rintro e uhfw ⟨rfl, rfl⟩
    go_wp2_with fail
    refine (hfw2.out _).mono ?_
    rintro e uhfw2 ⟨rfl, rfl⟩
    go_wp2_with fail
    refine (rand2_any X Y F G c c2 A A2 _ LX.out HX.out (by omega) LY.out HY.out (by omega) m0 M0 0 (by rw [b0.out]; rfl) G0.out (by rw [b0.out]; rfl)).mono ?_
    rintro e v2 ⟨⟨D0, d0, rfl, ho⟩, hb⟩
    replace Hb := Lib.hid (Hb.out.trans (hb.mono Hb.out.size))
    replace HX := Lib.hid (HX.out.below hb)
    replace HY := Lib.hid (HY.out.below hb)
    have S0 := Lib.hid ho.rd
    clear ho
    clear hb
    go_wp2_with fail
    refine (rand2_any Y X G F c2 c A2 A _ LY.out HY.out (by omega) LX.out HX.out (by omega) m0 M0 0 (by rw [b0r.out]; rfl) G0.out (by rw [b0r.out]; rfl)).mono ?_
    rintro e v3 ⟨⟨D0r, d0r, rfl, ho⟩, hb⟩
    replace Hb := Lib.hid (Hb.out.trans (hb.mono Hb.out.size))
    replace HX := Lib.hid (HX.out.below hb)
    replace HY := Lib.hid (HY.out.below hb)
    replace S0 := Lib.hid (S0.out.below hb)
    have S0r := Lib.hid ho.rd
    clear ho
    clear hb
    go_wp2_with fail
    refine (ror2_any X Y F G c c2 A A2 _ LX.out HX.out (by omega) LY.out HY.out (by omega) m1 M1 0 (by rw [b1.out]; rfl) G1.out (by rw [b1.out]; rfl)).mono ?_
    rintro e v4 ⟨⟨D1, d1, rfl, ho⟩, hb⟩
    replace Hb := Lib.hid (Hb.out.trans (hb.mono Hb.out.size))
    replace HX := Lib.hid (HX.out.below hb)
    replace HY := Lib.hid (HY.out.below hb)
    replace S0 := Lib.hid (S0.out.below hb)
    replace S0r := Lib.hid (S0r.out.below hb)
    have S1 := Lib.hid ho.rd
    clear ho
    clear hb
    go_wp2_with fail
    refine (ror2_any Y X G F c2 c A2 A _ LY.out HY.out (by omega) LX.out HX.out (by omega) m1 M1 0 (by rw [b1r.out]; rfl) G1.out (by rw [b1r.out]; rfl)).mono ?_
    rintro e v5 ⟨⟨D1r, d1r, rfl, ho⟩, hb⟩
    replace Hb := Lib.hid (Hb.out.trans (hb.mono Hb.out.size))
    replace HX := Lib.hid (HX.out.below hb)
    replace HY := Lib.hid (HY.out.below hb)
    replace S0 := Lib.hid (S0.out.below hb)
    replace S0r := Lib.hid (S0r.out.below hb)
    replace S1 := Lib.hid (S1.out.below hb)
    have S1r := Lib.hid ho.rd
    clear ho
    clear hb
    go_wp2_with fail
    refine (rminus2_any X Y F G c c2 A A2 _ LX.out HX.out (by omega) LY.out HY.out (by omega) m2 M2 0 (by rw [b2.out]; rfl) G2.out (by rw [b2.out]; rfl)).mono ?_
    rintro e v6 ⟨⟨D2, d2, rfl, ho⟩, hb⟩
    replace Hb := Lib.hid (Hb.out.trans (hb.mono Hb.out.size))
    replace HX := Lib.hid (HX.out.below hb)
    replace HY := Lib.hid (HY.out.below hb)
    replace S0 := Lib.hid (S0.out.below hb)
    replace S0r := Lib.hid (S0r.out.below hb)
    replace S1 := Lib.hid (S1.out.below hb)
    replace S1r := Lib.hid (S1r.out.below hb)
    have S2 := Lib.hid ho.rd
    clear ho
    clear hb
    go_wp2_with fail
    have hrt := sright_any X F c A v6 LX.out HX.out (by omega)
    rw [RX.out] at hrt
    refine hrt.mono ?_
    clear hrt
    rintro e v7 ⟨rfl, hb⟩
    replace Hb := Lib.hid (Hb.out.trans (hb.mono Hb.out.size))
    replace HX := Lib.hid (HX.out.below hb)
    replace HY := Lib.hid (HY.out.below hb)
    replace S0 := Lib.hid (S0.out.below hb)
    replace S0r := Lib.hid (S0r.out.below hb)
    replace S1 := Lib.hid (S1.out.below hb)
    replace S1r := Lib.hid (S1r.out.below hb)
    replace S2 := Lib.hid (S2.out.below hb)
    clear hb
    go_wp2_with fail
    have hrt := sright_any Y G c2 A2 v7 LY.out HY.out (by omega)
    rw [RY.out] at hrt
    refine hrt.mono ?_
    clear hrt
    rintro e v8 ⟨rfl, hb⟩
    replace Hb := Lib.hid (Hb.out.trans (hb.mono Hb.out.size))
    replace HX := Lib.hid (HX.out.below hb)
    replace HY := Lib.hid (HY.out.below hb)
    replace S0 := Lib.hid (S0.out.below hb)
    replace S0r := Lib.hid (S0r.out.below hb)
    replace S1 := Lib.hid (S1.out.below hb)
    replace S1r := Lib.hid (S1r.out.below hb)
    replace S2 := Lib.hid (S2.out.below hb)
    clear hb
    go_wp2_with fail
    refine (ror2_any m0 m2 M0 M2 d0 d2 D0 D2 _ G0.out S0.out (by omega) G2.out S2.out (by omega) X F 0 (by rw [b3.out]; rfl) LX.out (by rw [b3.out]; rfl)).mono ?_
    rintro e v9 ⟨⟨D3, d3, rfl, ho⟩, hb⟩
    replace Hb := Lib.hid (Hb.out.trans (hb.mono Hb.out.size))
    replace HX := Lib.hid (HX.out.below hb)
    replace HY := Lib.hid (HY.out.below hb)
    replace S0 := Lib.hid (S0.out.below hb)
    replace S0r := Lib.hid (S0r.out.below hb)
    replace S1 := Lib.hid (S1.out.below hb)
    replace S1r := Lib.hid (S1r.out.below hb)
    replace S2 := Lib.hid (S2.out.below hb)
    have S3 := Lib.hid ho.rd
    clear ho
    clear hb
    go_wp2_with fail
    refine (rand2_any m2 Y M2 G d2 c2 D2 A2 _ G2.out S2.out (by omega) LY.out HY.out (by omega) [] 0 0 (by rw [b4.out]; rfl) rfl (by rw [b4.out]; rfl)).mono ?_
    rintro e v10 ⟨⟨D4, d4, rfl, ho⟩, hb⟩
    replace Hb := Lib.hid (Hb.out.trans (hb.mono Hb.out.size))
    replace HX := Lib.hid (HX.out.below hb)
    replace HY := Lib.hid (HY.out.below hb)
    replace S0 := Lib.hid (S0.out.below hb)
    replace S0r := Lib.hid (S0r.out.below hb)
    replace S1 := Lib.hid (S1.out.below hb)
    replace S1r := Lib.hid (S1r.out.below hb)
    replace S2 := Lib.hid (S2.out.below hb)
    replace S3 := Lib.hid (S3.out.below hb)
    have S4 := Lib.hid ho.rd
    clear ho
    clear hb
    go_wp2_with fail
    refine (same_yes m0 M0 d0 d0r D0 D0r _ G0.out S0.out S0r.out (by omega)).mono ?_
    rintro e v11 ⟨rfl, hb⟩
    replace Hb := Lib.hid (Hb.out.trans (hb.mono Hb.out.size))
    replace HX := Lib.hid (HX.out.below hb)
    replace HY := Lib.hid (HY.out.below hb)
    replace S0 := Lib.hid (S0.out.below hb)
    replace S0r := Lib.hid (S0r.out.below hb)
    replace S1 := Lib.hid (S1.out.below hb)
    replace S1r := Lib.hid (S1r.out.below hb)
    replace S2 := Lib.hid (S2.out.below hb)
    replace S3 := Lib.hid (S3.out.below hb)
    replace S4 := Lib.hid (S4.out.below hb)
    clear hb
    go_wp2_with fail
    refine (same_yes m1 M1 d1 d1r D1 D1r _ G1.out S1.out S1r.out (by omega)).mono ?_
    rintro e v12 ⟨rfl, hb⟩
    replace Hb := Lib.hid (Hb.out.trans (hb.mono Hb.out.size))
    replace HX := Lib.hid (HX.out.below hb)
    replace HY := Lib.hid (HY.out.below hb)
    replace S0 := Lib.hid (S0.out.below hb)
    replace S0r := Lib.hid (S0r.out.below hb)
    replace S1 := Lib.hid (S1.out.below hb)
    replace S1r := Lib.hid (S1r.out.below hb)
    replace S2 := Lib.hid (S2.out.below hb)
    replace S3 := Lib.hid (S3.out.below hb)
    replace S4 := Lib.hid (S4.out.below hb)
    clear hb
    go_wp2_with fail
    refine (same_yes X F d3 c D3 A _ LX.out S3.out HX.out (by omega)).mono ?_
    rintro e v13 ⟨rfl, hb⟩
    replace Hb := Lib.hid (Hb.out.trans (hb.mono Hb.out.size))
    replace HX := Lib.hid (HX.out.below hb)
    replace HY := Lib.hid (HY.out.below hb)
    replace S0 := Lib.hid (S0.out.below hb)
    replace S0r := Lib.hid (S0r.out.below hb)
    replace S1 := Lib.hid (S1.out.below hb)
    replace S1r := Lib.hid (S1r.out.below hb)
    replace S2 := Lib.hid (S2.out.below hb)
    replace S3 := Lib.hid (S3.out.below hb)
    replace S4 := Lib.hid (S4.out.below hb)
    clear hb
    go_wp2_with fail
    refine (count2_any m0 M0 d0 D0 _ G0.out S0.out (by omega) R0.out K0 Q0.out).mono ?_
    rintro e v14 ⟨rfl, hb⟩
    replace Hb := Lib.hid (Hb.out.trans (hb.mono Hb.out.size))
    replace HX := Lib.hid (HX.out.below hb)
    replace HY := Lib.hid (HY.out.below hb)
    replace S0 := Lib.hid (S0.out.below hb)
    replace S0r := Lib.hid (S0r.out.below hb)
    replace S1 := Lib.hid (S1.out.below hb)
    replace S1r := Lib.hid (S1r.out.below hb)
    replace S2 := Lib.hid (S2.out.below hb)
    replace S3 := Lib.hid (S3.out.below hb)
    replace S4 := Lib.hid (S4.out.below hb)
    clear hb
    go_wp2_with fail
    refine (count2_any m1 M1 d1 D1 _ G1.out S1.out (by omega) R1.out K1 Q1.out).mono ?_
    rintro e v15 ⟨rfl, hb⟩
    replace Hb := Lib.hid (Hb.out.trans (hb.mono Hb.out.size))
    replace HX := Lib.hid (HX.out.below hb)
    replace HY := Lib.hid (HY.out.below hb)
    replace S0 := Lib.hid (S0.out.below hb)
    replace S0r := Lib.hid (S0r.out.below hb)
    replace S1 := Lib.hid (S1.out.below hb)
    replace S1r := Lib.hid (S1r.out.below hb)
    replace S2 := Lib.hid (S2.out.below hb)
    replace S3 := Lib.hid (S3.out.below hb)
    replace S4 := Lib.hid (S4.out.below hb)
    clear hb
    go_wp2_with fail
    refine (count2_any X F c A _ LX.out HX.out (by omega) RX.out KX QX.out).mono ?_
    rintro e v16 ⟨rfl, hb⟩
    replace Hb := Lib.hid (Hb.out.trans (hb.mono Hb.out.size))
    replace HX := Lib.hid (HX.out.below hb)
    replace HY := Lib.hid (HY.out.below hb)
    replace S0 := Lib.hid (S0.out.below hb)
    replace S0r := Lib.hid (S0r.out.below hb)
    replace S1 := Lib.hid (S1.out.below hb)
    replace S1r := Lib.hid (S1r.out.below hb)
    replace S2 := Lib.hid (S2.out.below hb)
    replace S3 := Lib.hid (S3.out.below hb)
    replace S4 := Lib.hid (S4.out.below hb)
    clear hb
    go_wp2_with fail
    refine (count2_any Y G c2 A2 _ LY.out HY.out (by omega) RY.out KY QY.out).mono ?_
    rintro e v17 ⟨rfl, hb⟩
    replace Hb := Lib.hid (Hb.out.trans (hb.mono Hb.out.size))
    replace HX := Lib.hid (HX.out.below hb)
    replace HY := Lib.hid (HY.out.below hb)
    replace S0 := Lib.hid (S0.out.below hb)
    replace S0r := Lib.hid (S0r.out.below hb)
    replace S1 := Lib.hid (S1.out.below hb)
    replace S1r := Lib.hid (S1r.out.below hb)
    replace S2 := Lib.hid (S2.out.below hb)
    replace S3 := Lib.hid (S3.out.below hb)
    replace S4 := Lib.hid (S4.out.below hb)
    clear hb
    go_wp2_with fail
    go_ret
    exact ⟨rfl, Hb.out⟩
  · have b0 := Lib.hid (both_bad 0 hRR)
    have b1 := Lib.hid (both_bad 1 hRR)
    have b2 := Lib.hid (both_bad 2 hRR)
    have b0r : Hid (bothS 0 Y X = none) := by show _ = _; rw [comm0]; exact b0.out
    have b1r : Hid (bothS 1 Y X = none) := by show _ = _; rw [comm1]; exact b1.out
    cases hX : rightS X
    · have hRX := Lib.hid hX
      clear hX hRR
      go_enter Try.func7, Try.ntmps7
      go_wp2_with fail
      refine (shown_any w).mono ?_
      rintro e v1 ⟨rfl, hb⟩
      replace Hb := Lib.hid (Hb.out.trans (hb.mono Hb.out.size))
      replace HX := Lib.hid (HX.out.below hb)
      replace HY := Lib.hid (HY.out.below hb)
      clear hb
      go_wp2_with fail
      refine (hfw.out _).mono ?_
      rintro e uhfw ⟨rfl, rfl⟩
      go_wp2_with fail
      refine (hfw2.out _).mono ?_
      rintro e uhfw2 ⟨rfl, rfl⟩
      go_wp2_with fail
      refine (rand2_any X Y F G c c2 A A2 _ LX.out HX.out (by omega) LY.out HY.out (by omega) [] 0 1 (by rw [b0.out]; rfl) rfl (by rw [b0.out]; rfl)).mono ?_
      rintro e v2 ⟨⟨E0, e0, rfl, _⟩, hb⟩
      replace Hb := Lib.hid (Hb.out.trans (hb.mono Hb.out.size))
      replace HX := Lib.hid (HX.out.below hb)
      replace HY := Lib.hid (HY.out.below hb)
      clear hb
      go_wp2_with fail
      refine (rand2_any Y X G F c2 c A2 A _ LY.out HY.out (by omega) LX.out HX.out (by omega) [] 0 1 (by rw [b0r.out]; rfl) rfl (by rw [b0r.out]; rfl)).mono ?_
      rintro e v3 ⟨⟨E1, e1, rfl, _⟩, hb⟩
      replace Hb := Lib.hid (Hb.out.trans (hb.mono Hb.out.size))
      replace HX := Lib.hid (HX.out.below hb)
      replace HY := Lib.hid (HY.out.below hb)
      clear hb
      go_wp2_with fail
      refine (ror2_any X Y F G c c2 A A2 _ LX.out HX.out (by omega) LY.out HY.out (by omega) [] 0 1 (by rw [b1.out]; rfl) rfl (by rw [b1.out]; rfl)).mono ?_
      rintro e v4 ⟨⟨E2, e2, rfl, _⟩, hb⟩
      replace Hb := Lib.hid (Hb.out.trans (hb.mono Hb.out.size))
      replace HX := Lib.hid (HX.out.below hb)
      replace HY := Lib.hid (HY.out.below hb)
      clear hb
      go_wp2_with fail
      refine (ror2_any Y X G F c2 c A2 A _ LY.out HY.out (by omega) LX.out HX.out (by omega) [] 0 1 (by rw [b1r.out]; rfl) rfl (by rw [b1r.out]; rfl)).mono ?_
      rintro e v5 ⟨⟨E3, e3, rfl, _⟩, hb⟩
      replace Hb := Lib.hid (Hb.out.trans (hb.mono Hb.out.size))
      replace HX := Lib.hid (HX.out.below hb)
      replace HY := Lib.hid (HY.out.below hb)
      clear hb
      go_wp2_with fail
      refine (rminus2_any X Y F G c c2 A A2 _ LX.out HX.out (by omega) LY.out HY.out (by omega) [] 0 1 (by rw [b2.out]; rfl) rfl (by rw [b2.out]; rfl)).mono ?_
      rintro e v6 ⟨⟨E4, e4, rfl, _⟩, hb⟩
      replace Hb := Lib.hid (Hb.out.trans (hb.mono Hb.out.size))
      replace HX := Lib.hid (HX.out.below hb)
      replace HY := Lib.hid (HY.out.below hb)
      clear hb
      go_wp2_with fail
      have hrt := sright_any X F c A v6 LX.out HX.out (by omega)
      rw [hRX.out] at hrt
      refine hrt.mono ?_
      clear hrt
      rintro e v7 ⟨rfl, hb⟩
      replace Hb := Lib.hid (Hb.out.trans (hb.mono Hb.out.size))
      replace HX := Lib.hid (HX.out.below hb)
      replace HY := Lib.hid (HY.out.below hb)
      clear hb
      go_wp2_with fail
      go_ret
      exact ⟨rfl, Hb.out⟩
    · cases hY : rightS Y
      · have hRX := Lib.hid hX
        have hRY := Lib.hid hY
        clear hX hY hRR
        go_enter Try.func7, Try.ntmps7
        go_wp2_with fail
        refine (shown_any w).mono ?_
        rintro e v1 ⟨rfl, hb⟩
        replace Hb := Lib.hid (Hb.out.trans (hb.mono Hb.out.size))
        replace HX := Lib.hid (HX.out.below hb)
        replace HY := Lib.hid (HY.out.below hb)
        clear hb
        go_wp2_with fail
        refine (hfw.out _).mono ?_
        rintro e uhfw ⟨rfl, rfl⟩
        go_wp2_with fail
        refine (hfw2.out _).mono ?_
        rintro e uhfw2 ⟨rfl, rfl⟩
        go_wp2_with fail
        refine (rand2_any X Y F G c c2 A A2 _ LX.out HX.out (by omega) LY.out HY.out (by omega) [] 0 1 (by rw [b0.out]; rfl) rfl (by rw [b0.out]; rfl)).mono ?_
        rintro e v2 ⟨⟨E0, e0, rfl, _⟩, hb⟩
        replace Hb := Lib.hid (Hb.out.trans (hb.mono Hb.out.size))
        replace HX := Lib.hid (HX.out.below hb)
        replace HY := Lib.hid (HY.out.below hb)
        clear hb
        go_wp2_with fail
        refine (rand2_any Y X G F c2 c A2 A _ LY.out HY.out (by omega) LX.out HX.out (by omega) [] 0 1 (by rw [b0r.out]; rfl) rfl (by rw [b0r.out]; rfl)).mono ?_
        rintro e v3 ⟨⟨E1, e1, rfl, _⟩, hb⟩
        replace Hb := Lib.hid (Hb.out.trans (hb.mono Hb.out.size))
        replace HX := Lib.hid (HX.out.below hb)
        replace HY := Lib.hid (HY.out.below hb)
        clear hb
        go_wp2_with fail
        refine (ror2_any X Y F G c c2 A A2 _ LX.out HX.out (by omega) LY.out HY.out (by omega) [] 0 1 (by rw [b1.out]; rfl) rfl (by rw [b1.out]; rfl)).mono ?_
        rintro e v4 ⟨⟨E2, e2, rfl, _⟩, hb⟩
        replace Hb := Lib.hid (Hb.out.trans (hb.mono Hb.out.size))
        replace HX := Lib.hid (HX.out.below hb)
        replace HY := Lib.hid (HY.out.below hb)
        clear hb
        go_wp2_with fail
        refine (ror2_any Y X G F c2 c A2 A _ LY.out HY.out (by omega) LX.out HX.out (by omega) [] 0 1 (by rw [b1r.out]; rfl) rfl (by rw [b1r.out]; rfl)).mono ?_
        rintro e v5 ⟨⟨E3, e3, rfl, _⟩, hb⟩
        replace Hb := Lib.hid (Hb.out.trans (hb.mono Hb.out.size))
        replace HX := Lib.hid (HX.out.below hb)
        replace HY := Lib.hid (HY.out.below hb)
        clear hb
        go_wp2_with fail
        refine (rminus2_any X Y F G c c2 A A2 _ LX.out HX.out (by omega) LY.out HY.out (by omega) [] 0 1 (by rw [b2.out]; rfl) rfl (by rw [b2.out]; rfl)).mono ?_
        rintro e v6 ⟨⟨E4, e4, rfl, _⟩, hb⟩
        replace Hb := Lib.hid (Hb.out.trans (hb.mono Hb.out.size))
        replace HX := Lib.hid (HX.out.below hb)
        replace HY := Lib.hid (HY.out.below hb)
        clear hb
        go_wp2_with fail
        have hrt := sright_any X F c A v6 LX.out HX.out (by omega)
        rw [hRX.out] at hrt
        refine hrt.mono ?_
        clear hrt
        rintro e v7 ⟨rfl, hb⟩
        replace Hb := Lib.hid (Hb.out.trans (hb.mono Hb.out.size))
        replace HX := Lib.hid (HX.out.below hb)
        replace HY := Lib.hid (HY.out.below hb)
        clear hb
        go_wp2_with fail
        have hrt := sright_any Y G c2 A2 v7 LY.out HY.out (by omega)
        rw [hRY.out] at hrt
        refine hrt.mono ?_
        clear hrt
        rintro e v8 ⟨rfl, hb⟩
        replace Hb := Lib.hid (Hb.out.trans (hb.mono Hb.out.size))
        replace HX := Lib.hid (HX.out.below hb)
        replace HY := Lib.hid (HY.out.below hb)
        clear hb
        go_wp2_with fail
        go_ret
        exact ⟨rfl, Hb.out⟩
      · exact absurd ⟨hX, hY⟩ hRR

set_option maxHeartbeats 16000000 in
set_option maxRecDepth 100000 in
theorem spansturn_walk (l : List SpanM) (n c : Nat) (A : Option Addr) (w : World) (hl : l.length = n) (hr : Rd w A (spc l)) (hnc : n ≤ c) (hc : c ≤ 9223372036854775807) :
    Calls Try.prog 8 #[.slice A n c] w fun e w' => e = .returned (.bool true) ∧ Below w.heap.size w w' := by
  have hfw := Lib.hid (fun w' => few_any l n c A w' hl hnc hc)
  have hR := few_rd hr
  have hle : (fewP l).length ≤ 200 := by unfold fewP; rw [List.length_take]; omega
  generalize fewP l = X at *
  obtain ⟨F, hF⟩ : ∃ F, X.length = F := ⟨_, rfl⟩
  rw [hF] at hfw hle
  have LX := Lib.hid hF
  have HX := Lib.hid hR
  have Hb : Hid (Below w.heap.size w w) := Below.refl _ _
  clear hl hr hnc hc hF hR
  cases hX : rightS X
  · have RX := Lib.hid hX
    clear hX
    go_enter Try.func8, Try.ntmps8
    go_wp2_with fail
    refine (shown_any w).mono ?_
    rintro e v1 ⟨rfl, hb⟩
    replace Hb := Lib.hid (Hb.out.trans (hb.mono Hb.out.size))
    replace HX := Lib.hid (HX.out.below hb)
    clear hb
    go_wp2_with fail
    refine (hfw.out _).mono ?_
    rintro e uhfw ⟨rfl, rfl⟩
    go_wp2_with fail
    have hrt := sright_any X F c A v1 LX.out HX.out (by omega)
    rw [RX.out] at hrt
    refine hrt.mono ?_
    clear hrt
    rintro e v2 ⟨rfl, hb⟩
    replace Hb := Lib.hid (Hb.out.trans (hb.mono Hb.out.size))
    replace HX := Lib.hid (HX.out.below hb)
    clear hb
    go_wp2_with fail
    go_ret
    exact ⟨rfl, Hb.out⟩
  · have hRX := hX
    have e2 := bothS_some 2 all_right hRX
    obtain ⟨m2, h2⟩ : ∃ m, spansF (fun k => onS [((0 : Int), (4096 : Int))] k && !onS X k) 4096 = m := ⟨_, rfl⟩
    have r2 : rightS m2 = true := by rw [← h2]; exact right_spansF _
    have b2 : Hid (bothS 2 [((0 : Int), (4096 : Int))] X = some m2) := by show _ = _; rw [e2, ← h2]; rfl
    have b3 : Hid (bothS 2 [((0 : Int), (4096 : Int))] m2 = some X) := by
      show _ = _
      rw [bothS_some 2 all_right r2, ← h2]
      exact congrArg some (turn_back hRX)
    have on2 : ∀ j, j < 4096 → onS m2 j = !onS X j := fun j hj => by rw [← h2, on_spansF _ hj, on_all hj, Bool.true_and]
    have b4 : Hid (bothS 0 X m2 = some []) := by
      show _ = _
      rw [bothS_some 0 hRX r2]
      exact congrArg some (spansF_none fun j hj => by show (onS X j && onS m2 j) = false; rw [on2 j hj]; cases onS X j <;> rfl)
    have b5 : Hid (bothS 1 X m2 = some [((0 : Int), (4096 : Int))]) := by
      show _ = _
      rw [bothS_some 1 hRX r2]
      refine congrArg some ((spansF_congr fun j hj => ?_).trans (right_self all_right).symm)
      show (onS X j || onS m2 j) = onS [((0 : Int), (4096 : Int))] j
      rw [on2 j hj, on_all hj]
      cases onS X j <;> rfl
    have hcb := count_both hRX r2
    rw [show spansF (fun k => onS X k && onS m2 k) 4096 = [] from (by have := bothS_some 0 hRX r2; rw [b4.out] at this; injection this with this; exact this.symm),
      show spansF (fun k => onS X k || onS m2 k) 4096 = [((0 : Int), (4096 : Int))] from (by have := bothS_some 1 hRX r2; rw [b5.out] at this; injection this with this; exact this.symm)] at hcb
    have hc0 : countS [((0 : Int), (4096 : Int))] = 4096 := by decide
    have hc1 : countS [] = 0 := by decide
    rw [hc0, hc1] at hcb
    have l2 := right_half r2
    obtain ⟨M2, g2⟩ : ∃ M, m2.length = M := ⟨_, rfl⟩
    rw [g2] at l2
    have c2 := counts_le r2
    have cX := counts_le hRX
    obtain ⟨K2, k2⟩ : ∃ K, countS m2 = K := ⟨_, rfl⟩
    obtain ⟨KX, kX⟩ : ∃ K, countS X = K := ⟨_, rfl⟩
    rw [k2] at c2 hcb
    rw [kX] at cX hcb
    have hw1 : IntKind.i64.wrap (KX + K2) = 4096 := by rw [IntKind.wrap_i64]; omega
    have G2 := Lib.hid g2
    have Q2 := Lib.hid k2
    have QX := Lib.hid kX
    have R2 := Lib.hid r2
    have RX := Lib.hid hRX
    clear e2 h2 r2 g2 k2 kX hRX hX on2 hc0 hc1 hcb
    go_enter Try.func8, Try.ntmps8
    go_wp2_with fail
    refine (shown_any w).mono ?_
    rintro e v1 ⟨rfl, hb⟩
    replace Hb := Lib.hid (Hb.out.trans (hb.mono Hb.out.size))
    replace HX := Lib.hid (HX.out.below hb)
    clear hb
    go_wp2_with fail
    refine (hfw.out _).mono ?_
    rintro e uhfw ⟨rfl, rfl⟩
    go_wp2_with fail
    have hrt := sright_any X F c A v1 LX.out HX.out (by omega)
    rw [RX.out] at hrt
    refine hrt.mono ?_
    clear hrt
    rintro e v2 ⟨rfl, hb⟩
    replace Hb := Lib.hid (Hb.out.trans (hb.mono Hb.out.size))
    replace HX := Lib.hid (HX.out.below hb)
    clear hb
    obtain ⟨y, hy⟩ : ∃ y, v2.alloc (.cells #[.int .i64 0, .int .i64 4096] 40) = y := ⟨_, rfl⟩
    have HALL : Hid (Rd y (some ⟨v2.heap.size, 0, none⟩) (spc [((0 : Int), (4096 : Int))])) := by show Rd _ _ _; rw [← hy]; exact Rd.new v2 [.int .i64 0, .int .i64 4096] 40
    have hb : Below v2.heap.size v2 y := by rw [← hy]; exact (Below.refl _ _).alloc (Nat.le_refl _) _
    replace Hb := Lib.hid (Hb.out.trans (hb.mono Hb.out.size))
    replace HX := Lib.hid (HX.out.below hb)
    have Hy := Lib.hid hy
    have LA : Hid (([((0 : Int), (4096 : Int))] : List SpanM).length = 1) := rfl
    generalize hB : v2.heap.size = BB at *
    go_upto_region 6 with fail
    try rw [Hy.out]
    clear hb hy Hy hB
    go_wp2_with fail
    refine (rminus2_any [((0 : Int), (4096 : Int))] X 1 F 1 c (some ⟨BB, 0, none⟩) A _ LA.out HALL.out (by omega) LX.out HX.out (by omega) m2 M2 0 (by rw [b2.out]; rfl) G2.out (by rw [b2.out]; rfl)).mono ?_
    rintro e v3 ⟨⟨D2, d2, rfl, ho⟩, hb⟩
    replace Hb := Lib.hid (Hb.out.trans (hb.mono Hb.out.size))
    replace HX := Lib.hid (HX.out.below hb)
    replace HALL := Lib.hid (HALL.out.below hb)
    have S2 := Lib.hid ho.rd
    clear ho
    clear hb
    go_wp2_with fail
    refine (rminus2_any [((0 : Int), (4096 : Int))] m2 1 M2 1 d2 (some ⟨BB, 0, none⟩) D2 _ LA.out HALL.out (by omega) G2.out S2.out (by omega) X F 0 (by rw [b3.out]; rfl) LX.out (by rw [b3.out]; rfl)).mono ?_
    rintro e v4 ⟨⟨D3, d3, rfl, ho⟩, hb⟩
    replace Hb := Lib.hid (Hb.out.trans (hb.mono Hb.out.size))
    replace HX := Lib.hid (HX.out.below hb)
    replace HALL := Lib.hid (HALL.out.below hb)
    replace S2 := Lib.hid (S2.out.below hb)
    have S3 := Lib.hid ho.rd
    clear ho
    clear hb
    go_wp2_with fail
    refine (rand2_any X m2 F M2 c d2 A D2 _ LX.out HX.out (by omega) G2.out S2.out (by omega) [] 0 0 (by rw [b4.out]; rfl) rfl (by rw [b4.out]; rfl)).mono ?_
    rintro e v5 ⟨⟨D4, d4, rfl, ho⟩, hb⟩
    replace Hb := Lib.hid (Hb.out.trans (hb.mono Hb.out.size))
    replace HX := Lib.hid (HX.out.below hb)
    replace HALL := Lib.hid (HALL.out.below hb)
    replace S2 := Lib.hid (S2.out.below hb)
    replace S3 := Lib.hid (S3.out.below hb)
    have S4 := Lib.hid ho.rd
    clear ho
    clear hb
    go_wp2_with fail
    refine (ror2_any X m2 F M2 c d2 A D2 _ LX.out HX.out (by omega) G2.out S2.out (by omega) [((0 : Int), (4096 : Int))] 1 0 (by rw [b5.out]; rfl) LA.out (by rw [b5.out]; rfl)).mono ?_
    rintro e v6 ⟨⟨D5, d5, rfl, ho⟩, hb⟩
    replace Hb := Lib.hid (Hb.out.trans (hb.mono Hb.out.size))
    replace HX := Lib.hid (HX.out.below hb)
    replace HALL := Lib.hid (HALL.out.below hb)
    replace S2 := Lib.hid (S2.out.below hb)
    replace S3 := Lib.hid (S3.out.below hb)
    replace S4 := Lib.hid (S4.out.below hb)
    have S5 := Lib.hid ho.rd
    clear ho
    clear hb
    go_wp2_with fail
    refine (same_yes X F d3 c D3 A _ LX.out S3.out HX.out (by omega)).mono ?_
    rintro e v7 ⟨rfl, hb⟩
    replace Hb := Lib.hid (Hb.out.trans (hb.mono Hb.out.size))
    replace HX := Lib.hid (HX.out.below hb)
    replace HALL := Lib.hid (HALL.out.below hb)
    replace S2 := Lib.hid (S2.out.below hb)
    replace S3 := Lib.hid (S3.out.below hb)
    replace S4 := Lib.hid (S4.out.below hb)
    replace S5 := Lib.hid (S5.out.below hb)
    clear hb
    go_wp2_with fail
    refine (same_yes [((0 : Int), (4096 : Int))] 1 d5 1 D5 (some ⟨BB, 0, none⟩) _ LA.out S5.out HALL.out (by omega)).mono ?_
    rintro e v8 ⟨rfl, hb⟩
    replace Hb := Lib.hid (Hb.out.trans (hb.mono Hb.out.size))
    replace HX := Lib.hid (HX.out.below hb)
    replace HALL := Lib.hid (HALL.out.below hb)
    replace S2 := Lib.hid (S2.out.below hb)
    replace S3 := Lib.hid (S3.out.below hb)
    replace S4 := Lib.hid (S4.out.below hb)
    replace S5 := Lib.hid (S5.out.below hb)
    clear hb
    go_wp2_with fail
    refine (count2_any X F c A _ LX.out HX.out (by omega) RX.out KX QX.out).mono ?_
    rintro e v9 ⟨rfl, hb⟩
    replace Hb := Lib.hid (Hb.out.trans (hb.mono Hb.out.size))
    replace HX := Lib.hid (HX.out.below hb)
    replace HALL := Lib.hid (HALL.out.below hb)
    replace S2 := Lib.hid (S2.out.below hb)
    replace S3 := Lib.hid (S3.out.below hb)
    replace S4 := Lib.hid (S4.out.below hb)
    replace S5 := Lib.hid (S5.out.below hb)
    clear hb
    go_wp2_with fail
    refine (count2_any m2 M2 d2 D2 _ G2.out S2.out (by omega) R2.out K2 Q2.out).mono ?_
    rintro e v10 ⟨rfl, hb⟩
    replace Hb := Lib.hid (Hb.out.trans (hb.mono Hb.out.size))
    replace HX := Lib.hid (HX.out.below hb)
    replace HALL := Lib.hid (HALL.out.below hb)
    replace S2 := Lib.hid (S2.out.below hb)
    replace S3 := Lib.hid (S3.out.below hb)
    replace S4 := Lib.hid (S4.out.below hb)
    replace S5 := Lib.hid (S5.out.below hb)
    clear hb
    go_wp2_with fail
    go_ret
    exact ⟨rfl, Hb.out⟩
end Go.Proofs.Ytjfpflnijkokaaa
