/- The walk of SpansBoth. -/
import Derived.Test.YtjfpflnijkokaaaSwT
namespace Go.Proofs.Ytjfpflnijkokaaa
open Go.RowKit

attribute [local go_sem ↓] Go.wp_at_zero Go.wp_at_succ

/-- A row of spans whose ends are numbers. -/
def EndsN (xs : List Value) (M : Nat) : Prop := ∀ t, t < M → ∃ v : Int, xs[t * 2 + 1]? = some (.int .i64 v)
theorem EndsN.of (m : List SpanM) : EndsN (spc m) m.length := fun t ht => by
  have h1 := flat_get (fun s : SpanM => [Value.int .i64 s.1, .int .i64 s.2]) 2 (fun _ => rfl) m t m[t] 1 (List.getElem?_eq_getElem ht) (by omega)
  exact ⟨m[t].2, h1⟩
theorem EndsN.set {xs : List Value} {M : Nat} (h : EndsN xs M) (i : Nat) (v : Int) : EndsN (xs.set (i * 2 + 1) (.int .i64 v)) M := fun t ht => by
  obtain ⟨u, hu⟩ := h t ht
  by_cases e : i = t
  · subst e
    refine ⟨v, ?_⟩
    rw [List.getElem?_set_self (List.getElem?_eq_some_iff.1 hu).1]
  · exact ⟨u, by rw [List.getElem?_set_ne (by omega)]; exact hu⟩
theorem rboth_uni (k : Nat) (hk : k < 3) (a b : List SpanM) (n nb c cb : Nat) (A B : Option Addr) (w : World) (hl : a.length = n) (hr : Rd w A (spc a)) (hlb : b.length = nb) (hrb : Rd w B (spc b)) (hn : n ≤ 4000) (hnb : nb ≤ 4000) (m : List SpanM) (M : Nat) (E : Int) (hm : outM (bothS k a b) = m) (hM : m.length = M) (hE : errM (bothS k a b) = E) :
    Calls Try.prog 24 #[.slice A n c, .slice B nb cb, .int .i64 (k : Int)] w fun e w' => (∃ A c, e = .returned (.tuple #[.slice A M c, .int .i64 E]) ∧ Own w' w.heap.size 40 2 A M c (spc m)) ∧ Below w.heap.size w w' := by
  subst hm hM hE
  have h : k = 0 ∨ k = 1 ∨ k = 2 := by omega
  rcases h with rfl | rfl | rfl
  · exact (rboth0_any a b n nb c cb A B w hl hr hlb hrb (by omega) (by omega)).mono fun _ _ h => h.uni
  · exact (rboth1_any a b n nb c cb A B w hl hr hlb hrb (by omega) (by omega)).mono fun _ _ h => h.uni
  · exact (rboth2_any a b n nb c cb A B w hl hr hlb hrb (by omega) (by omega)).mono fun _ _ h => h.uni

set_option maxHeartbeats 16000000 in
set_option maxRecDepth 100000 in
theorem spansboth_walk (l : List SpanM) (n c : Nat) (A : Option Addr) (l2 : List SpanM) (n2 c2 : Nat) (A2 : Option Addr) (w : World) (hl : l.length = n) (hr : Rd w A (spc l)) (hnc : n ≤ c) (hc : c ≤ 9223372036854775807) (hl2 : l2.length = n2) (hr2 : Rd w A2 (spc l2)) (hnc2 : n2 ≤ c2) (hc2 : c2 ≤ 9223372036854775807) :
    Calls Try.prog 6 #[.slice A n c, .slice A2 n2 c2] w fun e w' => e = .returned (.bool true) ∧ Below w.heap.size w w' := by
  have hfw := Lib.hid (fun w' => few_any l n c A w' hl hnc hc)
  have hfw2 := Lib.hid (fun w' => few_any l2 n2 c2 A2 w' hl2 hnc2 hc2)
  have hR := few_rd hr
  have hR2 := few_rd hr2
  have hle : (fewP l).length ≤ 200 := by unfold fewP; rw [List.length_take]; omega
  have hle2 : (fewP l2).length ≤ 200 := by unfold fewP; rw [List.length_take]; omega
  generalize fewP l = X at *
  generalize fewP l2 = Y at *
  obtain ⟨F, hF⟩ : ∃ F, X.length = F := ⟨_, rfl⟩
  obtain ⟨G, hG⟩ : ∃ G, Y.length = G := ⟨_, rfl⟩
  rw [hF] at hfw hle
  rw [hG] at hfw2 hle2
  have LX := Lib.hid hF
  have LY := Lib.hid hG
  have HX := Lib.hid hR
  have HY := Lib.hid hR2
  have Hb : Hid (Below w.heap.size w w) := Below.refl _ _
  clear hl hr hnc hc hl2 hr2 hnc2 hc2 hF hG hR hR2
  go_enter Try.func6, Try.ntmps6
  go_wp2_with fail
  refine (shown_any w).mono ?_
  rintro e v1 ⟨rfl, hb⟩
  replace Hb := Lib.hid (Hb.out.trans (hb.mono Hb.out.size))
  replace HX := Lib.hid (HX.out.below hb)
  replace HY := Lib.hid (HY.out.below hb)
  clear hb
  go_wp2_with fail
  refine (hfw.out _).mono ?_
  rintro e uhfw ⟨rfl, rfl⟩
  go_wp2_with fail
  refine (hfw2.out _).mono ?_
  rintro e uhfw2 ⟨rfl, rfl⟩
  have ho1 := own0 v1 40 2
  have hbA : Below v1.heap.size v1 (v1.alloc (.cells #[] 40)) := (Below.refl _ _).alloc (Nat.le_refl _) _
  go_wp2_with (first | (at_builtin; refine hold ?_) | (at_make; refine hold ?_))
  (with_reducible refine unhold ?_)
  refine wpList_apd rfl _ _ _ rfl Espan v1.heap.size _ 0 _ [] rfl ho1 _ F _ (spc X) rfl (by rw [spc_len, LX.out]) (HX.out.below hbA) (spc_one X) F (Nat.zero_add _) (spc X) rfl (by omega) (by omega) hbA.size ?_
  intro P cp v2 ho2 hg2 _
  have hb := hbA.grown hg2 hbA.size ho1.row_ge
  replace Hb := Lib.hid (Hb.out.trans (hb.mono Hb.out.size))
  replace HX := Lib.hid (HX.out.below hb)
  replace HY := Lib.hid (HY.out.below hb)
  have HP := Lib.hid ho2.rd
  clear ho1 hbA ho2 hg2 hb
  have ho1 := own0 v2 40 2
  have hbA : Below v2.heap.size v2 (v2.alloc (.cells #[] 40)) := (Below.refl _ _).alloc (Nat.le_refl _) _
  go_wp2_with (first | (at_builtin; refine hold ?_) | (at_make; refine hold ?_))
  (with_reducible refine unhold ?_)
  refine wpList_apd rfl _ _ _ rfl Espan v2.heap.size _ 0 _ [] rfl ho1 _ G _ (spc Y) rfl (by rw [spc_len, LY.out]) (HY.out.below hbA) (spc_one Y) G (Nat.zero_add _) (spc Y) rfl (by omega) (by omega) hbA.size ?_
  intro Q cq v3 ho2 hg2 _
  have hb := hbA.grown hg2 hbA.size ho1.row_ge
  replace Hb := Lib.hid (Hb.out.trans (hb.mono Hb.out.size))
  replace HX := Lib.hid (HX.out.below hb)
  replace HY := Lib.hid (HY.out.below hb)
  replace HP := Lib.hid (HP.out.below hb)
  have HQ := Lib.hid ho2.rd
  clear ho1 hbA ho2 hg2 hb
  have HX4 := HX
  have HY4 := HY
  have HP4 := HP
  have HQ4 := HQ
  clear HX HY HP HQ
  go_wp2_with fail
  go_loopw [27] (fun vi wr => ∃ j : Nat, vi = .int .i64 (j : Int) ∧ j ≤ 3 ∧ Hid (Below v3.heap.size v3 wr)) (fun vi _ => 3 - (intOf vi).toNat)
  case atStart => exact ⟨0, rfl, by omega, Below.refl _ _⟩
  case round =>
    obtain ⟨j, rfl, hj, Hk⟩ := hrel
    have HX := Lib.hid (HX4.out.below Hk.out)
    have HY := Lib.hid (HY4.out.below Hk.out)
    have HP := Lib.hid (HP4.out.below Hk.out)
    have HQ := Lib.hid (HQ4.out.below Hk.out)
    have hjc : j = 0 ∨ j = 1 ∨ j = 2 ∨ j = 3 := by omega
    rcases hjc with rfl | rfl | rfl | rfl
    · obtain ⟨m0, q0⟩ : ∃ m, outM (bothS 0 X Y) = m := ⟨_, rfl⟩
      have l0 := both_le 0 X Y
      rw [q0] at l0
      obtain ⟨M0, g0⟩ : ∃ M, m0.length = M := ⟨_, rfl⟩
      rw [g0] at l0
      obtain ⟨E0, e0⟩ : ∃ E, errM (bothS 0 X Y) = E := ⟨_, rfl⟩
      have Q0 := Lib.hid q0
      have G0 := Lib.hid g0
      have W0 := Lib.hid e0
      clear q0 g0 e0
      have Hbase := Lib.hid Hk.out.size
      go_wp2_with fail
      refine (rand2_any X Y F G c c2 A A2 _ LX.out HX.out (by omega) LY.out HY.out (by omega) m0 M0 E0 Q0.out G0.out W0.out).mono ?_
      rintro e x1 ⟨⟨C, cc, rfl, ho⟩, hb⟩
      replace Hk := Lib.hid (Hk.out.trans (hb.mono Hk.out.size))
      replace HX := Lib.hid (HX.out.below hb)
      replace HY := Lib.hid (HY.out.below hb)
      replace HP := Lib.hid (HP.out.below hb)
      replace HQ := Lib.hid (HQ.out.below hb)
      have HC := Lib.hid ho.rd
      have HO := Lib.hid (ho.lower Hbase.out)
      clear ho
      clear hb
      have gE : ((E0 : Int) != E0) = false := by simp
      go_wp2_with fail
      refine (rboth_uni 0 (by omega) X Y F G c c2 A A2 _ LX.out HX.out LY.out HY.out (by omega) (by omega) m0 M0 E0 Q0.out G0.out W0.out).mono ?_
      rintro e x2 ⟨⟨D, dd, rfl, ho⟩, hb⟩
      replace Hk := Lib.hid (Hk.out.trans (hb.mono Hk.out.size))
      replace HX := Lib.hid (HX.out.below hb)
      replace HY := Lib.hid (HY.out.below hb)
      replace HP := Lib.hid (HP.out.below hb)
      replace HQ := Lib.hid (HQ.out.below hb)
      replace HC := Lib.hid (HC.out.below hb)
      replace HO := Lib.hid (HO.out.below hb)
      have HD := Lib.hid ho.rd
      clear ho
      clear hb
      go_wp2_with fail
      refine (same_yes m0 M0 cc dd C D _ G0.out HC.out HD.out (by omega)).mono ?_
      rintro e x3 ⟨rfl, hb⟩
      replace Hk := Lib.hid (Hk.out.trans (hb.mono Hk.out.size))
      replace HX := Lib.hid (HX.out.below hb)
      replace HY := Lib.hid (HY.out.below hb)
      replace HP := Lib.hid (HP.out.below hb)
      replace HQ := Lib.hid (HQ.out.below hb)
      replace HC := Lib.hid (HC.out.below hb)
      replace HO := Lib.hid (HO.out.below hb)
      replace HD := Lib.hid (HD.out.below hb)
      clear hb
      clear HC HD
      go_wp2_with fail
      go_loopw [71] (fun vi wi => ∃ (i : Nat) (xs : List Value), vi = .int .i64 (i : Int) ∧ i ≤ M0 ∧ Hid (Own wi v3.heap.size 40 2 C M0 cc xs) ∧ Hid (EndsN xs M0) ∧ Hid (Below v3.heap.size v3 wi)) (fun vi _ => M0 - (intOf vi).toNat)
      case atStart => exact ⟨0, _, rfl, by omega, HO, (by show EndsN _ _; rw [← G0.out]; exact EndsN.of m0), Hk⟩
      case round =>
        obtain ⟨i, xs, rfl, hi, Ho, Hn, Hb9⟩ := hrel
        by_cases hin : i < M0
        · have hiI : (i : Int) < (M0 : Int) := by omega
          have hi0 : (0 : Int) ≤ (i : Int) := by omega
          rcases Ho.out.lies with ⟨_, h0, _⟩ | ⟨g, cur, hA, hge, _⟩
          · omega
          · subst hA
            obtain ⟨v, hv⟩ := Hn.out i hin
            obtain ⟨b, o, e, hc0⟩ := Ho.out.rd (by intro e; rw [e] at hv; simp at hv)
            cases e
            have hcell := hc0 _ _ hv
            rw [Nat.zero_add] at hcell
            obtain ⟨p1, p2, p3⟩ := Ho.out.put (i := i * 2 + 1) (by omega) (.int .i64 (-7))
            have P1 := Lib.hid p1
            have Hb10 := Lib.hid (Hb9.out.setCell (p := ⟨g, i * 2 + 1, none⟩) hge (.int .i64 (-7)))
            have Hn2 := Lib.hid (Hn.out.set i (-7))
            clear p1 p2 hc0 hv Hn Ho
            go_wp2_with fail
            go_roundw
            case rel => exact ⟨i + 1, _, by go_num, by omega, P1, Hn2, Hb10⟩
            case measure => simp only [intOf, Int.toNat_natCast]; omega
        · obtain rfl : i = M0 := by omega
          have HX9 := Lib.hid (HX4.out.below Hb9.out)
          have HY9 := Lib.hid (HY4.out.below Hb9.out)
          have HP9 := Lib.hid (HP4.out.below Hb9.out)
          have HQ9 := Lib.hid (HQ4.out.below Hb9.out)
          clear Ho Hn HX HY HP HQ Hk HO
          generalize wr = wo at *
          go_wp2_with fail
          refine (same_yes X F c cp A P _ LX.out HX9.out HP9.out (by omega)).mono ?_
          rintro e y1 ⟨rfl, hb⟩
          replace Hb9 := Lib.hid (Hb9.out.trans (hb.mono Hb9.out.size))
          replace HX9 := Lib.hid (HX9.out.below hb)
          replace HY9 := Lib.hid (HY9.out.below hb)
          replace HP9 := Lib.hid (HP9.out.below hb)
          replace HQ9 := Lib.hid (HQ9.out.below hb)
          clear hb
          go_wp2_with fail
          refine (same_yes Y G c2 cq A2 Q _ LY.out HY9.out HQ9.out (by omega)).mono ?_
          rintro e y2 ⟨rfl, hb⟩
          replace Hb9 := Lib.hid (Hb9.out.trans (hb.mono Hb9.out.size))
          replace HX9 := Lib.hid (HX9.out.below hb)
          replace HY9 := Lib.hid (HY9.out.below hb)
          replace HP9 := Lib.hid (HP9.out.below hb)
          replace HQ9 := Lib.hid (HQ9.out.below hb)
          clear hb
          go_wp2_with fail
          go_roundw
          case rel => exact ⟨0 + 1, by go_num, by omega, Hb9⟩
          case measure => simp [intOf]
    · obtain ⟨m0, q0⟩ : ∃ m, outM (bothS 0 X Y) = m := ⟨_, rfl⟩
      have l0 := both_le 0 X Y
      rw [q0] at l0
      obtain ⟨M0, g0⟩ : ∃ M, m0.length = M := ⟨_, rfl⟩
      rw [g0] at l0
      obtain ⟨E0, e0⟩ : ∃ E, errM (bothS 0 X Y) = E := ⟨_, rfl⟩
      have Q0 := Lib.hid q0
      have G0 := Lib.hid g0
      have W0 := Lib.hid e0
      clear q0 g0 e0
      go_wp2_with fail
      refine (rand2_any X Y F G c c2 A A2 _ LX.out HX.out (by omega) LY.out HY.out (by omega) m0 M0 E0 Q0.out G0.out W0.out).mono ?_
      rintro e x1 ⟨⟨C0, cc0, rfl, _⟩, hb⟩
      replace Hk := Lib.hid (Hk.out.trans (hb.mono Hk.out.size))
      replace HX := Lib.hid (HX.out.below hb)
      replace HY := Lib.hid (HY.out.below hb)
      replace HP := Lib.hid (HP.out.below hb)
      replace HQ := Lib.hid (HQ.out.below hb)
      clear hb
      obtain ⟨m1, q1⟩ : ∃ m, outM (bothS 1 X Y) = m := ⟨_, rfl⟩
      have l1 := both_le 1 X Y
      rw [q1] at l1
      obtain ⟨M1, g1⟩ : ∃ M, m1.length = M := ⟨_, rfl⟩
      rw [g1] at l1
      obtain ⟨E1, e1⟩ : ∃ E, errM (bothS 1 X Y) = E := ⟨_, rfl⟩
      have Q1 := Lib.hid q1
      have G1 := Lib.hid g1
      have W1 := Lib.hid e1
      clear q1 g1 e1
      have Hbase := Lib.hid Hk.out.size
      go_wp2_with fail
      refine (ror2_any X Y F G c c2 A A2 _ LX.out HX.out (by omega) LY.out HY.out (by omega) m1 M1 E1 Q1.out G1.out W1.out).mono ?_
      rintro e x2 ⟨⟨C, cc, rfl, ho⟩, hb⟩
      replace Hk := Lib.hid (Hk.out.trans (hb.mono Hk.out.size))
      replace HX := Lib.hid (HX.out.below hb)
      replace HY := Lib.hid (HY.out.below hb)
      replace HP := Lib.hid (HP.out.below hb)
      replace HQ := Lib.hid (HQ.out.below hb)
      have HC := Lib.hid ho.rd
      have HO := Lib.hid (ho.lower Hbase.out)
      clear ho
      clear hb
      have gE : ((E1 : Int) != E1) = false := by simp
      go_wp2_with fail
      refine (rboth_uni 1 (by omega) X Y F G c c2 A A2 _ LX.out HX.out LY.out HY.out (by omega) (by omega) m1 M1 E1 Q1.out G1.out W1.out).mono ?_
      rintro e x3 ⟨⟨D, dd, rfl, ho⟩, hb⟩
      replace Hk := Lib.hid (Hk.out.trans (hb.mono Hk.out.size))
      replace HX := Lib.hid (HX.out.below hb)
      replace HY := Lib.hid (HY.out.below hb)
      replace HP := Lib.hid (HP.out.below hb)
      replace HQ := Lib.hid (HQ.out.below hb)
      replace HC := Lib.hid (HC.out.below hb)
      replace HO := Lib.hid (HO.out.below hb)
      have HD := Lib.hid ho.rd
      clear ho
      clear hb
      go_wp2_with fail
      refine (same_yes m1 M1 cc dd C D _ G1.out HC.out HD.out (by omega)).mono ?_
      rintro e x4 ⟨rfl, hb⟩
      replace Hk := Lib.hid (Hk.out.trans (hb.mono Hk.out.size))
      replace HX := Lib.hid (HX.out.below hb)
      replace HY := Lib.hid (HY.out.below hb)
      replace HP := Lib.hid (HP.out.below hb)
      replace HQ := Lib.hid (HQ.out.below hb)
      replace HC := Lib.hid (HC.out.below hb)
      replace HO := Lib.hid (HO.out.below hb)
      replace HD := Lib.hid (HD.out.below hb)
      clear hb
      clear HC HD
      go_wp2_with fail
      go_loopw [71] (fun vi wi => ∃ (i : Nat) (xs : List Value), vi = .int .i64 (i : Int) ∧ i ≤ M1 ∧ Hid (Own wi v3.heap.size 40 2 C M1 cc xs) ∧ Hid (EndsN xs M1) ∧ Hid (Below v3.heap.size v3 wi)) (fun vi _ => M1 - (intOf vi).toNat)
      case atStart => exact ⟨0, _, rfl, by omega, HO, (by show EndsN _ _; rw [← G1.out]; exact EndsN.of m1), Hk⟩
      case round =>
        obtain ⟨i, xs, rfl, hi, Ho, Hn, Hb9⟩ := hrel
        by_cases hin : i < M1
        · have hiI : (i : Int) < (M1 : Int) := by omega
          have hi0 : (0 : Int) ≤ (i : Int) := by omega
          rcases Ho.out.lies with ⟨_, h0, _⟩ | ⟨g, cur, hA, hge, _⟩
          · omega
          · subst hA
            obtain ⟨v, hv⟩ := Hn.out i hin
            obtain ⟨b, o, e, hc0⟩ := Ho.out.rd (by intro e; rw [e] at hv; simp at hv)
            cases e
            have hcell := hc0 _ _ hv
            rw [Nat.zero_add] at hcell
            obtain ⟨p1, p2, p3⟩ := Ho.out.put (i := i * 2 + 1) (by omega) (.int .i64 (-7))
            have P1 := Lib.hid p1
            have Hb10 := Lib.hid (Hb9.out.setCell (p := ⟨g, i * 2 + 1, none⟩) hge (.int .i64 (-7)))
            have Hn2 := Lib.hid (Hn.out.set i (-7))
            clear p1 p2 hc0 hv Hn Ho
            go_wp2_with fail
            go_roundw
            case rel => exact ⟨i + 1, _, by go_num, by omega, P1, Hn2, Hb10⟩
            case measure => simp only [intOf, Int.toNat_natCast]; omega
        · obtain rfl : i = M1 := by omega
          have HX9 := Lib.hid (HX4.out.below Hb9.out)
          have HY9 := Lib.hid (HY4.out.below Hb9.out)
          have HP9 := Lib.hid (HP4.out.below Hb9.out)
          have HQ9 := Lib.hid (HQ4.out.below Hb9.out)
          clear Ho Hn HX HY HP HQ Hk HO
          generalize wr = wo at *
          go_wp2_with fail
          refine (same_yes X F c cp A P _ LX.out HX9.out HP9.out (by omega)).mono ?_
          rintro e y1 ⟨rfl, hb⟩
          replace Hb9 := Lib.hid (Hb9.out.trans (hb.mono Hb9.out.size))
          replace HX9 := Lib.hid (HX9.out.below hb)
          replace HY9 := Lib.hid (HY9.out.below hb)
          replace HP9 := Lib.hid (HP9.out.below hb)
          replace HQ9 := Lib.hid (HQ9.out.below hb)
          clear hb
          go_wp2_with fail
          refine (same_yes Y G c2 cq A2 Q _ LY.out HY9.out HQ9.out (by omega)).mono ?_
          rintro e y2 ⟨rfl, hb⟩
          replace Hb9 := Lib.hid (Hb9.out.trans (hb.mono Hb9.out.size))
          replace HX9 := Lib.hid (HX9.out.below hb)
          replace HY9 := Lib.hid (HY9.out.below hb)
          replace HP9 := Lib.hid (HP9.out.below hb)
          replace HQ9 := Lib.hid (HQ9.out.below hb)
          clear hb
          go_wp2_with fail
          go_roundw
          case rel => exact ⟨1 + 1, by go_num, by omega, Hb9⟩
          case measure => simp [intOf]
    · obtain ⟨m0, q0⟩ : ∃ m, outM (bothS 0 X Y) = m := ⟨_, rfl⟩
      have l0 := both_le 0 X Y
      rw [q0] at l0
      obtain ⟨M0, g0⟩ : ∃ M, m0.length = M := ⟨_, rfl⟩
      rw [g0] at l0
      obtain ⟨E0, e0⟩ : ∃ E, errM (bothS 0 X Y) = E := ⟨_, rfl⟩
      have Q0 := Lib.hid q0
      have G0 := Lib.hid g0
      have W0 := Lib.hid e0
      clear q0 g0 e0
      go_wp2_with fail
      refine (rand2_any X Y F G c c2 A A2 _ LX.out HX.out (by omega) LY.out HY.out (by omega) m0 M0 E0 Q0.out G0.out W0.out).mono ?_
      rintro e x1 ⟨⟨C0, cc0, rfl, _⟩, hb⟩
      replace Hk := Lib.hid (Hk.out.trans (hb.mono Hk.out.size))
      replace HX := Lib.hid (HX.out.below hb)
      replace HY := Lib.hid (HY.out.below hb)
      replace HP := Lib.hid (HP.out.below hb)
      replace HQ := Lib.hid (HQ.out.below hb)
      clear hb
      obtain ⟨m2, q2⟩ : ∃ m, outM (bothS 2 X Y) = m := ⟨_, rfl⟩
      have l2 := both_le 2 X Y
      rw [q2] at l2
      obtain ⟨M2, g2⟩ : ∃ M, m2.length = M := ⟨_, rfl⟩
      rw [g2] at l2
      obtain ⟨E2, e2⟩ : ∃ E, errM (bothS 2 X Y) = E := ⟨_, rfl⟩
      have Q2 := Lib.hid q2
      have G2 := Lib.hid g2
      have W2 := Lib.hid e2
      clear q2 g2 e2
      have Hbase := Lib.hid Hk.out.size
      go_wp2_with fail
      refine (rminus2_any X Y F G c c2 A A2 _ LX.out HX.out (by omega) LY.out HY.out (by omega) m2 M2 E2 Q2.out G2.out W2.out).mono ?_
      rintro e x2 ⟨⟨C, cc, rfl, ho⟩, hb⟩
      replace Hk := Lib.hid (Hk.out.trans (hb.mono Hk.out.size))
      replace HX := Lib.hid (HX.out.below hb)
      replace HY := Lib.hid (HY.out.below hb)
      replace HP := Lib.hid (HP.out.below hb)
      replace HQ := Lib.hid (HQ.out.below hb)
      have HC := Lib.hid ho.rd
      have HO := Lib.hid (ho.lower Hbase.out)
      clear ho
      clear hb
      have gE : ((E2 : Int) != E2) = false := by simp
      go_wp2_with fail
      refine (rboth_uni 2 (by omega) X Y F G c c2 A A2 _ LX.out HX.out LY.out HY.out (by omega) (by omega) m2 M2 E2 Q2.out G2.out W2.out).mono ?_
      rintro e x3 ⟨⟨D, dd, rfl, ho⟩, hb⟩
      replace Hk := Lib.hid (Hk.out.trans (hb.mono Hk.out.size))
      replace HX := Lib.hid (HX.out.below hb)
      replace HY := Lib.hid (HY.out.below hb)
      replace HP := Lib.hid (HP.out.below hb)
      replace HQ := Lib.hid (HQ.out.below hb)
      replace HC := Lib.hid (HC.out.below hb)
      replace HO := Lib.hid (HO.out.below hb)
      have HD := Lib.hid ho.rd
      clear ho
      clear hb
      go_wp2_with fail
      refine (same_yes m2 M2 cc dd C D _ G2.out HC.out HD.out (by omega)).mono ?_
      rintro e x4 ⟨rfl, hb⟩
      replace Hk := Lib.hid (Hk.out.trans (hb.mono Hk.out.size))
      replace HX := Lib.hid (HX.out.below hb)
      replace HY := Lib.hid (HY.out.below hb)
      replace HP := Lib.hid (HP.out.below hb)
      replace HQ := Lib.hid (HQ.out.below hb)
      replace HC := Lib.hid (HC.out.below hb)
      replace HO := Lib.hid (HO.out.below hb)
      replace HD := Lib.hid (HD.out.below hb)
      clear hb
      clear HC HD
      go_wp2_with fail
      go_loopw [71] (fun vi wi => ∃ (i : Nat) (xs : List Value), vi = .int .i64 (i : Int) ∧ i ≤ M2 ∧ Hid (Own wi v3.heap.size 40 2 C M2 cc xs) ∧ Hid (EndsN xs M2) ∧ Hid (Below v3.heap.size v3 wi)) (fun vi _ => M2 - (intOf vi).toNat)
      case atStart => exact ⟨0, _, rfl, by omega, HO, (by show EndsN _ _; rw [← G2.out]; exact EndsN.of m2), Hk⟩
      case round =>
        obtain ⟨i, xs, rfl, hi, Ho, Hn, Hb9⟩ := hrel
        by_cases hin : i < M2
        · have hiI : (i : Int) < (M2 : Int) := by omega
          have hi0 : (0 : Int) ≤ (i : Int) := by omega
          rcases Ho.out.lies with ⟨_, h0, _⟩ | ⟨g, cur, hA, hge, _⟩
          · omega
          · subst hA
            obtain ⟨v, hv⟩ := Hn.out i hin
            obtain ⟨b, o, e, hc0⟩ := Ho.out.rd (by intro e; rw [e] at hv; simp at hv)
            cases e
            have hcell := hc0 _ _ hv
            rw [Nat.zero_add] at hcell
            obtain ⟨p1, p2, p3⟩ := Ho.out.put (i := i * 2 + 1) (by omega) (.int .i64 (-7))
            have P1 := Lib.hid p1
            have Hb10 := Lib.hid (Hb9.out.setCell (p := ⟨g, i * 2 + 1, none⟩) hge (.int .i64 (-7)))
            have Hn2 := Lib.hid (Hn.out.set i (-7))
            clear p1 p2 hc0 hv Hn Ho
            go_wp2_with fail
            go_roundw
            case rel => exact ⟨i + 1, _, by go_num, by omega, P1, Hn2, Hb10⟩
            case measure => simp only [intOf, Int.toNat_natCast]; omega
        · obtain rfl : i = M2 := by omega
          have HX9 := Lib.hid (HX4.out.below Hb9.out)
          have HY9 := Lib.hid (HY4.out.below Hb9.out)
          have HP9 := Lib.hid (HP4.out.below Hb9.out)
          have HQ9 := Lib.hid (HQ4.out.below Hb9.out)
          clear Ho Hn HX HY HP HQ Hk HO
          generalize wr = wo at *
          go_wp2_with fail
          refine (same_yes X F c cp A P _ LX.out HX9.out HP9.out (by omega)).mono ?_
          rintro e y1 ⟨rfl, hb⟩
          replace Hb9 := Lib.hid (Hb9.out.trans (hb.mono Hb9.out.size))
          replace HX9 := Lib.hid (HX9.out.below hb)
          replace HY9 := Lib.hid (HY9.out.below hb)
          replace HP9 := Lib.hid (HP9.out.below hb)
          replace HQ9 := Lib.hid (HQ9.out.below hb)
          clear hb
          go_wp2_with fail
          refine (same_yes Y G c2 cq A2 Q _ LY.out HY9.out HQ9.out (by omega)).mono ?_
          rintro e y2 ⟨rfl, hb⟩
          replace Hb9 := Lib.hid (Hb9.out.trans (hb.mono Hb9.out.size))
          replace HX9 := Lib.hid (HX9.out.below hb)
          replace HY9 := Lib.hid (HY9.out.below hb)
          replace HP9 := Lib.hid (HP9.out.below hb)
          replace HQ9 := Lib.hid (HQ9.out.below hb)
          clear hb
          go_wp2_with fail
          go_roundw
          case rel => exact ⟨2 + 1, by go_num, by omega, Hb9⟩
          case measure => simp [intOf]
    · go_wp2_with fail
      go_ret
      exact ⟨rfl, Hb.out.trans (Hk.out.mono Hb.out.size)⟩
end Go.Proofs.Ytjfpflnijkokaaa
