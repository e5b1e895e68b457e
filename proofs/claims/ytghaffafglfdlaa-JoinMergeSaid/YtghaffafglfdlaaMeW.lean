/- Walks: how many of the first rows have the same value. -/
import Derived.Test.YtghaffafglfdlaaMeM
namespace Go.Proofs.Ytghaffafglfdlaa
open Go.RowKit

attribute [local go_sem ↓] Go.wp_at_zero Go.wp_at_succ

theorem runN_iff {rs : List RowM} {col : Int} {i : Nat} (hi : i ≤ runN rs col) (h : i < rs.length) : colAt rs[i] col = colAt (rs[0]'(by omega)) col ↔ i < runN rs col := by
  cases rs with
  | nil => simp at h
  | cons x t =>
    have hd : (x :: t).drop (runN (x :: t) col) = (x :: t).dropWhile fun y => decide (colAt y col = colAt x col) := (takeWhile_take _ _).2
    constructor
    · intro e
      refine Nat.lt_of_le_of_ne hi fun e2 => ?_
      rw [← e2, List.drop_eq_getElem_cons h] at hd
      have := head_dropWhile _ _ hd.symm
      exact of_decide_eq_false this e
    · intro h2
      refine run_in (rs := t) (x := x) ?_
      rw [List.mem_iff_getElem?]
      exact ⟨i, by rw [List.getElem?_take_of_lt h2, List.getElem?_eq_getElem h]⟩

set_option maxHeartbeats 8000000 in
set_option maxRecDepth 100000 in
theorem run_any (rs : List RowM) (hs : List Value) (n c : Nat) (A : Option Addr) (col : Int) (w : World) (hn : rs.length = n) (hA : Rd w A hs) (hR : Rows w hs rs) (hn1 : n ≤ 1000000) :
    Calls Try.prog 46 #[.slice A n c, .int .i64 col] w fun e w' => e = .returned (.int .i64 (runN rs col : Nat)) ∧ Below w.heap.size w w' := by
  have Hn := Lib.hid hn
  have HA := Lib.hid hA
  have HR := Lib.hid hR
  have hle := runN_le rs col
  rw [hn] at hle
  obtain ⟨R, hR2⟩ : ∃ R, runN rs col = R := ⟨_, rfl⟩
  rw [hR2] at hle ⊢
  have HR2 := Lib.hid hR2
  clear hn hA hR hR2
  go_enter Try.func46, Try.ntmps46
  go_wp2_with fail
  go_loopw [5] (fun vi wr => ∃ i : Nat, i ≤ R ∧ vi = .int .i64 i ∧ Hid (Below w.heap.size w wr)) (fun i _ => n - (intOf i).toNat)
  case atStart => exact ⟨0, by omega, rfl, Below.refl _ _⟩
  case round =>
    obtain ⟨i, hi, rfl, Hb⟩ := hrel
    have hzr := Hb.out.size
    by_cases hlt : i < n
    · have hil : i < rs.length := by rw [Hn.out]; exact hlt
      have h0l : 0 < rs.length := by omega
      have hiff := Lib.hid (runN_iff (show i ≤ runN rs col by rw [HR2.out]; exact hi) hil)
      rw [HR2.out] at hiff
      obtain ⟨b, o, E, d, rfl, ca, _, _, hrx⟩ := head_cell (HA.out.below Hb.out) (HR.out.below Hb.out) hil
      obtain ⟨b', o', E', d', hAe, cb, _, _, hry⟩ := head_cell (HA.out.below Hb.out) (HR.out.below Hb.out) h0l
      cases hAe
      rw [Nat.add_zero] at cb
      have hbd : Below wr.heap.size wr wr.drew := (Below.refl _ _).drew
      generalize rs[i] = x at *
      generalize rs[0] = y at *
      generalize hxl : x.length = xl at *
      generalize hyl : y.length = yl at *
      have hax := Lib.hid (fun w' (h : Rd w' E (rcells x)) => at_any x E xl d col w' hxl h)
      have hay := Lib.hid (fun w' (h : Rd w' E' (rcells y)) => at_any y E' yl d' col w' hyl h)
      generalize colAt x col = vx at *
      generalize colAt y col = vy at *
      have hXd := Lib.hid (hrx.below hbd)
      have hYd := Lib.hid (hry.below hbd)
      have cad : wr.drew.cell? ⟨b, o + i, none⟩ = some (.slice E xl d) := ca
      have cbd : wr.drew.cell? ⟨b, o, none⟩ = some (.slice E' yl d') := cb
      have hiI : (0 : Int) ≤ (i : Int) := by omega
      have hiN : (i : Int) < (n : Int) := by omega
      have hn0 : (0 : Int) < (n : Int) := by omega
      have hn0' : 0 < n := by omega
      obtain ⟨k1, n1, s1⟩ := vx
      obtain ⟨k2, n2, s2⟩ := vy
      unfold Va.agg at hax hay
      dsimp only at hax hay
      have tok1 : True := trivial
      clear hrx hry hxl hyl hbd hil h0l
      rcases va_cases k1 n1 s1 k2 n2 s2 with ⟨rfl, rfl, rfl⟩ | h | ⟨rfl, h⟩ | ⟨rfl, rfl, h⟩
      · skip
        go_wp2_with fail
        go_region_held3 (fun w' => w'.cell? ⟨b, o + i, none⟩ = some (.slice E xl d) ∧ w'.cell? ⟨b, o, none⟩ = some (.slice E' yl d'))
          (first | assumption | exact ⟨ca, cb⟩ | exact ⟨cad, cbd⟩ | exact ⟨ca3, cb3⟩ | exact ⟨ca4, cb4⟩)
          (first | (go_at_call 36; have _t := tok1; refine (hax.out _ hXd.out).mono ?_; rintro e w3 ⟨rfl, hb3⟩; have ca3 := cell_keep hb3 cad; have cb3 := cell_keep hb3 cbd; have hY3 := Lib.hid (hYd.out.below hb3); clear tok1 _t) | (go_at_call 36; refine (hay.out _ hY3.out).mono ?_; rintro e w4 ⟨rfl, hb4⟩; have ca4 := cell_keep hb4 ca3; have cb4 := cell_keep hb4 cb3))
        have Hb4 := Lib.hid (Hb.out.trans (((Below.refl _ _).drew.trans (hb3.trans (hb4.mono hb3.size)) : Below wr.heap.size wr w4).mono hzr))
        clear hb3 hb4 hax hay hXd hYd hY3 ca cb cad cbd ca3 cb3 ca4 cb4 hiI hiN hn0

        have hlt2 : i < R := hiff.out.1 (by first | rfl | trivial)
        go_wp2_with fail
        go_roundw
        case rel => exact ⟨i + 1, by omega, by go_num, Hb4.out⟩
        case measure => simp [intOf]; omega
      · skip
        go_wp2_with fail
        go_region_held3 (fun w' => w'.cell? ⟨b, o + i, none⟩ = some (.slice E xl d) ∧ w'.cell? ⟨b, o, none⟩ = some (.slice E' yl d'))
          (first | assumption | exact ⟨ca, cb⟩ | exact ⟨cad, cbd⟩ | exact ⟨ca3, cb3⟩ | exact ⟨ca4, cb4⟩)
          (first | (go_at_call 36; have _t := tok1; refine (hax.out _ hXd.out).mono ?_; rintro e w3 ⟨rfl, hb3⟩; have ca3 := cell_keep hb3 cad; have cb3 := cell_keep hb3 cbd; have hY3 := Lib.hid (hYd.out.below hb3); clear tok1 _t) | (go_at_call 36; refine (hay.out _ hY3.out).mono ?_; rintro e w4 ⟨rfl, hb4⟩; have ca4 := cell_keep hb4 ca3; have cb4 := cell_keep hb4 cb3))
        have Hb4 := Lib.hid (Hb.out.trans (((Below.refl _ _).drew.trans (hb3.trans (hb4.mono hb3.size)) : Below wr.heap.size wr w4).mono hzr))
        clear hb3 hb4 hax hay hXd hYd hY3 ca cb cad cbd ca3 cb3 ca4 cb4 hiI hiN hn0

        have hge : i = R := by
          have : ¬ i < R := fun h2 => by
            have := hiff.out.2 h2
            injection this with e1 e2 e3
            exact absurd e1 h
          omega
        go_wp2_with fail
        go_ret
        rw [← hge]
        exact ⟨rfl, Hb4.out⟩
      · skip
        go_wp2_with fail
        go_region_held3 (fun w' => w'.cell? ⟨b, o + i, none⟩ = some (.slice E xl d) ∧ w'.cell? ⟨b, o, none⟩ = some (.slice E' yl d'))
          (first | assumption | exact ⟨ca, cb⟩ | exact ⟨cad, cbd⟩ | exact ⟨ca3, cb3⟩ | exact ⟨ca4, cb4⟩)
          (first | (go_at_call 36; have _t := tok1; refine (hax.out _ hXd.out).mono ?_; rintro e w3 ⟨rfl, hb3⟩; have ca3 := cell_keep hb3 cad; have cb3 := cell_keep hb3 cbd; have hY3 := Lib.hid (hYd.out.below hb3); clear tok1 _t) | (go_at_call 36; refine (hay.out _ hY3.out).mono ?_; rintro e w4 ⟨rfl, hb4⟩; have ca4 := cell_keep hb4 ca3; have cb4 := cell_keep hb4 cb3))
        have Hb4 := Lib.hid (Hb.out.trans (((Below.refl _ _).drew.trans (hb3.trans (hb4.mono hb3.size)) : Below wr.heap.size wr w4).mono hzr))
        clear hb3 hb4 hax hay hXd hYd hY3 ca cb cad cbd ca3 cb3 ca4 cb4 hiI hiN hn0

        have hge : i = R := by
          have : ¬ i < R := fun h2 => by
            have := hiff.out.2 h2
            injection this with e1 e2 e3
            exact absurd e2 h
          omega
        go_wp2_with fail
        go_ret
        rw [← hge]
        exact ⟨rfl, Hb4.out⟩
      · skip
        have h1 : ¬ St8 s1 = St8 s2 := fun e => h (St8_inj e)
        have h2 := St8_cmp s1 s2
        have h3 := St8_eq s1 s2
        rw [decide_eq_false h] at h2 h3

        go_wp2_with fail
        go_region_held3 (fun w' => w'.cell? ⟨b, o + i, none⟩ = some (.slice E xl d) ∧ w'.cell? ⟨b, o, none⟩ = some (.slice E' yl d'))
          (first | assumption | exact ⟨ca, cb⟩ | exact ⟨cad, cbd⟩ | exact ⟨ca3, cb3⟩ | exact ⟨ca4, cb4⟩)
          (first | (go_at_call 36; have _t := tok1; refine (hax.out _ hXd.out).mono ?_; rintro e w3 ⟨rfl, hb3⟩; have ca3 := cell_keep hb3 cad; have cb3 := cell_keep hb3 cbd; have hY3 := Lib.hid (hYd.out.below hb3); clear tok1 _t) | (go_at_call 36; refine (hay.out _ hY3.out).mono ?_; rintro e w4 ⟨rfl, hb4⟩; have ca4 := cell_keep hb4 ca3; have cb4 := cell_keep hb4 cb3))
        have Hb4 := Lib.hid (Hb.out.trans (((Below.refl _ _).drew.trans (hb3.trans (hb4.mono hb3.size)) : Below wr.heap.size wr w4).mono hzr))
        clear hb3 hb4 hax hay hXd hYd hY3 ca cb cad cbd ca3 cb3 ca4 cb4 hiI hiN hn0

        have hge : i = R := by
          have : ¬ i < R := fun h2 => by
            have := hiff.out.2 h2
            injection this with e1 e2 e3
            exact absurd e3 h
          omega
        go_wp2_with fail
        go_ret
        rw [← hge]
        exact ⟨rfl, Hb4.out⟩
    · have hiR : i = R := by omega
      have hin : decide ((i : Int) < (n : Int)) = false := decide_eq_false (by omega)
      have hin2 : ¬ (i : Int) < (n : Int) := by omega
      have hin3 : decide (i < n) = false := decide_eq_false (by omega)
      rw [hiR] at *
      go_wp2_with fail
      go_region
      go_wp2_with fail
      go_ret
      exact ⟨rfl, Hb.out.drew⟩
end Go.Proofs.Ytghaffafglfdlaa
