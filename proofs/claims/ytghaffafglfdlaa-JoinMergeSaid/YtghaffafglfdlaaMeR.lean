/- Walks: the document's way to compare values and rows, and whether rows are in order. -/
import Derived.Test.YtghaffafglfdlaaMeM
import Derived.Test.YtghaffafglfdlaaJoV
namespace Go.Proofs.Ytghaffafglfdlaa
open Go.RowKit

attribute [local go_sem ↓] Go.wp_at_zero Go.wp_at_succ

/-- A value; nothing, if it is none. -/
def nil0 (v : Va) : Va := if v.k = 0 then Va.nil else v
theorem cmpVa_nil0 {x y : Va} (hx : 0 ≤ x.k) (hy : 0 ≤ y.k) : cmpVa (nil0 x) (nil0 y) = oneV x y := by
  unfold nil0 oneV
  by_cases h1 : x.k = 0
  · by_cases h2 : y.k = 0
    · rw [if_pos h1, if_pos h2, if_pos ⟨h1, h2⟩]; rfl
    · rw [if_pos h1, if_neg h2, if_neg (fun h => h2 h.2), if_pos h1]
      unfold cmpVa or3 cmpI
      have : (0 : Int) < y.k := by omega
      simp [Va.nil, this]
  · by_cases h2 : y.k = 0
    · rw [if_neg h1, if_pos h2, if_neg (fun h => h1 h.1), if_neg h1, if_pos h2]
      unfold cmpVa or3 cmpI
      have h3 : (0 : Int) < x.k := by omega
      have h4 : ¬ x.k < 0 := by omega
      simp [Va.nil, h3, h4]
    · rw [if_neg h1, if_neg h2, if_neg (fun h => h1 h.1), if_neg h1, if_neg h2]

set_option maxHeartbeats 4000000 in
set_option maxRecDepth 100000 in
theorem rcmp_any (x y : Va) (w : World) : Calls Try.prog 67 #[x.agg, y.agg] w fun e w' => e = .returned (.int .i64 (cmpVa x y)) ∧ Below w.heap.size w w' := by
  have hv : Hid (cmpVa x y = or3 (cmpI x.k y.k) (cmpI x.n y.n) (cmpS x.s y.s)) := rfl
  generalize cmpVa x y = C at *
  obtain ⟨k, n, s⟩ := x
  obtain ⟨k', n', s'⟩ := y
  unfold Va.agg
  dsimp only at *
  have hb : Below w.heap.size w ((w.alloc (.cells #[.int .u8 k, .int .i64 n, .string (St8 s)] 30)).alloc (.cells #[.int .u8 k', .int .i64 n', .string (St8 s')] 30)) := by go_grown
  have e1 : Op.bytesLess (St8 s).toList (St8 s').toList = Op.bytesLess s s' := by rw [St8_list, St8_list]
  obtain ⟨bl, hbl⟩ : ∃ bl, Op.bytesLess s s' = bl := ⟨_, rfl⟩
  rw [hbl] at e1
  rcases va_cases k n s k' n' s' with ⟨rfl, rfl, rfl⟩ | h | ⟨rfl, h⟩ | ⟨rfl, rfl, h⟩
  · have hC : Hid (C = 0) := by show _ = _; rw [hv.out]; simp [or3, cmpI, (cmpS_zero s s).2 rfl]
    have h2 := St8_cmp s s
    rw [decide_eq_true rfl] at h2
    go_enter Try.func67, Try.ntmps67
    go_wp2_with fail
    go_ret
    rw [hC.out]
    exact ⟨rfl, hb⟩
  · have hC : Hid (C = if k < k' then -1 else 1) := by show _ = _; rw [hv.out]; unfold or3 cmpI; split <;> (try split) <;> (first | omega | simp_all)
    have hne : (k == k') = false := by simp [h]
    by_cases hlt : k < k'
    · rw [if_pos hlt] at hC
      go_enter Try.func67, Try.ntmps67
      go_wp2_with fail
      all_goals (go_ret; rw [hC.out]; exact ⟨rfl, hb⟩)
    · rw [if_neg hlt] at hC
      go_enter Try.func67, Try.ntmps67
      go_wp2_with fail
      all_goals (go_ret; rw [hC.out]; exact ⟨rfl, hb⟩)
  · have hC : Hid (C = if n < n' then -1 else 1) := by show _ = _; rw [hv.out]; unfold or3 cmpI; simp only [Int.lt_irrefl, if_false, ne_eq, not_true_eq_false]; split <;> (try split) <;> (first | omega | simp_all)
    by_cases hlt : n < n'
    · rw [if_pos hlt] at hC
      go_enter Try.func67, Try.ntmps67
      go_wp2_with fail
      go_ret
      rw [hC.out]
      exact ⟨rfl, hb⟩
    · rw [if_neg hlt] at hC
      go_enter Try.func67, Try.ntmps67
      go_wp2_with fail
      go_ret
      rw [hC.out]
      exact ⟨rfl, hb⟩
  · have hC : Hid (C = if bl = true then -1 else 1) := by show _ = _; rw [hv.out]; unfold or3 cmpI cmpS; rw [hbl]; simp [h]
    have h1 : ¬ St8 s = St8 s' := fun e => h (St8_inj e)
    have h2 := St8_cmp s s'
    have h3 := St8_eq s s'
    rw [decide_eq_false h] at h2 h3
    cases bl with
    | true =>
      go_enter Try.func67, Try.ntmps67
      go_wp2_with fail
      go_ret
      rw [hC.out]
      exact ⟨rfl, hb⟩
    | false =>
      go_enter Try.func67, Try.ntmps67
      go_wp2_with fail
      go_ret
      rw [hC.out]
      exact ⟨rfl, hb⟩

set_option maxRecDepth 100000 in
theorem rat_any (r : RowM) (A : Option Addr) (n c : Nat) (col : Int) (w : World) (hn : r.length = n) (hr : Rd w A (rcells r)) :
    Calls Try.prog 66 #[.slice A n c, .int .i64 col] w fun e w' => e = .returned (nil0 (colAt r col)).agg ∧ Below w.heap.size w w' := by
  by_cases h0 : col < 0
  · have hv : Hid (nil0 (colAt r col) = Va.nil) := by show _ = _; unfold colAt; rw [if_pos (.inl h0)]; rfl
    go_enter Try.func66, Try.ntmps66
    go_wp2_with fail
    go_returns
    rw [hv.out]
    refine ⟨rfl, ?_⟩
    go_grown
  · obtain ⟨k, rfl⟩ := Int.eq_ofNat_of_zero_le (show 0 ≤ col by omega)
    by_cases h1 : n ≤ k
    · have hv : Hid (nil0 (colAt r (k : Int)) = Va.nil) := by show _ = _; unfold colAt; rw [if_pos (.inr (by omega))]; rfl
      go_enter Try.func66, Try.ntmps66
      go_wp2_with fail
      go_returns
      rw [hv.out]
      exact ⟨rfl, by go_grown⟩
    · have hk : k < r.length := by omega
      have hv : Hid (colAt r (k : Int) = r[k]) := by
        show _ = _
        unfold colAt
        rw [if_neg (by omega), Int.toNat_natCast, List.getD, List.getElem?_eq_getElem hk]
        rfl
      obtain ⟨b, o, rfl, c0, c1, c2⟩ := row_cells (hr.alloc (.cells #[.int .u8 0, .int .i64 0, .string ⟨#[]⟩] 30)) hk
      have hkn : k < n := by omega
      clear hn hr
      generalize r[k] = v at *
      by_cases hk0 : v.k = 0
      · have hv2 : Hid (nil0 (colAt r (k : Int)) = Va.nil) := by show _ = _; rw [hv.out]; unfold nil0; rw [if_pos hk0]
        rw [hk0] at c0
        clear hk0
        go_enter Try.func66, Try.ntmps66
        go_wp2_with fail
        go_returns
        rw [hv2.out]
        exact ⟨rfl, by go_grown⟩
      · have hv2 : Hid (nil0 (colAt r (k : Int)) = v) := by show _ = _; rw [hv.out]; unfold nil0; rw [if_neg hk0]
        have hne : (v.k == 0) = false := by simp [hk0]
        go_enter Try.func66, Try.ntmps66
        go_wp2_with fail
        go_returns
        rw [hv2.out]
        exact ⟨rfl, by go_grown⟩

set_option maxHeartbeats 4000000 in
set_option maxRecDepth 100000 in
theorem rcmp15_any (x y : RowM) (xl xc yl yc : Nat) (X Y : Option Addr) (g kc : Nat) (col : Int) (w : World) (hx : x.length = xl) (hy : y.length = yl) (hX : Rd w X (rcells x)) (hY : Rd w Y (rcells y)) (hxo : ∀ v ∈ x, v.ok) (hyo : ∀ v ∈ y, v.ok) (k0 : w.cell? ⟨g, 0, none⟩ = some (.int .i64 col)) (k1 : w.cell? ⟨g, 1, none⟩ = some (.bool false)) :
    Calls Try.prog 49 #[.slice X xl xc, .slice Y yl yc, .slice (some ⟨g, 0, none⟩) 1 kc] w fun e w' => e = .returned (.int .i64 (oneV (colAt x col) (colAt y col))) ∧ Below w.heap.size w w' := by
  have hax := Lib.hid (fun w' (h : Rd w' X (rcells x)) => rat_any x X xl xc col w' hx h)
  have hay := Lib.hid (fun w' (h : Rd w' Y (rcells y)) => rat_any y Y yl yc col w' hy h)
  have hcm := Lib.hid (fun w' => rcmp_any (nil0 (colAt x col)) (nil0 (colAt y col)) w')
  rw [cmpVa_nil0 (colAt_ok hxo col).k.1 (colAt_ok hyo col).k.1] at hcm
  generalize oneV (colAt x col) (colAt y col) = R at *
  generalize nil0 (colAt x col) = vx at *
  generalize nil0 (colAt y col) = vy at *
  obtain ⟨a1, a2, a3⟩ := vx
  obtain ⟨b1, b2, b3⟩ := vy
  unfold Va.agg at hax hay hcm
  dsimp only at hax hay hcm
  have HX := Lib.hid hX
  have HY := Lib.hid hY
  clear hx hy hX hY hxo hyo
  go_enter Try.func49, Try.ntmps49
  go_wp2_with fail
  go_loopw [7] (fun i wr => (i = .int .i64 0 ∧ w = wr) ∨ (i = .int .i64 1 ∧ Hid (Below w.heap.size w wr) ∧ Hid (R = 0))) (fun i _ => 1 - (intOf i).toNat)
  case atStart => exact .inl ⟨rfl, rfl⟩
  case round =>
    rcases hrel with ⟨rfl, rfl⟩ | ⟨rfl, hb, hR⟩
    · go_wp2_with fail
      refine (hax.out _ HX.out).mono ?_
      rintro e w3 ⟨rfl, hb3⟩
      have hbA := hb3.alloc hb3.size (.cells #[.int .u8 a1, .int .i64 a2, .string (St8 a3)] 30)
      have q0 := cell_keep hbA k0
      have q1 := cell_keep hbA k1
      have HYA := Lib.hid (HY.out.below hbA)
      have Hb3 := Lib.hid hb3
      have HbA := Lib.hid hbA
      clear hb3 hbA
      go_wp2_with fail
      refine (hay.out _ HYA.out).mono ?_
      rintro e w4 ⟨rfl, hb4⟩
      have hk1 := ((Blk.new w3 30 #[.int .u8 a1, .int .i64 a2, .string (St8 a3)]).below hb4).alloc (.cells #[.int .u8 b1, .int .i64 b2, .string (St8 b3)] 30)
      have z0 := hk1.cell 0
      have z1 := hk1.cell 1
      have z2 := hk1.cell 2
      simp only [List.getElem?_cons_zero, List.getElem?_cons_succ] at z0 z1 z2
      have HbW := Lib.hid ((HbA.out.trans (hb4.mono HbA.out.size)).alloc (HbA.out.trans (hb4.mono HbA.out.size)).size (.cells #[.int .u8 b1, .int .i64 b2, .string (St8 b3)] 30))
      have m1 := cell_keep HbW.out k1
      clear hk1 hb4 HbA Hb3 HYA q0 q1
      go_wp2_with fail
      refine (hcm.out _).mono ?_
      rintro e w5 ⟨rfl, hb5⟩
      have Hb5 := Lib.hid (HbW.out.trans (hb5.mono HbW.out.size))
      have n1 := cell_keep Hb5.out k1
      clear z0 z1 z2 HbW m1 hb5
      by_cases hR : R = 0
      · subst hR
        go_wp2_with fail
        go_roundw
        case rel => exact .inr ⟨by go_num, Hb5.out, trivial⟩
        case measure => simp [intOf]
      · go_wp2_with fail
        go_ret
        exact ⟨rfl, Hb5.out⟩
    · go_wp2_with fail
      go_ret
      rw [hR.out]
      exact ⟨rfl, hb.out⟩

theorem oneV_pos (x y : Va) : 0 < oneV x y ↔ ltO y x := by
  unfold oneV ltO
  by_cases hx : x.k = 0
  · by_cases hy : y.k = 0
    · rw [if_pos ⟨hx, hy⟩]
      constructor
      · intro h; omega
      · rintro (⟨_, h⟩ | ⟨h, _⟩)
        · exact absurd hx h
        · exact absurd hy h
    · rw [if_neg (fun h => hy h.2), if_pos hx]
      constructor
      · intro h; omega
      · rintro (⟨h, _⟩ | ⟨_, h, _⟩)
        · exact absurd h hy
        · exact absurd hx h
  · rw [if_neg (fun h => hx h.1), if_neg hx]
    by_cases hy : y.k = 0
    · rw [if_pos hy]
      exact ⟨fun _ => .inl ⟨hy, hx⟩, fun _ => by omega⟩
    · rw [if_neg hy]
      have h1 := cmpVa_neg x y
      have h2 := cmpVa_zero x y
      constructor
      · intro h
        refine .inr ⟨hy, hx, ?_⟩
        rcases ltV_tri (x := x) (y := y) (fun e => by have := h2.2 e; omega) with h3 | h3
        · have := h1.2 h3; omega
        · exact h3
      · rintro (⟨h, _⟩ | ⟨_, _, h⟩)
        · exact absurd h hy
        · rcases Int.lt_trichotomy (cmpVa x y) 0 with h4 | h4 | h4
          · exact absurd (ltV_trans h (h1.1 h4)) (ltV_irrefl _)
          · rw [h2.1 h4] at h; exact absurd h (ltV_irrefl _)
          · exact h4
theorem down_iff {rs : List RowM} {col : Int} {p : Nat} (hq : p + 1 < rs.length) : downAt rs col (p + 1) ↔ 0 < oneV (colAt (rs[p]'(by omega)) col) (colAt rs[p + 1] col) := by
  unfold downAt
  rw [List.getD, List.getElem?_eq_getElem hq, List.getD, show p + 1 - 1 = p from by omega, List.getElem?_eq_getElem (by omega)]
  show oneV (colAt rs[p + 1] col) (colAt (rs[p]'(by omega)) col) < 0 ↔ _
  rw [oneV_neg, oneV_pos]

set_option maxHeartbeats 4000000 in
set_option maxRecDepth 100000 in
theorem rsorted_any (rs : List RowM) (hs : List Value) (n c : Nat) (A : Option Addr) (g kc : Nat) (col : Int) (w : World) (hn : rs.length = n) (hA : Rd w A hs) (hR : Rows w hs rs) (hn1 : n ≤ 1000000) (k0 : w.cell? ⟨g, 0, none⟩ = some (.int .i64 col)) (k1 : w.cell? ⟨g, 1, none⟩ = some (.bool false)) :
    Calls Try.prog 25 #[.slice A n c, .slice (some ⟨g, 0, none⟩) 1 kc] w fun e w' => e = .returned (.bool (inOrderB rs col)) ∧ Below w.heap.size w w' := by
  have Hn := Lib.hid hn
  have HA := Lib.hid hA
  have HR := Lib.hid hR
  have Hk0 := Lib.hid k0
  have Hk1 := Lib.hid k1
  clear hn hA hR k0 k1
  go_enter Try.func25, Try.ntmps25
  go_wp2_with fail
  go_loopw [5] (fun vi wr => ∃ i : Nat, 1 ≤ i ∧ (i ≤ n ∨ i = 1) ∧ vi = .int .i64 i ∧ Hid (Below w.heap.size w wr) ∧ Hid (∀ q : Nat, 0 < q → q < i → ¬ downAt rs col q)) (fun i _ => n - (intOf i).toNat)
  case atStart => exact ⟨1, by omega, by omega, rfl, Below.refl _ _, fun q h1 h2 => by omega⟩
  case round =>
    obtain ⟨i, hi1, hi2, rfl, Hb, Hall⟩ := hrel
    have hzr := Hb.out.size
    by_cases hlt : i < n
    · obtain ⟨p, rfl⟩ : ∃ p, i = p + 1 := ⟨i - 1, by omega⟩
      have hq : p + 1 < rs.length := by rw [Hn.out]; exact hlt
      have hp : p < rs.length := by omega
      have hdn := Lib.hid (down_iff (col := col) hq)
      obtain ⟨b, o, E, d, rfl, ca, _, _, hrx⟩ := head_cell (HA.out.below Hb.out) (HR.out.below Hb.out) hp
      obtain ⟨b', o', E', d', hAe, cb, _, _, hry⟩ := head_cell (HA.out.below Hb.out) (HR.out.below Hb.out) hq
      cases hAe
      obtain ⟨_, _, _, _, _, _, hxo⟩ := HR.out.at_ p rs[p] (List.getElem?_eq_getElem hp)
      obtain ⟨_, _, _, _, _, _, hyo⟩ := HR.out.at_ (p + 1) rs[p + 1] (List.getElem?_eq_getElem hq)
      have hbd : Below wr.heap.size wr wr.drew := (Below.refl _ _).drew
      have hbwd := Hb.out.trans (hbd.mono hzr)
      generalize rs[p] = x at *
      generalize rs[p + 1] = y at *
      generalize hxl : x.length = xl at *
      generalize hyl : y.length = yl at *
      have hcl := Lib.hid (rcmp15_any x y xl d yl d' E E' g kc col wr.drew hxl hyl (hrx.below hbd) (hry.below hbd) hxo hyo (cell_keep hbwd Hk0.out) (cell_keep hbwd Hk1.out))
      generalize oneV (colAt x col) (colAt y col) = R at *
      have cad : wr.drew.cell? ⟨b, o + p, none⟩ = some (.slice E xl d) := ca
      have cbd : wr.drew.cell? ⟨b, o + (p + 1), none⟩ = some (.slice E' yl d') := cb
      have w1 : IntKind.i64.wrap ((p : Int) + 1 - 1) = (p : Int) := by rw [IntKind.wrap_i64]; omega
      have w2 : IntKind.i64.wrap (p : Int) = (p : Int) := by rw [IntKind.wrap_i64]; omega
      have w3' : (p : Int) + 1 - 1 = (p : Int) := by omega
      have t1 : ((p : Int) + 1).toNat = p + 1 := by omega
      have i1 : (0 : Int) ≤ (p : Int) + 1 := by omega
      have j1 : (p : Int) + 1 < (n : Int) := by omega
      have i2 : (0 : Int) ≤ (p : Int) := by omega
      have j2 : (p : Int) < (n : Int) := by omega
      clear hxl hyl hrx hry hbd hbwd hq hp hxo hyo
      go_wp2_with fail
      go_region_held3 (fun w' => w'.cell? ⟨b, o + p, none⟩ = some (.slice E xl d) ∧ w'.cell? ⟨b, o + (p + 1), none⟩ = some (.slice E' yl d'))
        (first | assumption | exact ⟨ca, cb⟩ | exact ⟨cad, cbd⟩ | exact ⟨ca3, cb3⟩)
        (first | (go_at_call 49; refine hcl.out.mono ?_; rintro e w3 ⟨rfl, hb3⟩; have ca3 := cell_keep hb3 cad; have cb3 := cell_keep hb3 cbd))
      have Hb3 := Lib.hid (Hb.out.trans (((Below.refl _ _).drew.trans hb3 : Below wr.heap.size wr w3).mono hzr))
      clear hb3 ca cb cad cbd ca3 cb3 hcl w1 w2 w3' t1 i1 j1 i2 j2
      by_cases hpos : 0 < R
      · have hf : Hid (inOrderB rs col = false) := inOrderB_false (fun h => h (p + 1) (by omega) (by rw [Hn.out]; exact hlt) (hdn.out.2 hpos))
        go_wp2_with fail
        go_ret
        rw [hf.out]
        exact ⟨rfl, Hb3.out⟩
      · have hnd : Hid (¬ downAt rs col (p + 1)) := fun h => hpos (hdn.out.1 h)
        go_wp2_with fail
        go_roundw
        case rel =>
          refine ⟨p + 1 + 1, by omega, by omega, by go_num, Hb3.out, fun q h1 h2 => ?_⟩
          by_cases e : q = p + 1
          · rw [e]; exact hnd.out
          · exact Hall.out q h1 (by omega)
        case measure => simp [intOf]; omega
    · have ht : Hid (inOrderB rs col = true) := inOrderB_true (fun q h1 h2 => Hall.out q h1 (by rw [Hn.out] at h2; omega))
      go_wp2_with fail
      go_ret
      rw [ht.out]
      exact ⟨rfl, Hb.out⟩
end Go.Proofs.Ytghaffafglfdlaa
