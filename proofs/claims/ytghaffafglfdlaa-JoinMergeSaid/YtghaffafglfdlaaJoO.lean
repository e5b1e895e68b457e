/- Walks: whether rows are in order by one rising column. -/
import Derived.Test.YtghaffafglfdlaaJoC
namespace Go.Proofs.Ytghaffafglfdlaa
open Go.RowKit

attribute [local go_sem ↓] Go.wp_at_zero Go.wp_at_succ

set_option maxHeartbeats 4000000 in
set_option maxRecDepth 100000 in
theorem ocmp_any (x y : RowM) (xl xc yl yc : Nat) (X Y : Option Addr) (g kc : Nat) (col : Int) (w : World) (hx : x.length = xl) (hy : y.length = yl) (hX : Rd w X (rcells x)) (hY : Rd w Y (rcells y)) (k0 : w.cell? ⟨g, 0, none⟩ = some (.int .i64 col)) (k1 : w.cell? ⟨g, 1, none⟩ = some (.bool false)) :
    Calls Try.prog 44 #[.slice X xl xc, .slice Y yl yc, .slice (some ⟨g, 0, none⟩) 1 kc] w fun e w' => e = .returned (.int .i64 (oneV (colAt x col) (colAt y col))) ∧ Below w.heap.size w w' := by
  have hax := Lib.hid (fun w' (h : Rd w' X (rcells x)) => oat_any x X xl xc col w' hx h)
  have hay := Lib.hid (fun w' (h : Rd w' Y (rcells y)) => oat_any y Y yl yc col w' hy h)
  have hon := Lib.hid (fun w' => one_any (colAt x col) (colAt y col) w')
  generalize oneV (colAt x col) (colAt y col) = R at *
  generalize colAt x col = vx at *
  generalize colAt y col = vy at *
  have hb1 : Below w.heap.size w (w.alloc (.cells #[.int .i64 col, .bool false] 54)) := (Below.refl _ _).alloc (Nat.le_refl _) _
  have hbd : Below w.heap.size w (w.alloc (.cells #[.int .i64 col, .bool false] 54)).drew := hb1.drew
  have hXd := Lib.hid (hX.below hbd)
  have hYd := Lib.hid (hY.below hbd)
  have hkb := (Blk.new w 54 #[.int .i64 col, .bool false])
  have kd0 : (w.alloc (.cells #[.int .i64 col, .bool false] 54)).drew.cell? ⟨w.heap.size, 0, none⟩ = some (.int .i64 col) := hkb.cell 0
  have kd1 : (w.alloc (.cells #[.int .i64 col, .bool false] 54)).drew.cell? ⟨w.heap.size, 1, none⟩ = some (.bool false) := hkb.cell 1
  have Hbd := Lib.hid hbd
  clear hx hy hX hY hkb hb1 hbd
  have tok1 : True := trivial
  go_enter Try.func44, Try.ntmps44
  go_wp2_with fail
  go_loopw [12] (fun i wr => (i = .int .i64 0 ∧ w = wr) ∨ (i = .int .i64 1 ∧ Below w.heap.size w wr ∧ Hid (R = 0))) (fun i _ => 1 - (intOf i).toNat)
  case atStart => exact .inl ⟨rfl, rfl⟩
  case round =>
    rcases hrel with ⟨rfl, rfl⟩ | ⟨rfl, hb, hR⟩
    · go_wp2_with fail
      go_region_held3 (fun w' => w'.cell? ⟨w.heap.size, 0, none⟩ = some (.int .i64 col) ∧ w'.cell? ⟨w.heap.size, 1, none⟩ = some (.bool false))
        (first | assumption | exact ⟨kd0, kd1⟩ | exact ⟨ka3, kb3⟩ | exact ⟨ka4, kb4⟩ | exact ⟨ka5, kb5⟩ | (refine ⟨?_, ?_⟩ <;> go_cell))
        (first | (go_at_call 58; have _t := tok1; refine (hax.out _ hXd.out).mono ?_; rintro e w3 ⟨rfl, hb3⟩; have ka3 := cell_keep hb3 kd0; have kb3 := cell_keep hb3 kd1; have hY3 := Lib.hid (hYd.out.below hb3); clear tok1 _t) | (go_at_call 58; refine (hay.out _ hY3.out).mono ?_; rintro e w4 ⟨rfl, hb4⟩; have ka4 := cell_keep hb4 ka3; have kb4 := cell_keep hb4 kb3) | (go_at_call 57; refine (hon.out _).mono ?_; rintro e w5 ⟨rfl, hb5⟩; have ka5 := cell_keep hb5 ka4; have kb5 := cell_keep hb5 kb4))
      have hb35 := (hb3.trans (hb4.mono hb3.size))
      have hbw5 := Hbd.out.trans ((hb35.trans (hb5.mono hb35.size)).mono Hbd.out.size)
      clear hb3 hb4 hb5 hb35
      by_cases hR : R = 0
      · subst hR
        go_wp2_with fail
        go_roundw
        case rel => exact .inr ⟨by go_num, hbw5, trivial⟩
        case measure => simp [intOf]
      · go_wp2_with fail
        go_ret
        exact ⟨rfl, hbw5⟩
    · go_wp2_with fail
      go_ret
      rw [hR.out]
      exact ⟨rfl, hb⟩

theorem osorted1_any (x y : RowM) (xl xc yl yc : Nat) (X Y : Option Addr) (kb g kc : Nat) (col : Int) (w : World) (hx : x.length = xl) (hy : y.length = yl) (hX : Rd w X (rcells x)) (hY : Rd w Y (rcells y)) (k2 : w.cell? ⟨kb, 0, none⟩ = some (.slice (some ⟨g, 0, none⟩) 1 kc)) (k0 : w.cell? ⟨g, 0, none⟩ = some (.int .i64 col)) (k1 : w.cell? ⟨g, 1, none⟩ = some (.bool false)) :
    Calls Try.prog 60 #[.slice X xl xc, .slice Y yl yc, .pointer (some ⟨kb, 0, none⟩)] w fun e w' => e = .returned (.int .i64 (oneV (colAt x col) (colAt y col))) ∧ Below w.heap.size w w' := by
  have hc := Lib.hid (ocmp_any x y xl xc yl yc X Y g kc col w hx hy hX hY k0 k1)
  go_enter Try.func60, Try.ntmps60
  go_wp2_with fail
  refine hc.out.mono ?_
  rintro e w3 ⟨rfl, hb3⟩
  go_wp2_with fail
  go_ret
  exact ⟨rfl, hb3⟩

/-- Rows in order by one rising column. -/
def downAt (rs : List RowM) (col : Int) (i : Nat) : Prop := oneV (colAt (rs.getD i []) col) (colAt (rs.getD (i - 1) []) col) < 0
def inOrder (rs : List RowM) (col : Int) : Prop := ∀ i, 0 < i → i < rs.length → ¬ downAt rs col i

noncomputable def inOrderB (rs : List RowM) (col : Int) : Bool := @decide (inOrder rs col) (Classical.propDecidable _)
theorem inOrderB_true {rs : List RowM} {col : Int} (h : inOrder rs col) : inOrderB rs col = true := @decide_eq_true _ (Classical.propDecidable _) h
theorem inOrderB_false {rs : List RowM} {col : Int} (h : ¬ inOrder rs col) : inOrderB rs col = false := @decide_eq_false _ (Classical.propDecidable _) h
set_option maxHeartbeats 4000000 in
set_option maxRecDepth 100000 in
theorem issorted_any (rs : List RowM) (hs : List Value) (n c : Nat) (A : Option Addr) (kb g kc : Nat) (col : Int) (w : World) (hn : rs.length = n) (hA : Rd w A hs) (hR : Rows w hs rs) (hn1 : n ≤ 1000000) (k2 : w.cell? ⟨kb, 0, none⟩ = some (.slice (some ⟨g, 0, none⟩) 1 kc)) (k0 : w.cell? ⟨g, 0, none⟩ = some (.int .i64 col)) (k1 : w.cell? ⟨g, 1, none⟩ = some (.bool false)) :
    Calls Try.prog 59 #[.slice A n c, .func (Fn.func 60) #[] #[.pointer (some ⟨kb, 0, none⟩)]] w fun e w' => e = .returned (.bool (inOrderB rs col)) ∧ Below w.heap.size w w' := by
  have Hn := Lib.hid hn
  have Hk2 := Lib.hid k2
  have Hk0 := Lib.hid k0
  have Hk1 := Lib.hid k1
  clear hn k0 k1 k2
  go_enter Try.func59, Try.ntmps59
  go_wp2_with fail
  go_loopw [5] (fun i wr => ∃ z : Int, -1 ≤ z ∧ z < n ∧ i = .int .i64 z ∧ Below w.heap.size w wr ∧ Hid (∀ q : Nat, z < (q : Int) → q < n → ¬ downAt rs col q)) (fun i _ => (intOf i).toNat)
  case atStart => exact ⟨(n : Int) - 1, by omega, by omega, by go_num, Below.refl _ _, fun q h1 h2 => by omega⟩
  case round =>
    obtain ⟨z, hz1, hz2, rfl, hb, hall⟩ := hrel
    by_cases hp : 0 < z
    · obtain ⟨q, rfl⟩ := Int.eq_ofNat_of_zero_le (show 0 ≤ z by omega)
      obtain ⟨p, hqp⟩ : ∃ p, q = p + 1 := ⟨q - 1, by omega⟩
      have hq : q < rs.length := by rw [Hn.out]; omega
      have hp' : p < rs.length := by omega
      obtain ⟨b, o, E, d, rfl, ca, _, _, hrx⟩ := head_cell (hA.below hb) (hR.below hb) hq
      obtain ⟨b', o', E', d', hAe, cb, _, _, hry⟩ := head_cell (hA.below hb) (hR.below hb) hp'
      cases hAe
      have hdn : Hid (downAt rs col q ↔ oneV (colAt rs[q] col) (colAt rs[p] col) < 0) := by
        show _ ↔ _
        unfold downAt
        rw [List.getD, List.getElem?_eq_getElem hq, List.getD, show q - 1 = p from by omega, List.getElem?_eq_getElem hp']
        rfl
      have hbd : Below wr.heap.size wr wr.drew := (Below.refl _ _).drew
      have hbwd := hb.trans (hbd.mono hb.size)
      generalize rs[q] = x at *
      generalize rs[p] = y at *
      generalize hxl : x.length = xl at *
      generalize hyl : y.length = yl at *
      have hcl := Lib.hid (osorted1_any x y xl d yl d' E E' kb g kc col wr.drew hxl hyl (hrx.below hbd) (hry.below hbd) (cell_keep hbwd Hk2.out) (cell_keep hbwd Hk0.out) (cell_keep hbwd Hk1.out))
      generalize oneV (colAt x col) (colAt y col) = R at *
      have cad : wr.drew.cell? ⟨b, o + q, none⟩ = some (.slice E xl d) := ca
      have cbd : wr.drew.cell? ⟨b, o + p, none⟩ = some (.slice E' yl d') := cb
      have hpi : (q : Int) - 1 = (p : Int) := by omega
      have hw2 : IntKind.i64.wrap (p : Int) = (p : Int) := by rw [IntKind.wrap_i64]; omega
      have hw3 : IntKind.i64.wrap ((q : Int) - 1) = (p : Int) := by rw [IntKind.wrap_i64]; omega
      have hpn : p < n := by omega
      have hpnI : (p : Int) < (n : Int) := by omega
      have hp0I : (0 : Int) ≤ (p : Int) := by omega
      have hqn : q < n := by omega
      have Hqp := Lib.hid hqp
      have Hbwd := Lib.hid hbwd
      clear hqp hxl hyl hrx hry hbd hbwd hq hp' hA hR
      go_wp2_with fail
      go_region_held3 (fun w' => w'.cell? ⟨b, o + q, none⟩ = some (.slice E xl d) ∧ w'.cell? ⟨b, o + p, none⟩ = some (.slice E' yl d'))
        (first | assumption | exact ⟨ca, cb⟩ | exact ⟨cad, cbd⟩ | exact ⟨ca3, cb3⟩)
        (first | (go_at_call 60; refine hcl.out.mono ?_; rintro e w3 ⟨rfl, hb3⟩; have ca3 := cell_keep hb3 cad; have cb3 := cell_keep hb3 cbd))
      have hbw3 := Hbwd.out.trans (hb3.mono Hbwd.out.size)
      by_cases hneg : R < 0
      · have hf : Hid (inOrderB rs col = false) := inOrderB_false (fun h => h q (by have := Hqp.out; omega) (by rw [Hn.out]; exact hqn) (hdn.out.2 hneg))
        go_wp2_with fail
        go_ret
        rw [hf.out]
        exact ⟨rfl, hbw3⟩
      · have hnd : Hid (¬ downAt rs col q) := fun h => hneg (hdn.out.1 h)
        go_wp2_with fail
        go_roundw
        case rel =>
          refine ⟨(p : Int), by omega, by omega, by go_num, hbw3, fun i h1 h2 => ?_⟩
          by_cases hi : i = q
          · rw [hi]; exact hnd.out
          · exact hall.out i (by have := Hqp.out; omega) h2
        case measure => simp [intOf]; have := Hqp.out; omega
    · have ht : Hid (inOrderB rs col = true) := inOrderB_true (fun q h1 h2 => hall.out q (by omega) (by rw [← Hn.out]; exact h2))
      go_wp2_with fail
      go_ret
      rw [ht.out]
      exact ⟨rfl, hb⟩

set_option maxRecDepth 100000 in
theorem osorted_any (rs : List RowM) (hs : List Value) (n c : Nat) (A : Option Addr) (g kc : Nat) (col : Int) (w : World) (hn : rs.length = n) (hA : Rd w A hs) (hR : Rows w hs rs) (hn1 : n ≤ 1000000) (k0 : w.cell? ⟨g, 0, none⟩ = some (.int .i64 col)) (k1 : w.cell? ⟨g, 1, none⟩ = some (.bool false)) :
    Calls Try.prog 45 #[.slice A n c, .slice (some ⟨g, 0, none⟩) 1 kc] w fun e w' => e = .returned (.bool (inOrderB rs col)) ∧ Below w.heap.size w w' := by
  have hb1 : Below w.heap.size w (w.alloc (.cells #[.slice (some ⟨g, 0, none⟩) 1 kc] 55)) := (Below.refl _ _).alloc (Nat.le_refl _) _
  have hc := Lib.hid (issorted_any rs hs n c A w.heap.size g kc col _ hn (hA.below hb1) (hR.below hb1) hn1 ((Blk.new w 55 #[.slice (some ⟨g, 0, none⟩) 1 kc]).cell 0) (cell_keep hb1 k0) (cell_keep hb1 k1))
  go_enter Try.func45, Try.ntmps45
  go_wp2_with fail
  refine hc.out.mono ?_
  rintro e w3 ⟨rfl, hb3⟩
  go_wp2_with fail
  go_ret
  exact ⟨rfl, hb1.trans (hb3.mono hb1.size)⟩
end Go.Proofs.Ytghaffafglfdlaa
