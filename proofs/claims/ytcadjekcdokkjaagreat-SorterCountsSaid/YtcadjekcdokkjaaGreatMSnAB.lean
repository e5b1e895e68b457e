/- Walks: how much a row counts, into how many runs rows are cut: the program's and the reference's. Walks: into how many runs rows are cut: the reference's. -/
import Derived.Test.YtcadjekcdokkjaaGreatMSoXY
namespace Go.Proofs.YtcadjekcdokkjaaGreat
set_option linter.unusedVariables false
set_option linter.unusedSimpArgs false
open Go.RowKit
attribute [local go_sem ↓] Go.wp_at_zero Go.wp_at_succ
set_option maxHeartbeats 4000000 in
set_option maxRecDepth 100000 in
theorem rrow6_any (r : RowM) (n c : Nat) (A : Option Addr) (w : World) (hn : r.length = n) (hr : Rd w A (rcells r)) (hb : rowC r ≤ 1000000000000) (hn1 : n ≤ 1000000000000) :
  Calls Tryz.prog 41 #[.slice A n c] w fun e w' => e = .returned (.int .i64 (rowC r : Nat)) ∧ Below w.heap.size w w' := by
 have Hn := Lib.hid hn
 have Hr := Lib.hid hr
 clear hn hr
 go_enter Tryz.func41, Tryz.ntmps41
 go_wp2_with fail
 go_loopw [3, 4] (fun vs vi wr => ∃ j z : Nat, j ≤ n ∧ vi = .int .i64 (j : Int) ∧ vs = .int .i64 (z : Int) ∧ Hid (z = rowC (r.take j)) ∧ z ≤ 1000000000000 ∧ Hid (Below w.heap.size w wr)) (fun _ i _ => n - (intOf i).toNat)
 case atStart => exact ⟨0, 8, by omega, by go_num, by go_num, rfl, by omega, Below.refl _ _⟩
 case round =>
  obtain ⟨j, z, hj, rfl, rfl, hz, hz9, Hb⟩ := hrel
  by_cases hlt : j < n
  ·have hjl : j < r.length := by rw [Hn.out]; exact hlt
   have hnx := rowC_take hjl
   have hpt := rowC_part r (j + 1)
   obtain ⟨b, o, rfl, c0, c1, c2⟩ := row_cells (Hr.out.below Hb.out) hjl
   have hsz := St8_size r[j].s
   rw [hnx, ← hz.out] at hpt
   rw [← hz.out] at hnx
   have Hnx := Lib.hid hnx
   clear hnx hz
   generalize r[j] = v at *
   obtain ⟨vk, vn, vs⟩ := v
   dsimp only at c0 c1 c2 hsz hpt Hnx
   generalize hL : vs.length = L at *
   go_wp2_with fail
   go_roundw
   case rel => exact ⟨j + 1, z + (8 + L), by omega, by go_num, by go_num, Hnx.out.symm, by omega, Hb⟩
   case measure => simp [intOf]; omega
  ·obtain rfl : j = n := by omega
   have hf : Hid (z = rowC r) := by show _ = _; rw [hz.out, List.take_of_length_le (by rw [Hn.out]; exact Nat.le_refl _)]
   clear hz
   go_wp2_with fail
   go_ret
   rw [← hf.out]
   exact ⟨rfl, Hb.out⟩
def runsK (room : Nat) (rs : List RowM) : Nat := (runsN room rs).getD 0
def runsE (room : Nat) (rs : List RowM) : Int := if (runsN room rs).isSome then 0 else 5
theorem runsK_some {room k : Nat} {rs : List RowM} (h : runsN room rs = some k) : runsK room rs = k ∧ runsE room rs = 0 := by
 unfold runsK runsE
 rw [h]
 exact ⟨rfl, rfl⟩
theorem runsK_none {room : Nat} {rs : List RowM} (h : runsN room rs = none) : runsK room rs = 0 ∧ runsE room rs = 5 := by
 unfold runsK runsE
 rw [h]
 exact ⟨rfl, rfl⟩
theorem runsF_drop {room n left : Nat} {rs : List RowM} {j : Nat} {r : RowM} (h : rs[j]? = some r) : runsF room n left (rs.drop j) = if room < rowC r then none else if n = 0 ∨ left < rowC r then runsF room (n + 1) (room - rowC r) (rs.drop (j + 1)) else runsF room n (left - rowC r) (rs.drop (j + 1)) := by
 obtain ⟨hl, e⟩ := List.getElem?_eq_some_iff.1 h
 subst e
 rw [List.drop_eq_getElem_cons hl, runsF]
theorem rows_at {w : World} {hs : List Value} {rs : List RowM} {X : Option Addr} (hX : Rd w X hs) (hR : Rows w hs rs) {j : Nat} {r : RowM} (h : rs[j]? = some r) : ∃ b o E c, X = some ⟨b, o, none⟩ ∧ w.cell? ⟨b, o + j, none⟩ = some (.slice E r.length c) ∧ Rd w E (rcells r) := by
 obtain ⟨hl, e⟩ := List.getElem?_eq_some_iff.1 h
 subst e
 obtain ⟨b, o, E, c, h1, h2, _, _, h3, _⟩ := hR.hdr hX hl
 exact ⟨b, o, E, c, h1, h2, h3⟩
set_option maxHeartbeats 8000000 in
set_option maxRecDepth 100000 in
theorem truns_any (rs : List RowM) (hs : List Value) (n c : Nat) (A : Option Addr) (room : Nat) (w : World) (hn : rs.length = n) (hA : Rd w A hs) (hR : Rows w hs rs) (hn1 : n ≤ 1000000) (hrm : room ≤ 1000000000000) (hrw : ∀ r ∈ rs, rowC r ≤ 1000000000000 ∧ r.length ≤ 1000000) :
  Calls Tryz.prog 27 #[.slice A n c, .int .i64 (room : Int)] w fun e w' => e = .returned (.tuple #[.int .i64 (runsK room rs : Int), .int .i64 (runsE room rs)]) ∧ Below w.heap.size w w' := by
 have Hn := Lib.hid hn
 have HA := Lib.hid hA
 have HR := Lib.hid hR
 have Hrw := Lib.hid hrw
 clear hn hA hR hrw
 go_enter Tryz.func27, Tryz.ntmps27
 go_wp2_with fail
 go_loopw [6, 7, 13] (fun vn vl vi wr => ∃ j k l : Nat, j ≤ n ∧ k ≤ j ∧ l ≤ 1000000000000 ∧ vi = .int .i64 (j : Int) ∧ vn = .int .i64 (k : Int) ∧ vl = .int .i64 (l : Int) ∧ Hid (runsF room k l (rs.drop j) = runsN room rs) ∧ Hid (Below w.heap.size w wr)) (fun _ _ i _ => n - (intOf i).toNat)
 case atStart => exact ⟨0, 0, 0, by omega, by omega, by omega, by go_num, by go_num, by go_num, rfl, Below.refl _ _⟩
 case round =>
  obtain ⟨j, k, l, hj, hk, hl, rfl, rfl, rfl, hF, Hb⟩ := hrel
  by_cases hlt : j < n
  ·obtain ⟨r, hr⟩ : ∃ r, rs[j]? = some r := ⟨_, List.getElem?_eq_getElem (by rw [Hn.out]; exact hlt)⟩
   obtain ⟨b, o, E, d, rfl, c0, hE⟩ := rows_at (HA.out.below Hb.out) (HR.out.below Hb.out) hr
   have hst := runsF_drop (room := room) (n := k) (left := l) hr
   rw [hF.out] at hst
   obtain ⟨hr1, hr2⟩ := Hrw.out r (List.mem_of_getElem? hr)
   have hcall := Lib.hid (prow_any r r.length d E wr rfl hE hr1 (by omega))
   obtain ⟨L, hL⟩ : ∃ L, L = r.length := ⟨_, rfl⟩
   obtain ⟨C, hC⟩ : ∃ C, C = rowC r := ⟨_, rfl⟩
   rw [← hL] at c0 hcall
   rw [← hC] at hst hcall hr1
   have Hst := Lib.hid hst
   clear hst hE hL hC hF hr2 hr
   by_cases h1 : room < C
   ·have hnone : runsN room rs = none := by rw [Hst.out, if_pos h1]
    have He := Lib.hid (runsK_none hnone)
    clear hnone
    go_wp2_with fail
    refine hcall.out.mono ?_
    rintro e w2 ⟨rfl, hb2⟩
    have Hb2 := Lib.hid (Hb.out.trans (hb2.mono Hb.out.size))
    clear hb2
    go_wp2_with fail
    go_ret2
    rw [He.out.1, He.out.2]
    exact ⟨rfl, Hb2.out⟩
   ·by_cases h2 : k = 0
    ·have hnx : Hid (runsF room (k + 1) (room - C) (rs.drop (j + 1)) = runsN room rs) := by show _ = _; rw [Hst.out, if_neg h1, if_pos (.inl h2)]
     subst h2
     go_wp2_with fail
     refine hcall.out.mono ?_
     rintro e w2 ⟨rfl, hb2⟩
     have Hb2 := Lib.hid (Hb.out.trans (hb2.mono Hb.out.size))
     clear hb2
     go_wp2_with fail
     go_roundw
     case rel => exact ⟨j + 1, 1, room - C, by omega, by omega, by omega, by go_num, by go_num, by go_num, hnx, Hb2⟩
     case measure => simp [intOf]; omega
    ·have h2I : ¬ ((k : Int) = 0) := by omega
     by_cases h3 : l < C
     ·have hnx : Hid (runsF room (k + 1) (room - C) (rs.drop (j + 1)) = runsN room rs) := by show _ = _; rw [Hst.out, if_neg h1, if_pos (.inr h3)]
      go_wp2_with fail
      refine hcall.out.mono ?_
      rintro e w2 ⟨rfl, hb2⟩
      have Hb2 := Lib.hid (Hb.out.trans (hb2.mono Hb.out.size))
      clear hb2
      go_wp2_with fail
      go_roundw
      case rel => exact ⟨j + 1, k + 1, room - C, by omega, by omega, by omega, by go_num, by go_num, by go_num, hnx, Hb2⟩
      case measure => simp [intOf]; omega
     ·have hnx : Hid (runsF room k (l - C) (rs.drop (j + 1)) = runsN room rs) := by show _ = _; rw [Hst.out, if_neg h1, if_neg (by omega)]
      go_wp2_with fail
      refine hcall.out.mono ?_
      rintro e w2 ⟨rfl, hb2⟩
      have Hb2 := Lib.hid (Hb.out.trans (hb2.mono Hb.out.size))
      clear hb2
      go_wp2_with fail
      go_roundw
      case rel => exact ⟨j + 1, k, l - C, by omega, by omega, by omega, by go_num, by go_num, by go_num, hnx, Hb2⟩
      case measure => simp [intOf]; omega
  ·obtain rfl : n = j := by omega
   have hsome : runsN room rs = some k := by
    rw [← hF.out, List.drop_of_length_le (by rw [Hn.out]; exact Nat.le_refl _)]
    rfl
   have He := Lib.hid (runsK_some hsome)
   clear hsome
   go_wp2_with fail
   go_ret2
   rw [He.out.1, He.out.2]
   exact ⟨rfl, Hb.out⟩
end Go.Proofs.YtcadjekcdokkjaaGreat
namespace Go.Proofs.YtcadjekcdokkjaaGreat
set_option linter.unusedVariables false
set_option linter.unusedSimpArgs false
open Go.RowKit
attribute [local go_sem ↓] Go.wp_at_zero Go.wp_at_succ
theorem Own.below_set {w : World} {base : Nat} {e : TypeId} {g n c : Nat} {xs : List Value} (h : Own w base e 1 (some ⟨g, 0, none⟩) n c xs) {M : Nat} (hM : M ≤ base) {w0 : World} (hb : Below M w0 w) (i : Nat) (u : Value) : Below M w0 (w.setCell ⟨g, i, none⟩ u) := by
 obtain ⟨hg, ys, hy⟩ := Own.type h rfl
 exact hb.trans ((Turns.setCell (S := fun k => k = g) (T := []) (B := M) w (g := g) (i := i) rfl u).below (fun k hk => by omega) (by have := hb.size; have := hy.lt; omega) (Nat.le_refl _))
theorem ints_last {l : List Nat} {k : Nat} (h : l.length = k + 1) : ∃ z, (Is l)[k]? = some (.int .i64 (z : Nat)) ∧ z ∈ l ∧ ∀ y : Nat, (Is l).set k (.int .i64 (y : Int)) = Is (l.set k y) := by
 have hk : k < l.length := by omega
 refine ⟨l[k], by simp [List.getElem?_eq_getElem hk], List.getElem_mem hk, fun y => by simp [List.map_set]⟩
def CutsOut (w : World) (room : Nat) (rs : List RowM) (e : Ending) (w' : World) : Prop := ∃ A c, e = .returned (.tuple #[.slice A (runsK room rs) c, .int .i64 (runsE room rs)]) ∧ Below w.heap.size w w'
set_option maxHeartbeats 8000000 in
set_option maxRecDepth 100000 in
theorem rcuts_any (rs : List RowM) (hs : List Value) (n c : Nat) (A : Option Addr) (room : Nat) (w : World) (hn : rs.length = n) (hA : Rd w A hs) (hR : Rows w hs rs) (hn1 : n ≤ 1000000) (hrm : room ≤ 1000000000000) (hrw : ∀ r ∈ rs, rowC r ≤ 1000000000000 ∧ r.length ≤ 1000000) :
  Calls Tryz.prog 42 #[.slice A n c, .int .i64 (room : Int)] w fun e w' => CutsOut w room rs e w' := by
 have Hn := Lib.hid hn
 have HA := Lib.hid hA
 have HR := Lib.hid hR
 have Hrw := Lib.hid hrw
 clear hn hA hR hrw
 go_enter Tryz.func42, Tryz.ntmps42
 go_wp2_with fail
 go_loopw [6, 7, 8] (fun vn vl vi wr => ∃ (j k l : Nat) (L : List Nat) (LA : Option Addr) (lc : Nat), j ≤ n ∧ k ≤ j ∧ l ≤ 1000000000000 ∧ vi = .int .i64 (j : Int) ∧ vn = .slice LA k lc ∧ vl = .int .i64 (l : Int) ∧ Hid (runsF room k l (rs.drop j) = runsN room rs) ∧ Hid (Below w.heap.size w wr) ∧ Own wr w.heap.size 3 1 LA k lc (Is L) ∧ L.length = k ∧ ∀ z ∈ L, z ≤ j) (fun _ _ i _ => n - (intOf i).toNat)
 case atStart => exact ⟨0, 0, 0, [], none, 0, by omega, by omega, by omega, by go_num, by go_num, by go_num, rfl, Below.refl _ _, Own.nil _ _ _ _, rfl, fun z hz => by cases hz⟩
 case round =>
  obtain ⟨j, k, l, L, LA, lc, hj, hk, hl, rfl, rfl, rfl, hF, Hb, hO, hLl, hLz⟩ := hrel
  by_cases hlt : j < n
  ·obtain ⟨r, hr⟩ : ∃ r, rs[j]? = some r := ⟨_, List.getElem?_eq_getElem (by rw [Hn.out]; exact hlt)⟩
   obtain ⟨b, o, E, d, rfl, c0, hE⟩ := rows_at (HA.out.below Hb.out) (HR.out.below Hb.out) hr
   have hst := runsF_drop (room := room) (n := k) (left := l) hr
   rw [hF.out] at hst
   obtain ⟨hr1, hr2⟩ := Hrw.out r (List.mem_of_getElem? hr)
   have hcall := Lib.hid (rrow6_any r r.length d E wr rfl hE hr1 (by omega))
   obtain ⟨RL, hRL⟩ : ∃ L, L = r.length := ⟨_, rfl⟩
   obtain ⟨C, hC⟩ : ∃ C, C = rowC r := ⟨_, rfl⟩
   rw [← hRL] at c0 hcall
   rw [← hC] at hst hcall hr1
   have Hst := Lib.hid hst
   have HO := Lib.hid hO
   have HLz := Lib.hid hLz
   clear hst hE hRL hC hF hr2 hr hO hLz
   by_cases h1 : room < C
   ·have hnone : runsN room rs = none := by rw [Hst.out, if_pos h1]
    have He := Lib.hid (runsK_none hnone)
    clear hnone
    go_wp2_with fail
    refine hcall.out.mono ?_
    rintro e w2 ⟨rfl, hb2⟩
    have Hb2 := Lib.hid (Hb.out.trans (hb2.mono Hb.out.size))
    clear hb2
    go_wp2_with fail
    go_ret2
    exact ⟨none, 0, by rw [He.out.1, He.out.2]; rfl, Hb2.out⟩
   ·by_cases h2 : k = 0 ∨ l < C
    ·have hnx : Hid (runsF room (k + 1) (room - C) (rs.drop (j + 1)) = runsN room rs) := by show _ = _; rw [Hst.out, if_neg h1, if_pos h2]
     have h3 : k = 0 ∨ (¬ ((k : Int) = 0) ∧ l < C) := by omega
     clear h2
     rcases h3 with h3 | ⟨h3, h4⟩
     ·subst h3
      go_wp2_with fail
      refine hcall.out.mono ?_
      rintro e w2 ⟨rfl, hb2⟩
      have Hb2 := Lib.hid (Hb.out.trans (hb2.mono Hb.out.size))
      have HO2 := Lib.hid (Own.below HO.out hb2)
      clear hb2 hcall HO
      go_wp2_with (first | (at_builtin; refine hold ?_) | (at_make; refine hold ?_))
      (with_reducible refine unhold ?_)
      have hbA : Below w2.heap.size w2 (w2.alloc (.cells #[.int .i64 0] 3)) := (Below.refl _ _).alloc (Nat.le_refl _) _
      have hOA := Own.below HO2.out hbA
      have HbA := Hb2.out.trans (hbA.mono Hb2.out.size)
      refine wpList_apd rfl (.tmp 32) (.tmp 33) 57 rfl Eint w.heap.size LA 0 lc (Is L) (by simp [Act.eval, Act.put]) hOA (some ⟨w2.heap.size, 0, none⟩) 1 1 [.int .i64 0] (by simp [Act.eval, Act.put]) rfl (Rd.of_blk (Blk.new w2 3 #[.int .i64 0])) (by simp [Value.oneCell']) 1 rfl (Is (L ++ [0])) (by simp) (by omega) (by omega) HbA.size ?_
      intro A4 c4 w4 ho4 hg4 hat4
      have hL0 : Hid (∀ z ∈ L ++ [0], z ≤ j) := fun z hz => by
       rcases List.mem_append.1 hz with h | h
       ·exact HLz.out z h
       ·rw [List.mem_singleton.1 h]; omega
      have hb4 := HbA.grown hg4 HbA.size hOA.row_ge
      obtain ⟨gb, rfl⟩ : ∃ gb, A4 = some ⟨gb, 0, none⟩ := by
       rcases Own.lies ho4 with ⟨_, hx, _⟩ | ⟨g', cur, ha, _⟩
       ·omega
       ·exact ⟨g', ha⟩
      have hkI : IntKind.i64.wrap (0 : Int) = (0 : Int) := by rw [IntKind.wrap_i64]; omega
      have hkI2 : IntKind.i64.wrap (((1 : Nat) : Int) - 1) = (0 : Int) := by rw [IntKind.wrap_i64]; omega
      have hpI : (0 : Int) < ((1 : Nat) : Int) := by omega
      have hpI0 : (0 : Int) ≤ (0 : Int) := by omega
      obtain ⟨z, hz1, hz2, hset⟩ := ints_last (l := (L ++ [0])) (k := 0) (by simp [hLl])
      have hzz : z ≤ j := by exact hL0.out z hz2
      obtain ⟨q0, qf⟩ := Own.cell1 ho4 hz1
      have hfin := Own.set1 ho4 (i := 0) (by omega) (.int .i64 ((z + 1 : Nat) : Int))
      rw [hset] at hfin
      have hbfin := Own.below_set ho4 (Nat.le_refl _) hb4 0 (.int .i64 ((z + 1 : Nat) : Int))
      have Hfin := Lib.hid hfin
      have Hbfin := Lib.hid hbfin
      have Hz : Hid (∀ y ∈ (L ++ [0]).set 0 (z + 1), y ≤ j + 1) := fun y hy => by
       rcases List.mem_or_eq_of_mem_set hy with hy | rfl
       ·have : y ≤ j := by exact hL0.out y hy
        omega
       ·omega
      clear hfin hbfin hset ho4 hg4 hat4 hb4 hOA HbA hbA hz1 hz2
      go_wp2_with fail
      go_roundw
      case rel => exact ⟨j + 1, (1 : Nat), room - C, (L ++ [0]).set 0 (z + 1), some ⟨gb, 0, none⟩, c4, by omega, by omega, by omega, by go_num, by go_num, by go_num, hnx, Hbfin, (by exact Hfin.out), by rw [List.length_set]; simp [hLl], Hz.out⟩
      case measure => simp [intOf]; omega
     ·skip
      go_wp2_with fail
      refine hcall.out.mono ?_
      rintro e w2 ⟨rfl, hb2⟩
      have Hb2 := Lib.hid (Hb.out.trans (hb2.mono Hb.out.size))
      have HO2 := Lib.hid (Own.below HO.out hb2)
      clear hb2 hcall HO
      go_wp2_with (first | (at_builtin; refine hold ?_) | (at_make; refine hold ?_))
      (with_reducible refine unhold ?_)
      have hbA : Below w2.heap.size w2 (w2.alloc (.cells #[.int .i64 0] 3)) := (Below.refl _ _).alloc (Nat.le_refl _) _
      have hOA := Own.below HO2.out hbA
      have HbA := Hb2.out.trans (hbA.mono Hb2.out.size)
      refine wpList_apd rfl (.tmp 32) (.tmp 33) 57 rfl Eint w.heap.size LA k lc (Is L) (by simp [Act.eval, Act.put]) hOA (some ⟨w2.heap.size, 0, none⟩) 1 1 [.int .i64 0] (by simp [Act.eval, Act.put]) rfl (Rd.of_blk (Blk.new w2 3 #[.int .i64 0])) (by simp [Value.oneCell']) (k + 1) rfl (Is (L ++ [0])) (by simp) (by omega) (by omega) HbA.size ?_
      intro A4 c4 w4 ho4 hg4 hat4
      have hL0 : Hid (∀ z ∈ L ++ [0], z ≤ j) := fun z hz => by
       rcases List.mem_append.1 hz with h | h
       ·exact HLz.out z h
       ·rw [List.mem_singleton.1 h]; omega
      have hb4 := HbA.grown hg4 HbA.size hOA.row_ge
      obtain ⟨gb, rfl⟩ : ∃ gb, A4 = some ⟨gb, 0, none⟩ := by
       rcases Own.lies ho4 with ⟨_, hx, _⟩ | ⟨g', cur, ha, _⟩
       ·omega
       ·exact ⟨g', ha⟩
      have hkI : IntKind.i64.wrap (k : Int) = (k : Int) := by rw [IntKind.wrap_i64]; omega
      have hkI2 : IntKind.i64.wrap (((k + 1 : Nat) : Int) - 1) = (k : Int) := by rw [IntKind.wrap_i64]; omega
      have hpI : (k : Int) < ((k + 1 : Nat) : Int) := by omega
      have hpI0 : (0 : Int) ≤ (k : Int) := by omega
      obtain ⟨z, hz1, hz2, hset⟩ := ints_last (l := (L ++ [0])) (k := k) (by simp [hLl])
      have hzz : z ≤ j := by exact hL0.out z hz2
      obtain ⟨q0, qf⟩ := Own.cell1 ho4 hz1
      have hfin := Own.set1 ho4 (i := k) (by omega) (.int .i64 ((z + 1 : Nat) : Int))
      rw [hset] at hfin
      have hbfin := Own.below_set ho4 (Nat.le_refl _) hb4 k (.int .i64 ((z + 1 : Nat) : Int))
      have Hfin := Lib.hid hfin
      have Hbfin := Lib.hid hbfin
      have Hz : Hid (∀ y ∈ (L ++ [0]).set k (z + 1), y ≤ j + 1) := fun y hy => by
       rcases List.mem_or_eq_of_mem_set hy with hy | rfl
       ·have : y ≤ j := by exact hL0.out y hy
        omega
       ·omega
      clear hfin hbfin hset ho4 hg4 hat4 hb4 hOA HbA hbA hz1 hz2
      go_wp2_with fail
      go_roundw
      case rel => exact ⟨j + 1, (k + 1 : Nat), room - C, (L ++ [0]).set k (z + 1), some ⟨gb, 0, none⟩, c4, by omega, by omega, by omega, by go_num, by go_num, by go_num, hnx, Hbfin, (by exact Hfin.out), by rw [List.length_set]; simp [hLl], Hz.out⟩
      case measure => simp [intOf]; omega
    ·have hnx : Hid (runsF room k (l - C) (rs.drop (j + 1)) = runsN room rs) := by show _ = _; rw [Hst.out, if_neg h1, if_neg h2]
     have h3 : ¬ ((k : Int) = 0) := by omega
     have h4 : ¬ (l < C) := by omega
     clear h2
     go_wp2_with fail
     refine hcall.out.mono ?_
     rintro e w2 ⟨rfl, hb2⟩
     have Hb2 := Lib.hid (Hb.out.trans (hb2.mono Hb.out.size))
     have HO2 := Lib.hid (Own.below HO.out hb2)
     clear hb2 hcall HO
     obtain ⟨p, rfl⟩ : ∃ p, k = p + 1 := ⟨k - 1, by omega⟩
     obtain ⟨gb, rfl⟩ : ∃ gb, LA = some ⟨gb, 0, none⟩ := by
      rcases Own.lies HO2.out with ⟨_, hx, _⟩ | ⟨g', cur, ha, _⟩
      ·omega
      ·exact ⟨g', ha⟩
     have hkI : IntKind.i64.wrap (p : Int) = (p : Int) := by rw [IntKind.wrap_i64]; omega
     have hkI2 : IntKind.i64.wrap (((p + 1 : Nat) : Int) - 1) = (p : Int) := by rw [IntKind.wrap_i64]; omega
     have hpI : (p : Int) < ((p + 1 : Nat) : Int) := by omega
     have hpI0 : (0 : Int) ≤ (p : Int) := by omega
     obtain ⟨z, hz1, hz2, hset⟩ := ints_last (l := L) (k := p) (by omega)
     have hzz : z ≤ j := by exact HLz.out z hz2
     obtain ⟨q0, qf⟩ := Own.cell1 HO2.out hz1
     have hfin := Own.set1 HO2.out (i := p) (by omega) (.int .i64 ((z + 1 : Nat) : Int))
     rw [hset] at hfin
     have hbfin := Own.below_set HO2.out (Nat.le_refl _) Hb2.out p (.int .i64 ((z + 1 : Nat) : Int))
     have Hfin := Lib.hid hfin
     have Hbfin := Lib.hid hbfin
     have Hz : Hid (∀ y ∈ L.set p (z + 1), y ≤ j + 1) := fun y hy => by
      rcases List.mem_or_eq_of_mem_set hy with hy | rfl
      ·have : y ≤ j := by exact HLz.out y hy
       omega
      ·omega
     clear hfin hbfin hset hz1 hz2
     go_wp2_with fail
     go_roundw
     case rel => exact ⟨j + 1, (p + 1 : Nat), l - C, L.set p (z + 1), some ⟨gb, 0, none⟩, lc, by omega, by omega, by omega, by go_num, by go_num, by go_num, hnx, Hbfin, (by exact Hfin.out), by rw [List.length_set]; omega, Hz.out⟩
     case measure => simp [intOf]; omega
  ·obtain rfl : n = j := by omega
   have hsome : runsN room rs = some k := by
    rw [← hF.out, List.drop_of_length_le (by rw [Hn.out]; exact Nat.le_refl _)]
    rfl
   have He := Lib.hid (runsK_some hsome)
   clear hsome
   go_wp2_with fail
   go_ret2
   exact ⟨LA, lc, by rw [He.out.1, He.out.2]; rfl, Hb.out⟩
end Go.Proofs.YtcadjekcdokkjaaGreat
