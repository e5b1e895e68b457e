/- The walks of package pages, on: writes, reads and spoils of one page. -/
import Derived.Test.YtjjmnjgkodiibaaMPagW
namespace Go.Proofs.Ytjjmnjgkodiibaa
open Go.RowKit

attribute [local go_sem ↓] Go.wp_at_zero Go.wp_at_succ

theorem write_no (B bs bp : Nat) (qs : List (Option Nat)) (s : Pg.St) (u : Int) (i : Int) (A : Option Addr) (n c : Nat) (w : World) (h : StoAt w B bs bp qs s u) (h1 : -9223372036854775808 ≤ i) (h2 : i ≤ 9223372036854775807) (hi : Pg.at_ s i = none) :
    Calls Try.prog 69 #[.pointer (some ⟨bs, 0, none⟩), .int .i64 i, .slice A n c] w fun e w' => e = .returned (.int .i64 2) ∧ w = w' := by
  go_enter Try.func69, Try.ntmps69
  go_wp2_with fail
  refine (at_any B bs bp qs s u i w h h1 h2).mono ?_
  rintro e w' ⟨rfl, rfl⟩
  rw [h.ptr_none hi]
  unfold ptrV
  go_wp2
  go_ret
  exact ⟨rfl, rfl⟩

theorem write_long (B bs bp : Nat) (qs : List (Option Nat)) (s : Pg.St) (u : Int) (i : Int) (l : List UInt8) (A : Option Addr) (n c : Nat) (w : World) (h : StoAt w B bs bp qs s u) (h1 : -9223372036854775808 ≤ i) (h2 : i ≤ 9223372036854775807) (hi : Pg.at_ s i = some l) (hn : 56 < n) :
    Calls Try.prog 69 #[.pointer (some ⟨bs, 0, none⟩), .int .i64 i, .slice A n c] w fun e w' => e = .returned (.int .i64 3) ∧ w = w' := by
  obtain ⟨k, g, rfl, hk, hs, hq, hpt, hg, hbk, hl⟩ := h.ptr_some hi
  have Hp := Lib.hid hpt
  clear hpt hs hq hi hbk
  go_enter Try.func69, Try.ntmps69
  go_wp2_with fail
  refine (at_any B bs bp qs s u k w h h1 h2).mono ?_
  rintro e w' ⟨rfl, rfl⟩
  rw [Hp.out]
  unfold ptrV
  go_wp2
  go_ret
  exact ⟨rfl, rfl⟩

theorem clone_any (b o : Nat) (l : List UInt8) (n c : Nat) (w : World) (hn : l.length = n) (hr : w.rangeAt b o (Bs l)) (hl : n ≤ 1000000) :
    Calls Try.prog 55 #[.slice (some ⟨b, o, none⟩) n c] w fun e w' => ∃ A' c', e = .returned (.slice A' n c') ∧ Own w' w.heap.size 5 1 A' n c' (Bs l) ∧ Below w.heap.size w w' := by
  subst hn
  have hq := fun w => Lib.run_eql_slice_nil (P := Try.prog) w 58 5 (some ⟨b, o, none⟩) l.length c 0 0 Try.underlying58
  go_enter Try.func55, Try.ntmps55
  go_wp2_with (first | (at_builtin; refine hold ?_) | (at_make; refine hold ?_))
  (with_reducible refine unhold ?_)
  have hr1 := (Rd.of_range hr).alloc (.cells #[] 5)
  have ho1 : Own (w.alloc (.cells #[] 5)) w.heap.size 5 1 (some ⟨w.heap.size, 0, none⟩) 0 0 [] := World.ownsRow_made w #[] 0 (Nat.le_refl _) (by unfold maxLen; omega) rfl
  refine wpList_apd rfl _ _ _ rfl E8 w.heap.size _ 0 _ [] rfl ho1 _ l.length c (Bs l) rfl (by simp) hr1 (Bs_one l) l.length (by omega) (Bs l) rfl (by omega) (by omega) (by simp) ?_
  intro A2 c2 w2 ho2 hg2 hat2
  have hb2 : Below w.heap.size w w2 := ((Below.refl _ _).alloc (Nat.le_refl _) _).grown hg2 (by simp) ho1.row_ge
  go_wp2_with fail
  go_ret
  exact ⟨A2, c2, rfl, ho2, hb2⟩

/-- What a read gives of a page's bytes. -/
theorem raw_yes (B bs bp : Nat) (qs : List (Option Nat)) (s : Pg.St) (u : Int) (i : Int) (l : List UInt8) (w : World) (h : StoAt w B bs bp qs s u) (h1 : -9223372036854775808 ≤ i) (h2 : i ≤ 9223372036854775807) (hi : Pg.at_ s i = some l) :
    Calls Try.prog 27 #[.pointer (some ⟨bs, 0, none⟩), .int .i64 i] w fun e w' => ∃ A' c', e = .returned (.tuple #[.slice A' 64 c', .int .i64 0]) ∧ Own w' w.heap.size 5 1 A' 64 c' (Bs l) ∧ Below w.heap.size w w' := by
  obtain ⟨k, g, rfl, hk, hs, hq, hpt, hg, hbk, hl⟩ := h.ptr_some hi
  have Hp := Lib.hid hpt
  have Hb := Lib.hid hbk
  have Hl := Lib.hid hl
  clear hpt hs hq hi hbk hl
  go_enter Try.func27, Try.ntmps27
  go_wp2_with fail
  refine (at_any B bs bp qs s u k w h h1 h2).mono ?_
  rintro e w' ⟨rfl, rfl⟩
  rw [Hp.out]
  unfold ptrV
  go_wp2_with fail
  refine (clone_any g 0 l 64 64 w Hl.out Hb.out.range (by omega)).mono ?_
  rintro e w' ⟨A', c', rfl, ho, hb⟩
  go_wp2_with fail
  go_ret2
  exact ⟨A', c', rfl, ho, hb⟩

theorem raw_no (B bs bp : Nat) (qs : List (Option Nat)) (s : Pg.St) (u : Int) (i : Int) (w : World) (h : StoAt w B bs bp qs s u) (h1 : -9223372036854775808 ≤ i) (h2 : i ≤ 9223372036854775807) (hi : Pg.at_ s i = none) :
    Calls Try.prog 27 #[.pointer (some ⟨bs, 0, none⟩), .int .i64 i] w fun e w' => e = .returned (.tuple #[.slice none 0 0, .int .i64 2]) ∧ w = w' := by
  go_enter Try.func27, Try.ntmps27
  go_wp2_with fail
  refine (at_any B bs bp qs s u i w h h1 h2).mono ?_
  rintro e w' ⟨rfl, rfl⟩
  rw [h.ptr_none hi]
  unfold ptrV
  go_wp2
  go_ret2
  exact ⟨rfl, rfl⟩

theorem read_no (B bs bp : Nat) (qs : List (Option Nat)) (s : Pg.St) (u : Int) (i : Int) (w : World) (h : StoAt w B bs bp qs s u) (h1 : -9223372036854775808 ≤ i) (h2 : i ≤ 9223372036854775807) (hi : Pg.at_ s i = none) :
    Calls Try.prog 39 #[.pointer (some ⟨bs, 0, none⟩), .int .i64 i] w fun e w' => e = .returned (.tuple #[.slice none 0 0, .int .i64 2]) ∧ w = w' := by
  go_enter Try.func39, Try.ntmps39
  go_wp2_with fail
  refine (at_any B bs bp qs s u i w h h1 h2).mono ?_
  rintro e w' ⟨rfl, rfl⟩
  rw [h.ptr_none hi]
  unfold ptrV
  go_wp2
  go_ret2
  exact ⟨rfl, rfl⟩

set_option maxRecDepth 100000 in
theorem read_yes (B bs bp : Nat) (qs : List (Option Nat)) (s : Pg.St) (u : Int) (i : Int) (l : List UInt8) (w : World) (h : StoAt w B bs bp qs s u) (h1 : -9223372036854775808 ≤ i) (h2 : i ≤ 9223372036854775807) (hi : Pg.at_ s i = some l) (hok : Pg.page i.toNat (l.take 56) = l) :
    Calls Try.prog 39 #[.pointer (some ⟨bs, 0, none⟩), .int .i64 i] w fun e w' => ∃ A' c', e = .returned (.tuple #[.slice A' 56 c', .int .i64 0]) ∧ Own w' w.heap.size 5 1 A' 56 c' (Bs (l.take 56)) ∧ Below w.heap.size w w' := by
  obtain ⟨k, g, rfl, hk, hs, hq, hpt, hg, hbk, hl⟩ := h.ptr_some hi
  rw [Int.toNat_natCast] at hok
  have hm := h.most
  have Hp := Lib.hid hpt
  have Hb := Lib.hid hbk
  have Hl := Lib.hid hl
  have Hok := Lib.hid hok
  have hgt : Try.prog.eqGuardType Try.prog.depth 115 = false := by kernel_rfl
  clear hpt hs hq hi hbk hl hok
  go_enter Try.func39, Try.ntmps39
  go_wp2_with fail
  refine (at_any B bs bp qs s u k w h h1 h2).mono ?_
  rintro e w' ⟨rfl, rfl⟩
  rw [Hp.out]
  unfold ptrV
  go_wp2_with fail
  refine wp_region_held_drew (S := fun w' => w'.rangeAt g 0 (Bs l)) (by kernel_rfl) (by exact Hb.out.range) (fun hHeld => ?_)
  (refine wpAnyH_take (i := 0) (oi := _) (v := ?_) rfl (by kernel_rfl) (by kernel_rfl) (by kernel_rfl) (fun _ _ _ h => h) (Or.inl ⟨by rfl, ?_⟩) (by assumption) ?_; rotate_left; (intro w hSw; go_simp; with_reducible rfl); (try simp only [Act.put, List.setIfInBounds_toArray, List.set_cons_zero, List.set_cons_succ]))
  (refine wpAnyH_take (i := 1) (oi := _) (v := ?_) rfl (by kernel_rfl) (by kernel_rfl) (by kernel_rfl) (fun _ _ _ h => h) (Or.inl ⟨by rfl, ?_⟩) (by assumption) ?_; rotate_left; (intro w hSw; go_simp; with_reducible rfl); (try simp only [Act.put, List.setIfInBounds_toArray, List.set_cons_zero, List.set_cons_succ]))
  (refine wpAnyH_take (i := 5) (oi := _) (v := ?_) rfl (by kernel_rfl) (by kernel_rfl) (by kernel_rfl) (fun _ _ _ h => h) (Or.inl ⟨by rfl, ?_⟩) (by assumption) ?_; rotate_left; (intro w hSw; go_simp; with_reducible rfl); (try simp only [Act.put, List.setIfInBounds_toArray, List.set_cons_zero, List.set_cons_succ]))
  (refine wpAnyH_take (i := 6) (oi := _) (v := ?_) rfl (by kernel_rfl) (by kernel_rfl) (by kernel_rfl) (fun _ _ _ h => h) (Or.inl ⟨by rfl, ?_⟩) (by assumption) ?_; rotate_left; (intro w hSw; go_simp; with_reducible rfl); (try simp only [Act.put, List.setIfInBounds_toArray, List.set_cons_zero, List.set_cons_succ]))
  refine wpAnyH_take (i := 7) (oi := _) (v := _) rfl (by kernel_rfl) (by kernel_rfl) (by kernel_rfl) (fun _ _ _ h => h) (yieldsIf_load_mid (by rfl) _ _ rfl g 0 rfl (Bs l) _ (fun w' hw' => hw') Try.underlying115 rfl (by rw [List.length_map, Hl.out]; kernel_rfl)) (by assumption) ?_
  (try simp only [Act.put, List.setIfInBounds_toArray, List.set_cons_zero, List.set_cons_succ])
  refine wpAnyH_ready (rs := [2]) (by kernel_rfl) (by simp) (AllReadyH.cons rfl (fun K hK => ?_) AllReadyH.nil)
  go_simp
  refine (lay_any k (some ⟨g, 0, none⟩) (l.take 56) 56 64 _ (by rw [List.length_take, Hl.out]; rfl) (Rd.of_range (by have := Rd.part Hb.out.range 0 56; rwa [List.drop_zero, ← List.map_take] at this)) (by omega) (by omega)).mono ?_
  rintro e w1 ⟨g1, rfl, hg1, hk1, hb1⟩
  have hbw : Below w.heap.size w w1 := ⟨hb1.os, hb1.tape, hb1.output, hb1.size, hb1.block⟩
  have hS1 : w1.rangeAt g 0 (Bs l) := (Hb.out.below hbw).range
  have hlp := Pg.length_page k (l := l.take 56) (by rw [List.length_take]; omega)
  have heq := fun w => run_eq_bytes (P := Try.prog) Try.underlying115 Try.underlying5 (by kernel_rfl) (Pg.page k (l.take 56)) l hlp Hl.out 9998 w
  refine hK.out _ _ hS1 (fun hS1' => ?_)
  clear hK K
  (try simp only [Act.put, List.setIfInBounds_toArray, List.set_cons_zero, List.set_cons_succ])
  (refine wpAnyH_take (i := 3) (oi := _) (v := ?_) rfl (by kernel_rfl) (by kernel_rfl) (by kernel_rfl) (fun _ _ _ h => h) (Or.inl ⟨by rfl, ?_⟩) (by assumption) ?_; rotate_left; (intro w hSw; go_simp; with_reducible rfl); (try simp only [Act.put, List.setIfInBounds_toArray, List.set_cons_zero, List.set_cons_succ]))
  refine wpAnyH_ready (rs := [4]) (by kernel_rfl) (by simp) (AllReadyH.cons rfl (fun K hK => ?_) AllReadyH.nil)
  rw [if_pos (by rfl)]
  refine wp_load_mid _ _ rfl g1 0 rfl (Bs (Pg.page k (l.take 56))) _ hk1.range Try.underlying115 rfl (by rw [List.length_map, hlp]; kernel_rfl) ?_
  (try simp only [Act.put, List.setIfInBounds_toArray, List.set_cons_zero, List.set_cons_succ])
  refine hK.out _ _ hS1 (fun hS2 => ?_)
  clear hK K
  (refine wpAnyH_take (i := 8) (oi := _) (v := ?_) rfl (by kernel_rfl) (by kernel_rfl) (by kernel_rfl) (fun _ _ _ h => h) (Or.inl ⟨by rfl, ?_⟩) (by assumption) ?_; rotate_left; (intro w hSw; go_simp; with_reducible rfl); (try simp only [Act.put, List.setIfInBounds_toArray, List.set_cons_zero, List.set_cons_succ]))
  refine wpAnyH_done (by kernel_rfl) ?_ _
  rw [decide_eq_true Hok.out]
  go_wp2_with fail
  refine (clone_any g 0 (l.take 56) 56 64 w1 (by rw [List.length_take, Hl.out]; rfl) (by have := Rd.part hS1 0 56; rwa [List.drop_zero, ← List.map_take] at this) (by omega)).mono ?_
  rintro e w2 ⟨A', c', rfl, ho, hb⟩
  go_wp2_with fail
  go_ret2
  exact ⟨A', c', rfl, ho.lower hbw.size, hbw.trans (hb.mono hbw.size)⟩

set_option maxRecDepth 100000 in
theorem read_bad (B bs bp : Nat) (qs : List (Option Nat)) (s : Pg.St) (u : Int) (i : Int) (l : List UInt8) (w : World) (h : StoAt w B bs bp qs s u) (h1 : -9223372036854775808 ≤ i) (h2 : i ≤ 9223372036854775807) (hi : Pg.at_ s i = some l) (hok : Pg.page i.toNat (l.take 56) ≠ l) :
    Calls Try.prog 39 #[.pointer (some ⟨bs, 0, none⟩), .int .i64 i] w fun e w' => e = .returned (.tuple #[.slice none 0 0, .int .i64 6]) ∧ Below w.heap.size w w' := by
  obtain ⟨k, g, rfl, hk, hs, hq, hpt, hg, hbk, hl⟩ := h.ptr_some hi
  rw [Int.toNat_natCast] at hok
  have hm := h.most
  have Hp := Lib.hid hpt
  have Hb := Lib.hid hbk
  have Hl := Lib.hid hl
  have Hok := Lib.hid hok
  have hgt : Try.prog.eqGuardType Try.prog.depth 115 = false := by kernel_rfl
  clear hpt hs hq hi hbk hl hok
  go_enter Try.func39, Try.ntmps39
  go_wp2_with fail
  refine (at_any B bs bp qs s u k w h h1 h2).mono ?_
  rintro e w' ⟨rfl, rfl⟩
  rw [Hp.out]
  unfold ptrV
  go_wp2_with fail
  refine wp_region_held_drew (S := fun w' => w'.rangeAt g 0 (Bs l)) (by kernel_rfl) (by exact Hb.out.range) (fun hHeld => ?_)
  (refine wpAnyH_take (i := 0) (oi := _) (v := ?_) rfl (by kernel_rfl) (by kernel_rfl) (by kernel_rfl) (fun _ _ _ h => h) (Or.inl ⟨by rfl, ?_⟩) (by assumption) ?_; rotate_left; (intro w hSw; go_simp; with_reducible rfl); (try simp only [Act.put, List.setIfInBounds_toArray, List.set_cons_zero, List.set_cons_succ]))
  (refine wpAnyH_take (i := 1) (oi := _) (v := ?_) rfl (by kernel_rfl) (by kernel_rfl) (by kernel_rfl) (fun _ _ _ h => h) (Or.inl ⟨by rfl, ?_⟩) (by assumption) ?_; rotate_left; (intro w hSw; go_simp; with_reducible rfl); (try simp only [Act.put, List.setIfInBounds_toArray, List.set_cons_zero, List.set_cons_succ]))
  (refine wpAnyH_take (i := 5) (oi := _) (v := ?_) rfl (by kernel_rfl) (by kernel_rfl) (by kernel_rfl) (fun _ _ _ h => h) (Or.inl ⟨by rfl, ?_⟩) (by assumption) ?_; rotate_left; (intro w hSw; go_simp; with_reducible rfl); (try simp only [Act.put, List.setIfInBounds_toArray, List.set_cons_zero, List.set_cons_succ]))
  (refine wpAnyH_take (i := 6) (oi := _) (v := ?_) rfl (by kernel_rfl) (by kernel_rfl) (by kernel_rfl) (fun _ _ _ h => h) (Or.inl ⟨by rfl, ?_⟩) (by assumption) ?_; rotate_left; (intro w hSw; go_simp; with_reducible rfl); (try simp only [Act.put, List.setIfInBounds_toArray, List.set_cons_zero, List.set_cons_succ]))
  refine wpAnyH_take (i := 7) (oi := _) (v := _) rfl (by kernel_rfl) (by kernel_rfl) (by kernel_rfl) (fun _ _ _ h => h) (yieldsIf_load_mid (by rfl) _ _ rfl g 0 rfl (Bs l) _ (fun w' hw' => hw') Try.underlying115 rfl (by rw [List.length_map, Hl.out]; kernel_rfl)) (by assumption) ?_
  (try simp only [Act.put, List.setIfInBounds_toArray, List.set_cons_zero, List.set_cons_succ])
  refine wpAnyH_ready (rs := [2]) (by kernel_rfl) (by simp) (AllReadyH.cons rfl (fun K hK => ?_) AllReadyH.nil)
  go_simp
  refine (lay_any k (some ⟨g, 0, none⟩) (l.take 56) 56 64 _ (by rw [List.length_take, Hl.out]; rfl) (Rd.of_range (by have := Rd.part Hb.out.range 0 56; rwa [List.drop_zero, ← List.map_take] at this)) (by omega) (by omega)).mono ?_
  rintro e w1 ⟨g1, rfl, hg1, hk1, hb1⟩
  have hbw : Below w.heap.size w w1 := ⟨hb1.os, hb1.tape, hb1.output, hb1.size, hb1.block⟩
  have hS1 : w1.rangeAt g 0 (Bs l) := (Hb.out.below hbw).range
  have hlp := Pg.length_page k (l := l.take 56) (by rw [List.length_take]; omega)
  have heq := fun w => run_eq_bytes (P := Try.prog) Try.underlying115 Try.underlying5 (by kernel_rfl) (Pg.page k (l.take 56)) l hlp Hl.out 9998 w
  refine hK.out _ _ hS1 (fun hS1' => ?_)
  clear hK K
  (try simp only [Act.put, List.setIfInBounds_toArray, List.set_cons_zero, List.set_cons_succ])
  (refine wpAnyH_take (i := 3) (oi := _) (v := ?_) rfl (by kernel_rfl) (by kernel_rfl) (by kernel_rfl) (fun _ _ _ h => h) (Or.inl ⟨by rfl, ?_⟩) (by assumption) ?_; rotate_left; (intro w hSw; go_simp; with_reducible rfl); (try simp only [Act.put, List.setIfInBounds_toArray, List.set_cons_zero, List.set_cons_succ]))
  refine wpAnyH_ready (rs := [4]) (by kernel_rfl) (by simp) (AllReadyH.cons rfl (fun K hK => ?_) AllReadyH.nil)
  rw [if_pos (by rfl)]
  refine wp_load_mid _ _ rfl g1 0 rfl (Bs (Pg.page k (l.take 56))) _ hk1.range Try.underlying115 rfl (by rw [List.length_map, hlp]; kernel_rfl) ?_
  (try simp only [Act.put, List.setIfInBounds_toArray, List.set_cons_zero, List.set_cons_succ])
  refine hK.out _ _ hS1 (fun hS2 => ?_)
  clear hK K
  (refine wpAnyH_take (i := 8) (oi := _) (v := ?_) rfl (by kernel_rfl) (by kernel_rfl) (by kernel_rfl) (fun _ _ _ h => h) (Or.inl ⟨by rfl, ?_⟩) (by assumption) ?_; rotate_left; (intro w hSw; go_simp; with_reducible rfl); (try simp only [Act.put, List.setIfInBounds_toArray, List.set_cons_zero, List.set_cons_succ]))
  refine wpAnyH_done (by kernel_rfl) ?_ _
  rw [decide_eq_false Hok.out]
  go_wp2_with fail
  go_ret2
  exact ⟨rfl, hbw⟩

theorem flip_no (B bs bp : Nat) (qs : List (Option Nat)) (s : Pg.St) (u : Int) (i j : Int) (m : UInt8) (w : World) (h : StoAt w B bs bp qs s u) (h1 : -9223372036854775808 ≤ i) (h2 : i ≤ 9223372036854775807) (hi : Pg.at_ s i = none ∨ j < 0 ∨ 64 ≤ j) :
    Calls Try.prog 34 #[.pointer (some ⟨bs, 0, none⟩), .int .i64 i, .int .i64 j, .int .u8 (m.toNat : Int)] w fun e w' => e = .returned (.tuple #[]) ∧ w = w' := by
  by_cases hp : Pg.at_ s i = none
  · go_enter Try.func34, Try.ntmps34
    go_wp2_with fail
    refine (at_any B bs bp qs s u i w h h1 h2).mono ?_
    rintro e w' ⟨rfl, rfl⟩
    rw [h.ptr_none hp]
    unfold ptrV
    go_wp2
    go_end0
    exact ⟨rfl, rfl⟩
  · have hj : j < 0 ∨ 64 ≤ j := by
      rcases hi with h | h | h
      · exact absurd h hp
      · exact .inl h
      · exact .inr h
    clear hi
    obtain ⟨l, hl⟩ := Option.ne_none_iff_exists'.1 hp
    obtain ⟨k, g, rfl, hk, hs, hq, hpt, hg, hbk, hll⟩ := h.ptr_some hl
    have Hp := Lib.hid hpt
    clear hpt hs hq hbk hl hp
    rcases hj with hj | hj
    · go_enter Try.func34, Try.ntmps34
      go_wp2_with fail
      refine (at_any B bs bp qs s u k w h h1 h2).mono ?_
      rintro e w' ⟨rfl, rfl⟩
      rw [Hp.out]
      unfold ptrV
      go_wp2
      go_end0
      exact ⟨rfl, rfl⟩
    · go_enter Try.func34, Try.ntmps34
      go_wp2_with fail
      refine (at_any B bs bp qs s u k w h h1 h2).mono ?_
      rintro e w' ⟨rfl, rfl⟩
      rw [Hp.out]
      unfold ptrV
      go_wp2
      go_end0
      exact ⟨rfl, rfl⟩

theorem flip_yes (B bs bp : Nat) (qs : List (Option Nat)) (s : Pg.St) (u : Int) (i : Int) (l : List UInt8) (j : Nat) (m : UInt8) (w : World) (h : StoAt w B bs bp qs s u) (h1 : -9223372036854775808 ≤ i) (h2 : i ≤ 9223372036854775807) (hi : Pg.at_ s i = some l) (hj : j < 64) :
    Calls Try.prog 34 #[.pointer (some ⟨bs, 0, none⟩), .int .i64 i, .int .i64 (j : Int), .int .u8 (m.toNat : Int)] w fun e w' => e = .returned (.tuple #[]) ∧ StoAt w' B bs bp qs (s.set i.toNat (some (Pg.flip l j m))) u ∧ Keeps StT B w w' := by
  obtain ⟨k, g, rfl, hk, hs, hq, hpt, hg, hbk, hl⟩ := h.ptr_some hi
  have hc := hbk.cell j
  rw [List.getElem?_map, List.getElem?_eq_getElem (by omega), Option.map_some] at hc
  have hf := hbk.frozen j
  have hsto := h.byte hs hq (k := j) (l.getD j 0 ^^^ m)
  have hkp := (Keeps.refl StT B w).setCell hbk (i := j) (by simp) hg (Ytjjmnjgkodiibaa.B (l.getD j 0 ^^^ m))
  have hjI : (0 : Int) ≤ (j : Int) := by omega
  have hjI' : (j : Int) < 64 := by omega
  have hx := u8_xor_nat (l[j]'(by omega)).toNat m.toNat (by have := (l[j]'(by omega)).toNat_lt; omega) (by have := m.toNat_lt; omega)
  have hgd : l.getD j 0 = l[j]'(by omega) := by rw [List.getD, List.getElem?_eq_getElem (by omega)]; rfl
  rw [hgd] at hsto hkp
  unfold Ytjjmnjgkodiibaa.B at hc hsto hkp
  rw [UInt8.toNat_xor] at hsto hkp
  have Hs := Lib.hid hsto
  have Hk := Lib.hid hkp
  have Hp := Lib.hid hpt
  have Hg := Lib.hid hgd
  clear hpt hs hq hi hbk hgd hsto hkp
  generalize l[j]'(by omega) = lj at *
  go_enter Try.func34, Try.ntmps34
  go_wp2_with fail
  refine (at_any B bs bp qs s u k w h h1 h2).mono ?_
  rintro e w' ⟨rfl, rfl⟩
  rw [Hp.out]
  unfold ptrV
  clear h
  go_wp2_with fail
  go_region
  all_goals
    go_wp2
    go_end0
  exact ⟨rfl, by rw [Pg.flip, Hg.out]; exact Hs.out.drewN 1, Hk.out.drewN 1⟩
end Go.Proofs.Ytjjmnjgkodiibaa
