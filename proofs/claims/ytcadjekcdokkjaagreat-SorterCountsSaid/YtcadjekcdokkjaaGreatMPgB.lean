/- The walks of package pages: what each method does to a store, as a plain function on its pages. The walks of package pages, on: writes, reads and spoils of one page. The walks of package pages, on: a new store, and pages that are taken. -/
import Derived.Test.YtcadjekcdokkjaaGreatMPgA
namespace Go.Proofs.YtcadjekcdokkjaaGreat
set_option linter.unusedVariables false
set_option linter.unusedSimpArgs false
open Go.RowKit
theorem zero_page (w : World) : (zeroValue 105).run Tryz.prog w = .ok (.agg (Crc.zrow 64 (.int .u8 0))) w := by kernel_rfl
theorem arrayAt_page (g o c : Nat) (w : World) : (Instr.arrayAt 105 (.slice (some ⟨g, o, none⟩) 64 c)).run Tryz.prog w = .ok (.pointer (some ⟨g, o, none⟩)) w := by kernel_rfl
set_option maxRecDepth 100000 in
theorem lay_any (id : Nat) (A : Option Addr) (l : List UInt8) (n c : Nat) (w : World) (hn : l.length = n) (hr : Rd w A (Bs l)) (hl : n ≤ 56) (hid : id < 4294967296) :
  Calls Tryz.prog 47 #[.int .i64 (id : Int), .slice A n c] w fun e w' => ∃ g, e = .returned (.pointer (some ⟨g, 0, none⟩)) ∧ w.heap.size ≤ g ∧ Blk w' g 105 (Bs (Pg.page id l)) ∧ Below w.heap.size w w' := by
 subst hn
 have hz := fun w => zero_page w
 have ha := fun g o c w => arrayAt_page g o c w
 go_enter Tryz.func47, Tryz.ntmps47
 go_wp2_with (first | (at_builtin; refine hold ?_) | (at_make; refine hold ?_))
 (with_reducible refine unhold ?_)
 refine wpList_mkn rfl _ _ _ rfl E8 w.heap.size _ _ _ _ 60 rfl rfl rfl rfl (by omega) (by unfold maxLen; omega) (Nat.le_refl _) ?_
 intro w1 ho1 hb1 hlt1
 have hr1 := hr.below hb1
 go_wp2_with (with_reducible refine holdAt 11 ?_)
 (with_reducible refine unhold ?_)
 have hk := ho1.blk.1
 rw [show (Value.cells (.int .u8 0)) = #[.int .u8 0] from rfl, toList_madeCells_one] at hk
 refine wpList_copy_splice rfl _ _ _ _ rfl 5 Tryz.underlying36 (by kernel_rfl) _ _ 60 60 l.length c rfl rfl w.heap.size 0 (List.replicate 60 (.int .u8 0)) 5 hk (Bs l) (by rw [List.length_map]; exact (Nat.min_eq_left (by omega)).symm) ?_ (by simp; omega) (Bs_one l) w.heap.size w hb1 (Nat.le_refl _) ?_
 ·intro hp
  have hne : Bs l ≠ [] := by intro h; rw [h] at hp; simp at hp
  obtain ⟨b, o, rfl, hrr⟩ := hr1 hne
  exact ⟨rfl, _, rfl, fun j v hv => by rw [Addr.add_mid]; exact hrr j v hv⟩
 intro w2 hk2 hb2
 have hk2' : Blk w2 w.heap.size 5 (splice (List.replicate 60 (.int .u8 0)) 0 (Bs l)) := hk2.out
 clear hk2 hk
 have hlen : (splice (List.replicate 60 (.int .u8 0)) 0 (Bs l)).length = 60 := by rw [length_splice _ _ _ (by simp; omega)]; simp
 have hsp : splice (List.replicate 60 (.int .u8 0)) 0 (Bs l) = Bs (l ++ List.replicate (56 - l.length) 0) ++ [.int .u8 0, .int .u8 0, .int .u8 0, .int .u8 0] := by
  unfold splice
  simp only [List.take_zero, List.nil_append, Nat.zero_add, List.drop_replicate, List.map_append, List.map_replicate, List.length_map, List.append_assoc]
  congr 1
  rw [show 60 - l.length = (56 - l.length) + 4 from by omega, ← List.replicate_append_replicate]
  rfl
 rw [hsp] at hk2' hlen
 have hl56 : (Bs (l ++ List.replicate (56 - l.length) 0)).length = 56 := by simp; omega
 have Hf := Lib.hid (Pg.front_cells id l hid)
 generalize Bs (l ++ List.replicate (56 - l.length) 0) = pre at *
 have hc : ∀ j, j < 4 → w2.cell? ⟨w.heap.size, 56 + j, none⟩ = some (.int .u8 0) := by
  intro j hj
  rw [hk2'.cell, List.getElem?_append_right (by omega), hl56, Nat.add_sub_cancel_left]
  match j, hj with
  | 0, _ => rfl
  | 1, _ => rfl
  | 2, _ => rfl
  | 3, _ => rfl
 have hc0 := hc 0 (by omega)
 have hc1 := hc 1 (by omega)
 have hc2 := hc 2 (by omega)
 have hc3 := hc 3 (by omega)
 have hf := fun i => hk2'.frozen i
 clear hc
 have Hk := Lib.hid hk2'
 clear hk2' hsp
 go_wp2_with fail
 refine wp_loop_rounds 5 ?_
 repeat any_goals (rw [rounds_succ]; go_wp2_with fail)
 have hk4 : Blk ((((w2.setCell ⟨w.heap.size, 59, none⟩ (.int .u8 ((id : Int) % 256))).setCell ⟨w.heap.size, 58, none⟩ (.int .u8 ((id : Int) / 256 % 256))).setCell ⟨w.heap.size, 57, none⟩ (.int .u8 ((id : Int) / 65536 % 256))).setCell ⟨w.heap.size, 56, none⟩ (.int .u8 ((id : Int) / 16777216))) w.heap.size 5 (Bs (Pg.front id l)) := by
  have h4 := (((Hk.out.set_ 59 (.int .u8 ((id : Int) % 256))).set_ 58 (.int .u8 ((id : Int) / 256 % 256))).set_ 57 (.int .u8 ((id : Int) / 65536 % 256))).set_ 56 (.int .u8 ((id : Int) / 16777216))
  rw [← Hf.out]
  rw [Pg.set4 _ hl56] at h4
  exact h4
 have hb4 : Below w.heap.size w ((((w2.setCell ⟨w.heap.size, 59, none⟩ (.int .u8 ((id : Int) % 256))).setCell ⟨w.heap.size, 58, none⟩ (.int .u8 ((id : Int) / 256 % 256))).setCell ⟨w.heap.size, 57, none⟩ (.int .u8 ((id : Int) / 65536 % 256))).setCell ⟨w.heap.size, 56, none⟩ (.int .u8 ((id : Int) / 16777216))) :=
  (((hb2.setCell (Nat.le_refl _) _).setCell (Nat.le_refl _) _).setCell (Nat.le_refl _) _).setCell (Nat.le_refl _) _
 clear Hk hc0 hc1 hc2 hc3 hf hb2
 generalize ((((w2.setCell ⟨w.heap.size, 59, none⟩ (.int .u8 ((id : Int) % 256))).setCell ⟨w.heap.size, 58, none⟩ (.int .u8 ((id : Int) / 256 % 256))).setCell ⟨w.heap.size, 57, none⟩ (.int .u8 ((id : Int) / 65536 % 256))).setCell ⟨w.heap.size, 56, none⟩ (.int .u8 ((id : Int) / 16777216))) = w4 at *
 refine (crc_seal (some ⟨w.heap.size, 0, none⟩) (Pg.front id l) 60 60 w4 (Pg.length_front id hl) (Rd.of_blk hk4) (by omega)).mono ?_
 rintro e w5 ⟨A5, c5, rfl, ho5, hb5⟩
 have hz5 := hb5.size
 have hb05 := hb4.trans (hb5.mono hb4.size)
 rcases ho5.lies with ⟨_, h0, _⟩ | ⟨g5, cur5, rfl, hg5, hlt5, hh5, hs5, ht5⟩
 ·omega
 have hr5 : w5.rangeAt g5 0 (Bs (Pg.page id l)) := by
  obtain ⟨b, o, he, hr⟩ := ho5.rd (by unfold Crc.seal_; simp)
  injection he with he
  injection he with h1 h2
  subst h1; subst h2
  exact hr
 have hlp := Pg.length_page id hl
 go_wp2_with (with_reducible refine holdAt 28 ?_)
 (with_reducible refine unhold ?_)
 refine wpList_load_mid rfl _ _ rfl g5 0 rfl (Bs (Pg.page id l)) _ hr5 Tryz.underlying105 rfl (by rw [List.length_map, hlp]; kernel_rfl) ?_
 have hlz : (Crc.zrow 64 (.int .u8 0)).toList.length = (Bs (Pg.page id l)).length := by rw [List.length_map, hlp]; rfl
 have hsz : (Bs (Pg.page id l)).toArray.size = 64 := by simpa using hlp
 have h1p := Bs_one (Pg.page id l)
 generalize hpg : Bs (Pg.page id l) = pg at *
 have Hpg := Lib.hid hpg
 clear hpg
 go_wp2_with (with_reducible refine holdStore 105 ?_)
 (with_reducible refine unhold ?_)
 have hkz := Blk.new w5 105 (Crc.zrow 64 (.int .u8 0))
 refine wpList_store_mid rfl _ _ _ rfl w5.heap.size 0 pg.toArray rfl rfl ?_ (by rw [hsz]; kernel_rfl) (all_oneCell_toArray h1p) ?_
 ·have := hkz.there
  rw [hlz] at this
  simpa using this
 have hkp := hkz.whole (vs := pg) hlz
 have hbp := below_setCells ((hb05.alloc hb05.size (.cells (Crc.zrow 64 (.int .u8 0)) 105))) (b := w5.heap.size) hb05.size pg 0
 rw [List.toList_toArray]
 generalize (w5.alloc (.cells (Crc.zrow 64 (.int .u8 0)) 105)).setCells w5.heap.size 0 pg = w6 at *
 go_wp2_with fail
 go_ret
 exact ⟨w5.heap.size, rfl, hb05.size, by rw [Hpg.out]; exact hkp, hbp⟩
theorem at_any (B bs bp : Nat) (qs : List (Option Nat)) (s : Pg.St) (u : Int) (i : Int) (w : World) (h : StoAt w B bs bp qs s u) (h1 : -9223372036854775808 ≤ i) (h2 : i ≤ 9223372036854775807) :
  Calls Tryz.prog 51 #[.pointer (some ⟨bs, 0, none⟩), .int .i64 i] w fun e w' => e = .returned (ptrV (ptrAt qs i)) ∧ w = w' := by
 have hc := h.st.cell 0
 simp only [List.getElem?_cons_zero] at hc
 have hm := h.most
 have hlen := Lib.hid h.len
 by_cases h0 : i < 0
 ·have hp := Lib.hid (ptrAt_out (qs := qs) (i := i) (.inl h0))
  go_enter Tryz.func51, Tryz.ntmps51
  go_wp2
  go_ret
  exact ⟨by rw [hp.out]; rfl, rfl⟩
 ·by_cases hl : i < s.length
  ·have h0' : 0 ≤ i := by omega
   obtain ⟨k, rfl⟩ := Int.eq_ofNat_of_zero_le h0'
   have hp := h.cell_ptr (i := k) (by omega)
   rw [← ptrAt_in (by have := hlen.out; omega)] at hp
   generalize ptrV (ptrAt qs k) = q at *
   clear h0 h
   go_enter Tryz.func51, Tryz.ntmps51
   go_wp2
   go_ret
   exact ⟨rfl, rfl⟩
  ·have hp := Lib.hid (ptrAt_out (qs := qs) (i := i) (.inr (by have := hlen.out; omega)))
   go_enter Tryz.func51, Tryz.ntmps51
   go_wp2
   go_ret
   exact ⟨by rw [hp.out]; rfl, rfl⟩
theorem free_no (B bs bp : Nat) (qs : List (Option Nat)) (s : Pg.St) (u : Int) (i : Int) (w : World) (h : StoAt w B bs bp qs s u) (h1 : -9223372036854775808 ≤ i) (h2 : i ≤ 9223372036854775807) (hi : Pg.at_ s i = none) :
  Calls Tryz.prog 91 #[.pointer (some ⟨bs, 0, none⟩), .int .i64 i] w fun e w' => e = .returned (.int .i64 2) ∧ w = w' := by
 go_enter Tryz.func91, Tryz.ntmps91
 go_wp2_with fail
 refine (at_any B bs bp qs s u i w h h1 h2).mono ?_
 rintro e w' ⟨rfl, rfl⟩
 rw [h.ptr_none hi]
 unfold ptrV
 go_wp2
 go_ret
 exact ⟨rfl, rfl⟩
theorem free_yes (B bs bp : Nat) (qs : List (Option Nat)) (s : Pg.St) (u : Int) (i : Int) (l : List UInt8) (w : World) (h : StoAt w B bs bp qs s u) (h1 : -9223372036854775808 ≤ i) (h2 : i ≤ 9223372036854775807) (hi : Pg.at_ s i = some l) (hu : -4096 ≤ u ∧ u ≤ 4096) :
  Calls Tryz.prog 91 #[.pointer (some ⟨bs, 0, none⟩), .int .i64 i] w fun e w' => e = .returned (.int .i64 0) ∧ StoAt w' B bs bp (qs.set i.toNat none) (s.set i.toNat none) (u - 1) ∧ Keeps StT B w w' := by
 obtain ⟨k, g, rfl, hk, hs, hq, hpt, hg, hb, hl⟩ := h.ptr_some hi
 have hc := h.st.cell 0
 have hcu := h.st.cell 1
 simp only [List.getElem?_cons_zero, List.getElem?_cons_succ] at hc hcu
 have hf := h.row.frozen k
 have hf1 := h.st.frozen 1
 have hp := h.cell_ptr hk
 have hm := h.most
 have hd1 := h.drop hk
 have hd := hd1.count (u - 1)
 have hkk := (((Keeps.refl StT B w).setCell h.row (i := k) (by simp) h.hp (ptrV none)).setCell hd1.st (i := 1) (by simp) h.hs (.int .i64 (u - 1)))
 have hne := h.ne1
 generalize ptrV (qs.getD k none) = pq at *
 have Hd := Lib.hid hd
 have Hk := Lib.hid hkk
 have Hp := Lib.hid hpt
 clear hd hkk hd1 hpt hq hs hi hb
 unfold ptrV at Hd Hk
 go_enter Tryz.func91, Tryz.ntmps91
 go_wp2_with fail
 refine (at_any B bs bp qs s u k w h h1 h2).mono ?_
 rintro e w' ⟨rfl, rfl⟩
 clear h
 rw [Hp.out]
 unfold ptrV
 go_wp2
 go_ret
 exact ⟨rfl, Hd.out, Hk.out⟩
attribute [local go_sem ↓] Go.wp_at_zero Go.wp_at_succ
set_option maxRecDepth 100000 in
theorem write_yes (B bs bp : Nat) (qs : List (Option Nat)) (s : Pg.St) (u : Int) (i : Int) (l : List UInt8) (A : Option Addr) (b : List UInt8) (n c : Nat) (w : World) (h : StoAt w B bs bp qs s u) (h1 : -9223372036854775808 ≤ i) (h2 : i ≤ 9223372036854775807) (hi : Pg.at_ s i = some l)
  (hn : b.length = n) (hr : Rd w A (Bs b)) (hb : n ≤ 56) (hB : B ≤ w.heap.size) :
  Calls Tryz.prog 50 #[.pointer (some ⟨bs, 0, none⟩), .int .i64 i, .slice A n c] w fun e w' => e = .returned (.int .i64 0) ∧ (∃ qs', StoAt w' B bs bp qs' (s.set i.toNat (some (Pg.page i.toNat b))) u) ∧ Keeps StT B w w' := by
 obtain ⟨k, g, rfl, hk, hs, hq, hpt, hg, hbk, hl⟩ := h.ptr_some hi
 have hc := h.st.cell 0
 simp only [List.getElem?_cons_zero] at hc
 have hf := h.row.frozen k
 have hp := h.cell_ptr hk
 have hm := h.most
 have hne := h.ne1
 generalize ptrV (qs.getD k none) = pq at *
 have Hp := Lib.hid hpt
 have Hh := Lib.hid h
 have Hn := Lib.hid hn
 clear hpt hq hs hi hbk hn
 have hkI : (k : Int) < (List.length s : Int) := by omega
 have hk0 : (0 : Int) ≤ (k : Int) := by omega
 go_enter Tryz.func50, Tryz.ntmps50
 go_wp2_with fail
 refine (at_any B bs bp qs s u k w h h1 h2).mono ?_
 rintro e w' ⟨rfl, rfl⟩
 clear h
 rw [Hp.out]
 unfold ptrV
 go_wp2_with fail
 go_region_held3 (fun w' => w'.cell? ⟨bs, 0, none⟩ = some (.slice (some ⟨bp, 0, none⟩) (List.length s) (List.length s)))
  (first | assumption | exact (hbl.cell (p := ⟨bs, 0, none⟩) (Blk.lt Hh.out.st)).trans hc | exact (World.cell?_setCell_other _ _ _ _ (fun e => hne (congrArg Addr.block e).symm)).trans ((hbl.cell (p := ⟨bs, 0, none⟩) (Blk.lt Hh.out.st)).trans hc))
  ((go_at_call 47; refine (lay_any k A b n c _ Hn.out (by exact hr) hb (by omega)).mono ?_; rintro e w1 ⟨g1, rfl, hg1, hk1, hbl⟩; have hp1 := (hbl.cell (p := ⟨bp, k, none⟩) (Blk.lt Hh.out.row)).trans hp; have hf1 := (hbl.frozen (p := ⟨bp, k, none⟩) (Blk.lt Hh.out.row)).trans hf))
 go_wp2_with fail
 go_ret
 have hbw : Below w.heap.size w w1 := ⟨hbl.os, hbl.tape, hbl.output, hbl.size, hbl.block⟩
 have hlp := Pg.length_page k (l := b) (by rw [Hn.out]; exact hb)
 have hput := (Hh.out.below hbw).put (i := k) (g := g1) hk (Nat.le_trans hB hg1) hk1 hlp (Hh.out.fresh hg1)
 exact ⟨rfl, ⟨_, hput⟩, ((Keeps.refl StT B w).then_below hbw).setCell (Hh.out.below hbw).row (by simp) Hh.out.hp _⟩
end Go.Proofs.YtcadjekcdokkjaaGreat
namespace Go.Proofs.YtcadjekcdokkjaaGreat
set_option linter.unusedVariables false
set_option linter.unusedSimpArgs false
open Go.RowKit
attribute [local go_sem ↓] Go.wp_at_zero Go.wp_at_succ
theorem write_no (B bs bp : Nat) (qs : List (Option Nat)) (s : Pg.St) (u : Int) (i : Int) (A : Option Addr) (n c : Nat) (w : World) (h : StoAt w B bs bp qs s u) (h1 : -9223372036854775808 ≤ i) (h2 : i ≤ 9223372036854775807) (hi : Pg.at_ s i = none) :
  Calls Tryz.prog 50 #[.pointer (some ⟨bs, 0, none⟩), .int .i64 i, .slice A n c] w fun e w' => e = .returned (.int .i64 2) ∧ w = w' := by
 go_enter Tryz.func50, Tryz.ntmps50
 go_wp2_with fail
 refine (at_any B bs bp qs s u i w h h1 h2).mono ?_
 rintro e w' ⟨rfl, rfl⟩
 rw [h.ptr_none hi]
 unfold ptrV
 go_wp2
 go_ret
 exact ⟨rfl, rfl⟩
theorem write_long (B bs bp : Nat) (qs : List (Option Nat)) (s : Pg.St) (u : Int) (i : Int) (l : List UInt8) (A : Option Addr) (n c : Nat) (w : World) (h : StoAt w B bs bp qs s u) (h1 : -9223372036854775808 ≤ i) (h2 : i ≤ 9223372036854775807) (hi : Pg.at_ s i = some l) (hn : 56 < n) :
  Calls Tryz.prog 50 #[.pointer (some ⟨bs, 0, none⟩), .int .i64 i, .slice A n c] w fun e w' => e = .returned (.int .i64 3) ∧ w = w' := by
 obtain ⟨k, g, rfl, hk, hs, hq, hpt, hg, hbk, hl⟩ := h.ptr_some hi
 have Hp := Lib.hid hpt
 clear hpt hs hq hi hbk
 go_enter Tryz.func50, Tryz.ntmps50
 go_wp2_with fail
 refine (at_any B bs bp qs s u k w h h1 h2).mono ?_
 rintro e w' ⟨rfl, rfl⟩
 rw [Hp.out]
 unfold ptrV
 go_wp2
 go_ret
 exact ⟨rfl, rfl⟩
theorem clone_any (b o : Nat) (l : List UInt8) (n c : Nat) (w : World) (hn : l.length = n) (hr : w.rangeAt b o (Bs l)) (hl : n ≤ 1000000) :
  Calls Tryz.prog 52 #[.slice (some ⟨b, o, none⟩) n c] w fun e w' => ∃ A' c', e = .returned (.slice A' n c') ∧ Own w' w.heap.size 5 1 A' n c' (Bs l) ∧ Below w.heap.size w w' := by
 subst hn
 have hq := fun w => Lib.run_eql_slice_nil (P := Tryz.prog) w 36 5 (some ⟨b, o, none⟩) l.length c 0 0 Tryz.underlying36
 go_enter Tryz.func52, Tryz.ntmps52
 go_wp2_with (first | (at_builtin; refine hold ?_) | (at_make; refine hold ?_))
 (with_reducible refine unhold ?_)
 have hr1 := (Rd.of_range hr).alloc (.cells #[] 5)
 have ho1 : Own (w.alloc (.cells #[] 5)) w.heap.size 5 1 (some ⟨w.heap.size, 0, none⟩) 0 0 [] := World.ownsRow_made w #[] 0 (Nat.le_refl _) (by unfold maxLen; omega) rfl
 refine wpList_apd rfl _ _ _ rfl E8 w.heap.size _ 0 _ [] rfl ho1 _ l.length c (Bs l) rfl (by simp) hr1 (Bs_one l) l.length (by omega) (Bs l) rfl (by omega) (by omega) (by simp) ?_
 intro A2 c2 w2 ho2 hg2 hat2
 have hb2 : Below w.heap.size w w2 := ((Below.refl _ _).alloc (Nat.le_refl _) _).grown hg2 (by simp) ho1.row_ge
 go_wp2_with fail
 go_ret
 exact ⟨A2, c2, rfl, ho2, hb2⟩
theorem raw_yes (B bs bp : Nat) (qs : List (Option Nat)) (s : Pg.St) (u : Int) (i : Int) (l : List UInt8) (w : World) (h : StoAt w B bs bp qs s u) (h1 : -9223372036854775808 ≤ i) (h2 : i ≤ 9223372036854775807) (hi : Pg.at_ s i = some l) :
  Calls Tryz.prog 32 #[.pointer (some ⟨bs, 0, none⟩), .int .i64 i] w fun e w' => ∃ A' c', e = .returned (.tuple #[.slice A' 64 c', .int .i64 0]) ∧ Own w' w.heap.size 5 1 A' 64 c' (Bs l) ∧ Below w.heap.size w w' := by
 obtain ⟨k, g, rfl, hk, hs, hq, hpt, hg, hbk, hl⟩ := h.ptr_some hi
 have Hp := Lib.hid hpt
 have Hb := Lib.hid hbk
 have Hl := Lib.hid hl
 clear hpt hs hq hi hbk hl
 go_enter Tryz.func32, Tryz.ntmps32
 go_wp2_with fail
 refine (at_any B bs bp qs s u k w h h1 h2).mono ?_
 rintro e w' ⟨rfl, rfl⟩
 rw [Hp.out]
 unfold ptrV
 go_wp2_with fail
 refine (clone_any g 0 l 64 64 w Hl.out Hb.out.range (by omega)).mono ?_
 rintro e w' ⟨A', c', rfl, ho, hb⟩
 go_wp2_with fail
 go_ret2
 exact ⟨A', c', rfl, ho, hb⟩
theorem raw_no (B bs bp : Nat) (qs : List (Option Nat)) (s : Pg.St) (u : Int) (i : Int) (w : World) (h : StoAt w B bs bp qs s u) (h1 : -9223372036854775808 ≤ i) (h2 : i ≤ 9223372036854775807) (hi : Pg.at_ s i = none) :
  Calls Tryz.prog 32 #[.pointer (some ⟨bs, 0, none⟩), .int .i64 i] w fun e w' => e = .returned (.tuple #[.slice none 0 0, .int .i64 2]) ∧ w = w' := by
 go_enter Tryz.func32, Tryz.ntmps32
 go_wp2_with fail
 refine (at_any B bs bp qs s u i w h h1 h2).mono ?_
 rintro e w' ⟨rfl, rfl⟩
 rw [h.ptr_none hi]
 unfold ptrV
 go_wp2
 go_ret2
 exact ⟨rfl, rfl⟩
theorem read_no (B bs bp : Nat) (qs : List (Option Nat)) (s : Pg.St) (u : Int) (i : Int) (w : World) (h : StoAt w B bs bp qs s u) (h1 : -9223372036854775808 ≤ i) (h2 : i ≤ 9223372036854775807) (hi : Pg.at_ s i = none) :
  Calls Tryz.prog 120 #[.pointer (some ⟨bs, 0, none⟩), .int .i64 i] w fun e w' => e = .returned (.tuple #[.slice none 0 0, .int .i64 2]) ∧ w = w' := by
 go_enter Tryz.func120, Tryz.ntmps120
 go_wp2_with fail
 refine (at_any B bs bp qs s u i w h h1 h2).mono ?_
 rintro e w' ⟨rfl, rfl⟩
 rw [h.ptr_none hi]
 unfold ptrV
 go_wp2
 go_ret2
 exact ⟨rfl, rfl⟩
set_option maxRecDepth 100000 in
theorem read_yes (B bs bp : Nat) (qs : List (Option Nat)) (s : Pg.St) (u : Int) (i : Int) (l : List UInt8) (w : World) (h : StoAt w B bs bp qs s u) (h1 : -9223372036854775808 ≤ i) (h2 : i ≤ 9223372036854775807) (hi : Pg.at_ s i = some l) (hok : Pg.page i.toNat (l.take 56) = l) :
  Calls Tryz.prog 120 #[.pointer (some ⟨bs, 0, none⟩), .int .i64 i] w fun e w' => ∃ A' c', e = .returned (.tuple #[.slice A' 56 c', .int .i64 0]) ∧ Own w' w.heap.size 5 1 A' 56 c' (Bs (l.take 56)) ∧ Below w.heap.size w w' := by
 obtain ⟨k, g, rfl, hk, hs, hq, hpt, hg, hbk, hl⟩ := h.ptr_some hi
 rw [Int.toNat_natCast] at hok
 have hm := h.most
 have Hp := Lib.hid hpt
 have Hb := Lib.hid hbk
 have Hl := Lib.hid hl
 have Hok := Lib.hid hok
 have hgt : Tryz.prog.eqGuardType Tryz.prog.depth 105 = false := by kernel_rfl
 clear hpt hs hq hi hbk hl hok
 go_enter Tryz.func120, Tryz.ntmps120
 go_wp2_with fail
 refine (at_any B bs bp qs s u k w h h1 h2).mono ?_
 rintro e w' ⟨rfl, rfl⟩
 rw [Hp.out]
 unfold ptrV
 go_wp2_with fail
 refine wp_region_held_drew (S := fun w' => w'.rangeAt g 0 (Bs l)) (by kernel_rfl) (by exact Hb.out.range) (fun hHeld => ?_)
 (refine wpAnyH_take (i := 0) (oi := _) (v := ?_) rfl (by kernel_rfl) (by kernel_rfl) (by kernel_rfl) (fun _ _ _ h => h) (Or.inl ⟨by rfl, ?_⟩) (by assumption) ?_; rotate_left; (intro w hSw; go_simp; with_reducible rfl); (try simp only [Act.put, List.setIfInBounds_toArray, List.set_cons_zero, List.set_cons_succ]))
 (refine wpAnyH_take (i := 1) (oi := _) (v := ?_) rfl (by kernel_rfl) (by kernel_rfl) (by kernel_rfl) (fun _ _ _ h => h) (Or.inl ⟨by rfl, ?_⟩) (by assumption) ?_; rotate_left; (intro w hSw; go_simp; with_reducible rfl); (try simp only [Act.put, List.setIfInBounds_toArray, List.set_cons_zero, List.set_cons_succ]))
 (refine wpAnyH_take (i := 5) (oi := _) (v := ?_) rfl (by kernel_rfl) (by kernel_rfl) (by kernel_rfl) (fun _ _ _ h => h) (Or.inl ⟨by rfl, ?_⟩) (by assumption) ?_; rotate_left; (intro w hSw; go_simp; with_reducible rfl); (try simp only [Act.put, List.setIfInBounds_toArray, List.set_cons_zero, List.set_cons_succ]))
 (refine wpAnyH_take (i := 6) (oi := _) (v := ?_) rfl (by kernel_rfl) (by kernel_rfl) (by kernel_rfl) (fun _ _ _ h => h) (Or.inl ⟨by rfl, ?_⟩) (by assumption) ?_; rotate_left; (intro w hSw; go_simp; with_reducible rfl); (try simp only [Act.put, List.setIfInBounds_toArray, List.set_cons_zero, List.set_cons_succ]))
 refine wpAnyH_take (i := 7) (oi := _) (v := _) rfl (by kernel_rfl) (by kernel_rfl) (by kernel_rfl) (fun _ _ _ h => h) (yieldsIf_load_mid (by rfl) _ _ rfl g 0 rfl (Bs l) _ (fun w' hw' => hw') Tryz.underlying105 rfl (by rw [List.length_map, Hl.out]; kernel_rfl)) (by assumption) ?_
 (try simp only [Act.put, List.setIfInBounds_toArray, List.set_cons_zero, List.set_cons_succ])
 refine wpAnyH_ready (rs := [2]) (by kernel_rfl) (by simp) (AllReadyH.cons rfl (fun K hK => ?_) AllReadyH.nil)
 go_simp
 refine (lay_any k (some ⟨g, 0, none⟩) (l.take 56) 56 64 _ (by rw [List.length_take, Hl.out]; rfl) (Rd.of_range (by have := Rd.part Hb.out.range 0 56; rwa [List.drop_zero, ← List.map_take] at this)) (by omega) (by omega)).mono ?_
 rintro e w1 ⟨g1, rfl, hg1, hk1, hb1⟩
 have hbw : Below w.heap.size w w1 := ⟨hb1.os, hb1.tape, hb1.output, hb1.size, hb1.block⟩
 have hS1 : w1.rangeAt g 0 (Bs l) := (Hb.out.below hbw).range
 have hlp := Pg.length_page k (l := l.take 56) (by rw [List.length_take]; omega)
 have heq := fun w => run_eq_bytes (P := Tryz.prog) Tryz.underlying105 Tryz.underlying5 (by kernel_rfl) (Pg.page k (l.take 56)) l hlp Hl.out 9998 w
 refine hK.out _ _ hS1 (fun hS1' => ?_)
 clear hK K
 (try simp only [Act.put, List.setIfInBounds_toArray, List.set_cons_zero, List.set_cons_succ])
 (refine wpAnyH_take (i := 3) (oi := _) (v := ?_) rfl (by kernel_rfl) (by kernel_rfl) (by kernel_rfl) (fun _ _ _ h => h) (Or.inl ⟨by rfl, ?_⟩) (by assumption) ?_; rotate_left; (intro w hSw; go_simp; with_reducible rfl); (try simp only [Act.put, List.setIfInBounds_toArray, List.set_cons_zero, List.set_cons_succ]))
 refine wpAnyH_ready (rs := [4]) (by kernel_rfl) (by simp) (AllReadyH.cons rfl (fun K hK => ?_) AllReadyH.nil)
 rw [if_pos (by rfl)]
 refine wp_load_mid _ _ rfl g1 0 rfl (Bs (Pg.page k (l.take 56))) _ hk1.range Tryz.underlying105 rfl (by rw [List.length_map, hlp]; kernel_rfl) ?_
 (try simp only [Act.put, List.setIfInBounds_toArray, List.set_cons_zero, List.set_cons_succ])
 refine hK.out _ _ hS1 (fun hS2 => ?_)
 clear hK K
 (refine wpAnyH_take (i := 8) (oi := _) (v := ?_) rfl (by kernel_rfl) (by kernel_rfl) (by kernel_rfl) (fun _ _ _ h => h) (Or.inl ⟨by rfl, ?_⟩) (by assumption) ?_; rotate_left; (intro w hSw; go_simp; with_reducible rfl); (try simp only [Act.put, List.setIfInBounds_toArray, List.set_cons_zero, List.set_cons_succ]))
 refine wpAnyH_done (by kernel_rfl) ?_ _
 rw [decide_eq_true Hok.out]
 go_wp2_with fail
 refine (clone_any g 0 (l.take 56) 56 64 w1 (by rw [List.length_take, Hl.out]; rfl) (by have := Rd.part hS1 0 56; rwa [List.drop_zero, ← List.map_take] at this) (by omega)).mono ?_
 rintro e w2 ⟨A', c', rfl, ho, hb⟩
 go_wp2_with fail
 go_ret2
 exact ⟨A', c', rfl, ho.lower hbw.size, hbw.trans (hb.mono hbw.size)⟩
set_option maxRecDepth 100000 in
theorem read_bad (B bs bp : Nat) (qs : List (Option Nat)) (s : Pg.St) (u : Int) (i : Int) (l : List UInt8) (w : World) (h : StoAt w B bs bp qs s u) (h1 : -9223372036854775808 ≤ i) (h2 : i ≤ 9223372036854775807) (hi : Pg.at_ s i = some l) (hok : Pg.page i.toNat (l.take 56) ≠ l) :
  Calls Tryz.prog 120 #[.pointer (some ⟨bs, 0, none⟩), .int .i64 i] w fun e w' => e = .returned (.tuple #[.slice none 0 0, .int .i64 6]) ∧ Below w.heap.size w w' := by
 obtain ⟨k, g, rfl, hk, hs, hq, hpt, hg, hbk, hl⟩ := h.ptr_some hi
 rw [Int.toNat_natCast] at hok
 have hm := h.most
 have Hp := Lib.hid hpt
 have Hb := Lib.hid hbk
 have Hl := Lib.hid hl
 have Hok := Lib.hid hok
 have hgt : Tryz.prog.eqGuardType Tryz.prog.depth 105 = false := by kernel_rfl
 clear hpt hs hq hi hbk hl hok
 go_enter Tryz.func120, Tryz.ntmps120
 go_wp2_with fail
 refine (at_any B bs bp qs s u k w h h1 h2).mono ?_
 rintro e w' ⟨rfl, rfl⟩
 rw [Hp.out]
 unfold ptrV
 go_wp2_with fail
 refine wp_region_held_drew (S := fun w' => w'.rangeAt g 0 (Bs l)) (by kernel_rfl) (by exact Hb.out.range) (fun hHeld => ?_)
 (refine wpAnyH_take (i := 0) (oi := _) (v := ?_) rfl (by kernel_rfl) (by kernel_rfl) (by kernel_rfl) (fun _ _ _ h => h) (Or.inl ⟨by rfl, ?_⟩) (by assumption) ?_; rotate_left; (intro w hSw; go_simp; with_reducible rfl); (try simp only [Act.put, List.setIfInBounds_toArray, List.set_cons_zero, List.set_cons_succ]))
 (refine wpAnyH_take (i := 1) (oi := _) (v := ?_) rfl (by kernel_rfl) (by kernel_rfl) (by kernel_rfl) (fun _ _ _ h => h) (Or.inl ⟨by rfl, ?_⟩) (by assumption) ?_; rotate_left; (intro w hSw; go_simp; with_reducible rfl); (try simp only [Act.put, List.setIfInBounds_toArray, List.set_cons_zero, List.set_cons_succ]))
 (refine wpAnyH_take (i := 5) (oi := _) (v := ?_) rfl (by kernel_rfl) (by kernel_rfl) (by kernel_rfl) (fun _ _ _ h => h) (Or.inl ⟨by rfl, ?_⟩) (by assumption) ?_; rotate_left; (intro w hSw; go_simp; with_reducible rfl); (try simp only [Act.put, List.setIfInBounds_toArray, List.set_cons_zero, List.set_cons_succ]))
 (refine wpAnyH_take (i := 6) (oi := _) (v := ?_) rfl (by kernel_rfl) (by kernel_rfl) (by kernel_rfl) (fun _ _ _ h => h) (Or.inl ⟨by rfl, ?_⟩) (by assumption) ?_; rotate_left; (intro w hSw; go_simp; with_reducible rfl); (try simp only [Act.put, List.setIfInBounds_toArray, List.set_cons_zero, List.set_cons_succ]))
 refine wpAnyH_take (i := 7) (oi := _) (v := _) rfl (by kernel_rfl) (by kernel_rfl) (by kernel_rfl) (fun _ _ _ h => h) (yieldsIf_load_mid (by rfl) _ _ rfl g 0 rfl (Bs l) _ (fun w' hw' => hw') Tryz.underlying105 rfl (by rw [List.length_map, Hl.out]; kernel_rfl)) (by assumption) ?_
 (try simp only [Act.put, List.setIfInBounds_toArray, List.set_cons_zero, List.set_cons_succ])
 refine wpAnyH_ready (rs := [2]) (by kernel_rfl) (by simp) (AllReadyH.cons rfl (fun K hK => ?_) AllReadyH.nil)
 go_simp
 refine (lay_any k (some ⟨g, 0, none⟩) (l.take 56) 56 64 _ (by rw [List.length_take, Hl.out]; rfl) (Rd.of_range (by have := Rd.part Hb.out.range 0 56; rwa [List.drop_zero, ← List.map_take] at this)) (by omega) (by omega)).mono ?_
 rintro e w1 ⟨g1, rfl, hg1, hk1, hb1⟩
 have hbw : Below w.heap.size w w1 := ⟨hb1.os, hb1.tape, hb1.output, hb1.size, hb1.block⟩
 have hS1 : w1.rangeAt g 0 (Bs l) := (Hb.out.below hbw).range
 have hlp := Pg.length_page k (l := l.take 56) (by rw [List.length_take]; omega)
 have heq := fun w => run_eq_bytes (P := Tryz.prog) Tryz.underlying105 Tryz.underlying5 (by kernel_rfl) (Pg.page k (l.take 56)) l hlp Hl.out 9998 w
 refine hK.out _ _ hS1 (fun hS1' => ?_)
 clear hK K
 (try simp only [Act.put, List.setIfInBounds_toArray, List.set_cons_zero, List.set_cons_succ])
 (refine wpAnyH_take (i := 3) (oi := _) (v := ?_) rfl (by kernel_rfl) (by kernel_rfl) (by kernel_rfl) (fun _ _ _ h => h) (Or.inl ⟨by rfl, ?_⟩) (by assumption) ?_; rotate_left; (intro w hSw; go_simp; with_reducible rfl); (try simp only [Act.put, List.setIfInBounds_toArray, List.set_cons_zero, List.set_cons_succ]))
 refine wpAnyH_ready (rs := [4]) (by kernel_rfl) (by simp) (AllReadyH.cons rfl (fun K hK => ?_) AllReadyH.nil)
 rw [if_pos (by rfl)]
 refine wp_load_mid _ _ rfl g1 0 rfl (Bs (Pg.page k (l.take 56))) _ hk1.range Tryz.underlying105 rfl (by rw [List.length_map, hlp]; kernel_rfl) ?_
 (try simp only [Act.put, List.setIfInBounds_toArray, List.set_cons_zero, List.set_cons_succ])
 refine hK.out _ _ hS1 (fun hS2 => ?_)
 clear hK K
 (refine wpAnyH_take (i := 8) (oi := _) (v := ?_) rfl (by kernel_rfl) (by kernel_rfl) (by kernel_rfl) (fun _ _ _ h => h) (Or.inl ⟨by rfl, ?_⟩) (by assumption) ?_; rotate_left; (intro w hSw; go_simp; with_reducible rfl); (try simp only [Act.put, List.setIfInBounds_toArray, List.set_cons_zero, List.set_cons_succ]))
 refine wpAnyH_done (by kernel_rfl) ?_ _
 rw [decide_eq_false Hok.out]
 go_wp2_with fail
 go_ret2
 exact ⟨rfl, hbw⟩
theorem flip_no (B bs bp : Nat) (qs : List (Option Nat)) (s : Pg.St) (u : Int) (i j : Int) (m : UInt8) (w : World) (h : StoAt w B bs bp qs s u) (h1 : -9223372036854775808 ≤ i) (h2 : i ≤ 9223372036854775807) (hi : Pg.at_ s i = none ∨ j < 0 ∨ 64 ≤ j) :
  Calls Tryz.prog 31 #[.pointer (some ⟨bs, 0, none⟩), .int .i64 i, .int .i64 j, .int .u8 (m.toNat : Int)] w fun e w' => e = .returned (.tuple #[]) ∧ w = w' := by
 by_cases hp : Pg.at_ s i = none
 ·go_enter Tryz.func31, Tryz.ntmps31
  go_wp2_with fail
  refine (at_any B bs bp qs s u i w h h1 h2).mono ?_
  rintro e w' ⟨rfl, rfl⟩
  rw [h.ptr_none hp]
  unfold ptrV
  go_wp2
  go_end0
  exact ⟨rfl, rfl⟩
 ·have hj : j < 0 ∨ 64 ≤ j := by
   rcases hi with h | h | h
   ·exact absurd h hp
   ·exact .inl h
   ·exact .inr h
  clear hi
  obtain ⟨l, hl⟩ := Option.ne_none_iff_exists'.1 hp
  obtain ⟨k, g, rfl, hk, hs, hq, hpt, hg, hbk, hll⟩ := h.ptr_some hl
  have Hp := Lib.hid hpt
  clear hpt hs hq hbk hl hp
  rcases hj with hj | hj
  ·go_enter Tryz.func31, Tryz.ntmps31
   go_wp2_with fail
   refine (at_any B bs bp qs s u k w h h1 h2).mono ?_
   rintro e w' ⟨rfl, rfl⟩
   rw [Hp.out]
   unfold ptrV
   go_wp2
   go_end0
   exact ⟨rfl, rfl⟩
  ·go_enter Tryz.func31, Tryz.ntmps31
   go_wp2_with fail
   refine (at_any B bs bp qs s u k w h h1 h2).mono ?_
   rintro e w' ⟨rfl, rfl⟩
   rw [Hp.out]
   unfold ptrV
   go_wp2
   go_end0
   exact ⟨rfl, rfl⟩
theorem flip_yes (B bs bp : Nat) (qs : List (Option Nat)) (s : Pg.St) (u : Int) (i : Int) (l : List UInt8) (j : Nat) (m : UInt8) (w : World) (h : StoAt w B bs bp qs s u) (h1 : -9223372036854775808 ≤ i) (h2 : i ≤ 9223372036854775807) (hi : Pg.at_ s i = some l) (hj : j < 64) :
  Calls Tryz.prog 31 #[.pointer (some ⟨bs, 0, none⟩), .int .i64 i, .int .i64 (j : Int), .int .u8 (m.toNat : Int)] w fun e w' => e = .returned (.tuple #[]) ∧ StoAt w' B bs bp qs (s.set i.toNat (some (Pg.flip l j m))) u ∧ Keeps StT B w w' := by
 obtain ⟨k, g, rfl, hk, hs, hq, hpt, hg, hbk, hl⟩ := h.ptr_some hi
 have hc := hbk.cell j
 rw [List.getElem?_map, List.getElem?_eq_getElem (by omega), Option.map_some] at hc
 have hf := hbk.frozen j
 have hsto := h.byte hs hq (k := j) (l.getD j 0 ^^^ m)
 have hkp := (Keeps.refl StT B w).setCell hbk (i := j) (by simp) hg (YtcadjekcdokkjaaGreat.B (l.getD j 0 ^^^ m))
 have hjI : (0 : Int) ≤ (j : Int) := by omega
 have hjI' : (j : Int) < 64 := by omega
 have hx := u8_xor_nat (l[j]'(by omega)).toNat m.toNat (by have := (l[j]'(by omega)).toNat_lt; omega) (by have := m.toNat_lt; omega)
 have hgd : l.getD j 0 = l[j]'(by omega) := by rw [List.getD, List.getElem?_eq_getElem (by omega)]; rfl
 rw [hgd] at hsto hkp
 unfold YtcadjekcdokkjaaGreat.B at hc hsto hkp
 rw [UInt8.toNat_xor] at hsto hkp
 have Hs := Lib.hid hsto
 have Hk := Lib.hid hkp
 have Hp := Lib.hid hpt
 have Hg := Lib.hid hgd
 clear hpt hs hq hi hbk hgd hsto hkp
 generalize l[j]'(by omega) = lj at *
 go_enter Tryz.func31, Tryz.ntmps31
 go_wp2_with fail
 refine (at_any B bs bp qs s u k w h h1 h2).mono ?_
 rintro e w' ⟨rfl, rfl⟩
 rw [Hp.out]
 unfold ptrV
 clear h
 go_wp2_with fail
 go_region
 all_goals
  go_wp2
  go_end0
 exact ⟨rfl, by rw [Pg.flip, Hg.out]; exact Hs.out.drewN 1, Hk.out.drewN 1⟩
end Go.Proofs.YtcadjekcdokkjaaGreat
namespace Go.Proofs.YtcadjekcdokkjaaGreat
set_option linter.unusedVariables false
set_option linter.unusedSimpArgs false
open Go.RowKit
attribute [local go_sem ↓] Go.wp_at_zero Go.wp_at_succ
abbrev Is (l : List Nat) : List Value := l.map fun (i : Nat) => Value.int .i64 (i : Int)
theorem Is_one (l : List Nat) : ∀ u ∈ Is l, u.oneCell' = true := by
 intro u hu
 obtain ⟨_, _, rfl⟩ := List.mem_map.1 hu
 rfl
theorem Eint : ElemT Tryz.prog 57 3 1 8 (.int .i64 0) := ElemT.mk' (by kernel_rfl) (by kernel_rfl) rfl (by omega)
theorem Eptr : ElemT Tryz.prog 70 88 1 8 (.pointer none) := ElemT.mk' (by kernel_rfl) (by kernel_rfl) rfl (by omega)
theorem new_yes (n : Nat) (w : World) (h : n ≤ 4096) :
  Calls Tryz.prog 10 #[.int .i64 (n : Int)] w fun e w' => ∃ bs, e = .returned (.tuple #[.pointer (some ⟨bs, 0, none⟩), .int .i64 0]) ∧ Sto w' w.heap.size bs (List.replicate n none) ∧ Below w.heap.size w w' := by
 go_enter Tryz.func10, Tryz.ntmps10
 go_wp2_with (first | (at_builtin; refine hold ?_) | (at_make; refine hold ?_))
 (with_reducible refine unhold ?_)
 refine wpList_mkn rfl _ _ _ rfl Eptr w.heap.size _ _ _ _ n rfl rfl rfl rfl (by omega) (by unfold maxLen; omega) (Nat.le_refl _) ?_
 intro w1 ho1 hb1 hlt1
 have hz := hb1.size
 rw [Nat.mul_one] at ho1
 have hk := ho1.blk.1
 rw [show (Value.cells (.pointer none)) = #[.pointer none] from rfl, toList_madeCells_one] at hk
 go_wp2_with fail
 go_ret2
 refine ⟨w1.heap.size, rfl, ⟨w.heap.size, List.replicate n none, ?_⟩, hb1.alloc hz _⟩
 have hu : Pg.used (List.replicate n none) = 0 := by simp [Pg.used]
 rw [hu]
 refine ⟨hz, Nat.le_refl _, ?_, ?_, by simp, by simpa using h, fun i l hi => ?_, fun i hi => ?_, fun i j g hi _ => ?_⟩
 ·rw [List.length_replicate]
  exact Blk.new _ _ _
 ·rw [List.map_replicate]
  exact hk.alloc _
 ·simp [List.getElem?_replicate] at hi
 ·rw [List.getElem?_replicate] at hi ⊢
  split at hi
  ·rw [if_pos (by assumption)]
  ·cases hi
 ·simp [List.getElem?_replicate] at hi
theorem alloc_neg (B bs bp : Nat) (qs : List (Option Nat)) (s : Pg.St) (u : Int) (n : Int) (w : World) (_h : StoAt w B bs bp qs s u) (h1 : n < 0) (h2 : -9223372036854775808 ≤ n) :
  Calls Tryz.prog 26 #[.pointer (some ⟨bs, 0, none⟩), .int .i64 n] w fun e w' => e = .returned (.tuple #[.slice none 0 0, .int .i64 1]) ∧ w = w' := by
 go_enter Tryz.func26, Tryz.ntmps26
 go_wp2
 go_ret2
 exact ⟨rfl, rfl⟩
theorem most_any (B bs bp : Nat) (qs : List (Option Nat)) (s : Pg.St) (u : Int) (w : World) (h : StoAt w B bs bp qs s u) :
  Calls Tryz.prog 46 #[.pointer (some ⟨bs, 0, none⟩)] w fun e w' => e = .returned (.int .i64 (s.length : Nat)) ∧ w' = w := by
 have hc := h.st.cell 0
 simp only [List.getElem?_cons_zero] at hc
 go_enter Tryz.func46, Tryz.ntmps46
 go_wp2
 go_ret
 exact ⟨rfl, rfl⟩
theorem used_any (B bs bp : Nat) (qs : List (Option Nat)) (s : Pg.St) (u : Int) (w : World) (h : StoAt w B bs bp qs s u) :
  Calls Tryz.prog 24 #[.pointer (some ⟨bs, 0, none⟩)] w fun e w' => e = .returned (.int .i64 u) ∧ w' = w := by
 have hc := h.st.cell 1
 simp only [List.getElem?_cons_zero, List.getElem?_cons_succ] at hc
 go_enter Tryz.func24, Tryz.ntmps24
 go_wp2
 go_ret
 exact ⟨rfl, rfl⟩
theorem alloc_full (B bs bp : Nat) (qs : List (Option Nat)) (s : Pg.St) (n : Int) (w : World) (h : StoAt w B bs bp qs s (Pg.used s)) (h1 : (s.length : Int) - Pg.used s < n) (h2 : n ≤ 9223372036854775807) :
  Calls Tryz.prog 26 #[.pointer (some ⟨bs, 0, none⟩), .int .i64 n] w fun e w' => e = .returned (.tuple #[.slice none 0 0, .int .i64 4]) ∧ ∃ k, w.drewN k = w' := by
 have hc := h.st.cell 1
 simp only [List.getElem?_cons_zero, List.getElem?_cons_succ] at hc
 have hm := h.most
 have hu := Pg.used_le s
 have hn : 0 ≤ n := by omega
 go_enter Tryz.func26, Tryz.ntmps26
 go_wp2_with fail
 go_quiet ((go_at_call 46; exact Calls.quiet_of_same (most_any B bs bp qs s _ _ (h.drewN _))))
 go_wp2_with fail
 go_ret2
 exact ⟨rfl, _, rfl⟩
set_option maxRecDepth 100000 in
theorem alloc_yes (B bs bp : Nat) (qs : List (Option Nat)) (s : Pg.St) (n : Nat) (w : World) (h : StoAt w B bs bp qs s (Pg.used s)) (h1 : n ≤ s.length - Pg.used s) (hB : B ≤ w.heap.size) :
  Calls Tryz.prog 26 #[.pointer (some ⟨bs, 0, none⟩), .int .i64 (n : Int)] w fun e w' => ∃ A' c', e = .returned (.tuple #[.slice A' n c', .int .i64 0]) ∧ Own w' w.heap.size 3 1 A' n c' (Is (Pg.ids s n)) ∧
   (∃ qs', StoAt w' B bs bp qs' (Pg.fill s (Pg.ids s n)) ((Pg.used s + n : Nat) : Int)) ∧ Keeps StT B w w' := by
 have hc := h.st.cell 1
 simp only [List.getElem?_cons_zero, List.getElem?_cons_succ] at hc
 have hm := h.most
 have hu := Pg.used_le s
 have hall := Lib.hid (Pg.upTo_all s)
 go_enter Tryz.func26, Tryz.ntmps26
 go_wp2_with fail
 go_quiet ((go_at_call 46; exact Calls.quiet_of_same (most_any B bs bp qs s _ _ (h.drewN _))))
 go_wp2_with fail
 generalize hnq : w.drewN _ = w0
 have h0 : StoAt w0 B bs bp qs s (Pg.used s) := by rw [← hnq]; exact h.drewN _
 have hk0 : Keeps StT B w w0 := by rw [← hnq]; exact (Keeps.refl _ _ _).drewN _
 have hz0 : w0.heap.size = w.heap.size := by rw [← hnq]; rfl
 clear hnq h hc
 go_loopw [6, 7] (fun v i wr => ∃ (k m : Nat) (A : Option Addr) (c : Nat) (qs' : List (Option Nat)), k ≤ s.length ∧ m ≤ n ∧ Hid ((Pg.upTo s k).length = m) ∧ i = .int .i64 k ∧ v = .slice A m c ∧
   Own wr w.heap.size 3 1 A m c (Is (Pg.upTo s k)) ∧ StoAt wr B bs bp qs' (Pg.fill s (Pg.upTo s k)) (Pg.used s) ∧ Keeps StT B w wr) (fun _ i _ => s.length - (intOf i).toNat)
 case atStart => exact ⟨0, 0, none, 0, qs, by omega, by omega, rfl, rfl, rfl, Own.nil _ _ _ _, h0, hk0⟩
 case round =>
  obtain ⟨k, m, A, c, qs', hk, hmn, hlen, rfl, rfl, hown, hst, hkp⟩ := hrel
  have hzr := hkp.size
  have hfl := Pg.length_fill (Pg.upTo s k) s
  by_cases hlt : m < n
  ·have hks : k < s.length := by
    rcases Nat.lt_or_ge k s.length with h | h
    ·exact h
    ·obtain rfl : k = s.length := by omega
     have := hlen.out; have := hall.out; omega
   have hc0 := hst.st.cell 0
   simp only [List.getElem?_cons_zero] at hc0
   have hfree := Lib.hid (Pg.fill_free s (Nat.le_refl k))
   have hnext := Lib.hid (Pg.upTo_succ s k)
   have hkk : k < (Pg.fill s (Pg.upTo s k)).length := by omega
   have hcp := hst.cell_ptr hkk
   have hqn := hst.none_ k
   have hqs := hst.some_ k
   rw [hfl] at hc0
   by_cases hf : Pg.isFree s k = true
   ·have hsk : s[k]? = some none := by simpa [Pg.isFree] using hf
    have hq0 := hqn (hfree.out.trans hsk)
    have hqd : qs'.getD k none = none := by rw [List.getD, hq0]; rfl
    rw [hqd] at hcp
    have hfr := hst.row.frozen k
    have hne := hst.ne1
    have Hst := Lib.hid hst
    have Hown := Lib.hid hown
    have Hf := Lib.hid hf
    unfold ptrV at hcp
    simp only [Option.map_none] at hcp
    clear hst hown hqn hqs hfree hsk hq0 hqd hf hfl
    have hkI : (k : Int) < (List.length s : Int) := by omega
    have hk0 : (0 : Int) ≤ (k : Int) := by omega
    go_wp2_with fail
    go_region_held3 (fun w' => w'.cell? ⟨bs, 0, none⟩ = some (.slice (some ⟨bp, 0, none⟩) (List.length s) (List.length s)))
     (first | assumption | exact (hbl.cell (p := ⟨bs, 0, none⟩) (Blk.lt Hst.out.st)).trans hc0 | exact (World.cell?_setCell_other _ _ _ _ (fun e => hne (congrArg Addr.block e).symm)).trans ((hbl.cell (p := ⟨bs, 0, none⟩) (Blk.lt Hst.out.st)).trans hc0))
     ((go_at_call 47; refine (lay_any k none [] 0 0 _ rfl (Rd.nil _ _) (by omega) (by omega)).mono ?_; rintro e w1 ⟨g1, rfl, hg1, hk1, hbl⟩; have hp1 := (hbl.cell (p := ⟨bp, k, none⟩) (Blk.lt Hst.out.row)).trans hcp; have hf1 := (hbl.frozen (p := ⟨bp, k, none⟩) (Blk.lt Hst.out.row)).trans hfr))
    have hbw : Below wr.heap.size wr w1 := ⟨hbl.os, hbl.tape, hbl.output, hbl.size, hbl.block⟩
    have hst1 := Hst.out.below hbw
    have hput := hst1.put (i := k) (g := g1) hkk (by have := hkp.size; have : wr.heap.size ≤ g1 := hg1; omega) hk1 (Pg.length_page k (by simp)) (Hst.out.fresh hg1)
    have hkp1 := (hkp.then_below hbw).setCell hst1.row (i := k) (by simp) hst1.hp (ptrV (some g1))
    have hko1 := ((Keeps.refl StT B wr).then_below hbw).setCell hst1.row (i := k) (by simp) hst1.hp (ptrV (some g1))
    have hown1 := Own.keeps Hown.out (by decide) hko1
    unfold ptrV at hput hkp1 hown1
    simp only [Option.map_some] at hput hkp1 hown1
    clear hst1 hko1 hbl hp1 hf1 hk1 hbw
    generalize w1.setCell ⟨bp, k, none⟩ (.pointer (some ⟨g1, 0, none⟩)) = w2 at *
    have hz2 := hkp1.size
    go_wp2_with (first | (at_builtin; refine hold ?_) | (at_make; refine hold ?_))
    (with_reducible refine unhold ?_)
    refine wpList_apd rfl _ _ _ rfl Eint w.heap.size A m c (Is (Pg.upTo s k)) rfl (hown1.alloc _) _ 1 _ _ rfl (by rfl) (Rd.new _ _ _) (by simp [Value.oneCell']) (m + 1) rfl (Is (Pg.upTo s k ++ [k])) (by simp) (by omega) (by omega) (by simp; omega) ?_
    intro A3 c3 w3 ho3 hg3 hat3
    have hk3 := ((Keeps.refl [3] w.heap.size w2).alloc _).trans (Own.apd_keeps (hown1.alloc _) hg3)
    go_wp2_with fail
    go_roundw
    case rel =>
     have hnx : Pg.upTo s (k + 1) = Pg.upTo s k ++ [k] := by rw [hnext.out, if_pos Hf.out]
     refine ⟨k + 1, m + 1, A3, c3, qs'.set k (some g1), by omega, by omega, ?_, by go_num, rfl, ?_, ?_, ?_⟩
     ·show _ = _
      rw [hnx, List.length_append, hlen.out]
      rfl
     ·rw [hnx]; exact ho3
     ·rw [hnx, Pg.fill_snoc]; exact hput.keeps hk3 (by decide)
     ·exact hkp1.then_young hk3 (Nat.le_refl _)
    case measure => simp [intOf]; omega
   ·have hsk : ∃ l, s[k]? = some (some l) := by
     rw [List.getElem?_eq_getElem hks]
     cases e : s[k] with
     | none => exact absurd (by simp [Pg.isFree, List.getElem?_eq_getElem hks, e]) hf
     | some l => exact ⟨l, rfl⟩
    obtain ⟨l, hsk⟩ := hsk
    obtain ⟨g, hq0, _⟩ := hqs l (hfree.out.trans hsk)
    have hqd : qs'.getD k none = some g := by rw [List.getD, hq0]; rfl
    rw [hqd] at hcp
    have Hst := Lib.hid hst
    have Hown := Lib.hid hown
    have Hf := Lib.hid hf
    unfold ptrV at hcp
    simp only [Option.map_some] at hcp
    clear hst hown hqn hqs hfree hsk hq0 hqd hf hfl
    go_wp2_with fail
    go_roundw
    case rel =>
     have hnx : Pg.upTo s (k + 1) = Pg.upTo s k := by rw [hnext.out, if_neg Hf.out, List.append_nil]
     refine ⟨k + 1, m, A, c, qs', by omega, by omega, ?_, by go_num, rfl, ?_, ?_, hkp⟩
     ·show _ = _
      rw [hnx, hlen.out]
     ·rw [hnx]; exact Hown.out
     ·rw [hnx]; exact Hst.out
    case measure => simp [intOf]; omega
  ·have hid := Pg.upTo_ids (n := n) hk (hlen.out.trans (by omega))
   rw [hid] at hst hown
   have hcu := hst.st.cell 1
   simp only [List.getElem?_cons_zero, List.getElem?_cons_succ] at hcu
   have hfu := hst.st.frozen 1
   have hcnt := Lib.hid (hst.count ((Pg.used s : Int) + n))
   have hkc := Lib.hid (hkp.setCell hst.st (i := 1) (by simp) hst.hs (.int .i64 ((Pg.used s : Int) + n)))
   have hko := Lib.hid ((Keeps.refl StT B wr).setCell hst.st (i := 1) (by simp) hst.hs (.int .i64 ((Pg.used s : Int) + n)))
   have Hown := Lib.hid hown
   clear hst hid hlen hown hfl
   obtain rfl : m = n := by omega
   go_wp2_with fail
   go_ret2
   exact ⟨A, c, rfl, Own.keeps Hown.out (by decide) hko.out, ⟨qs', hcnt.out⟩, hkc.out⟩
end Go.Proofs.YtcadjekcdokkjaaGreat
