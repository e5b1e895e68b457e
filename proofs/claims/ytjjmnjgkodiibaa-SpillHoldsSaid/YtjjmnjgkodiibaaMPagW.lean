/- The walks of package pages: what each method does to a store, as a plain function on its pages. -/
import Derived.Test.YtjjmnjgkodiibaaMStCr
import Derived.Test.YtjjmnjgkodiibaaMPaMS
namespace Go.Proofs.Ytjjmnjgkodiibaa
open Go.RowKit

theorem zero_page (w : World) : (zeroValue 115).run Try.prog w = .ok (.agg (Crc.zrow 64 (.int .u8 0))) w := by kernel_rfl

theorem arrayAt_page (g o c : Nat) (w : World) : (Instr.arrayAt 115 (.slice (some ⟨g, o, none⟩) 64 c)).run Try.prog w = .ok (.pointer (some ⟨g, o, none⟩)) w := by kernel_rfl

set_option maxRecDepth 100000 in
theorem lay_any (id : Nat) (A : Option Addr) (l : List UInt8) (n c : Nat) (w : World) (hn : l.length = n) (hr : Rd w A (Bs l)) (hl : n ≤ 56) (hid : id < 4294967296) :
    Calls Try.prog 49 #[.int .i64 (id : Int), .slice A n c] w fun e w' => ∃ g, e = .returned (.pointer (some ⟨g, 0, none⟩)) ∧ w.heap.size ≤ g ∧ Blk w' g 115 (Bs (Pg.page id l)) ∧ Below w.heap.size w w' := by
  subst hn
  have hz := fun w => zero_page w
  have ha := fun g o c w => arrayAt_page g o c w
  go_enter Try.func49, Try.ntmps49
  go_wp2_with (first | (at_builtin; refine hold ?_) | (at_make; refine hold ?_))
  (with_reducible refine unhold ?_)
  refine wpList_mkn rfl _ _ _ rfl E8 w.heap.size _ _ _ _ 60 rfl rfl rfl rfl (by omega) (by unfold maxLen; omega) (Nat.le_refl _) ?_
  intro w1 ho1 hb1 hlt1
  have hr1 := hr.below hb1
  go_wp2_with (with_reducible refine holdAt 11 ?_)
  (with_reducible refine unhold ?_)
  have hk := ho1.blk.1
  rw [show (Value.cells (.int .u8 0)) = #[.int .u8 0] from rfl, toList_madeCells_one] at hk
  refine wpList_copy_splice rfl _ _ _ _ rfl 5 Try.underlying58 (by kernel_rfl) _ _ 60 60 l.length c rfl rfl w.heap.size 0 (List.replicate 60 (.int .u8 0)) 5 hk (Bs l) (by rw [List.length_map]; exact (Nat.min_eq_left (by omega)).symm) ?_ (by simp; omega) (Bs_one l) w.heap.size w hb1 (Nat.le_refl _) ?_
  · intro hp
    have hne : Bs l ≠ [] := by intro h; rw [h] at hp; simp at hp
    obtain ⟨b, o, rfl, hrr⟩ := hr1 hne
    exact ⟨rfl, _, rfl, fun j v hv => by rw [Addr.add_mid]; exact hrr j v hv⟩
  intro w2 hk2 hb2
  have hk2' : Blk w2 w.heap.size 5 (splice (List.replicate 60 (.int .u8 0)) 0 (Bs l)) := hk2.out
  clear hk2 hk
  have hlen : (splice (List.replicate 60 (.int .u8 0)) 0 (Bs l)).length = 60 := by rw [length_splice _ _ _ (by simp; omega)]; simp
  have hsp : splice (List.replicate 60 (.int .u8 0)) 0 (Bs l) = Bs (l ++ List.replicate (56 - l.length) 0) ++ [.int .u8 0, .int .u8 0, .int .u8 0, .int .u8 0] := by
    unfold splice
    simp only [List.take_zero, List.nil_append, Nat.zero_add, List.drop_replicate, List.map_append, List.map_replicate, List.length_map, List.append_assoc]
    congr 1
    rw [show 60 - l.length = (56 - l.length) + 4 from by omega, ← List.replicate_append_replicate]
    rfl
  rw [hsp] at hk2' hlen
  have hl56 : (Bs (l ++ List.replicate (56 - l.length) 0)).length = 56 := by simp; omega
  have Hf := Lib.hid (Pg.front_cells id l hid)
  generalize Bs (l ++ List.replicate (56 - l.length) 0) = pre at *
  have hc : ∀ j, j < 4 → w2.cell? ⟨w.heap.size, 56 + j, none⟩ = some (.int .u8 0) := by
    intro j hj
    rw [hk2'.cell, List.getElem?_append_right (by omega), hl56, Nat.add_sub_cancel_left]
    match j, hj with
    | 0, _ => rfl
    | 1, _ => rfl
    | 2, _ => rfl
    | 3, _ => rfl
  have hc0 := hc 0 (by omega)
  have hc1 := hc 1 (by omega)
  have hc2 := hc 2 (by omega)
  have hc3 := hc 3 (by omega)
  have hf := fun i => hk2'.frozen i
  clear hc
  have Hk := Lib.hid hk2'
  clear hk2' hsp
  go_wp2_with fail
  refine wp_loop_rounds 5 ?_
  repeat any_goals (rw [rounds_succ]; go_wp2_with fail)
  have hk4 : Blk ((((w2.setCell ⟨w.heap.size, 59, none⟩ (.int .u8 ((id : Int) % 256))).setCell ⟨w.heap.size, 58, none⟩ (.int .u8 ((id : Int) / 256 % 256))).setCell ⟨w.heap.size, 57, none⟩ (.int .u8 ((id : Int) / 65536 % 256))).setCell ⟨w.heap.size, 56, none⟩ (.int .u8 ((id : Int) / 16777216))) w.heap.size 5 (Bs (Pg.front id l)) := by
    have h4 := (((Hk.out.set_ 59 (.int .u8 ((id : Int) % 256))).set_ 58 (.int .u8 ((id : Int) / 256 % 256))).set_ 57 (.int .u8 ((id : Int) / 65536 % 256))).set_ 56 (.int .u8 ((id : Int) / 16777216))
    rw [← Hf.out]
    rw [Pg.set4 _ hl56] at h4
    exact h4
  have hb4 : Below w.heap.size w ((((w2.setCell ⟨w.heap.size, 59, none⟩ (.int .u8 ((id : Int) % 256))).setCell ⟨w.heap.size, 58, none⟩ (.int .u8 ((id : Int) / 256 % 256))).setCell ⟨w.heap.size, 57, none⟩ (.int .u8 ((id : Int) / 65536 % 256))).setCell ⟨w.heap.size, 56, none⟩ (.int .u8 ((id : Int) / 16777216))) :=
    (((hb2.setCell (Nat.le_refl _) _).setCell (Nat.le_refl _) _).setCell (Nat.le_refl _) _).setCell (Nat.le_refl _) _
  clear Hk hc0 hc1 hc2 hc3 hf hb2
  generalize ((((w2.setCell ⟨w.heap.size, 59, none⟩ (.int .u8 ((id : Int) % 256))).setCell ⟨w.heap.size, 58, none⟩ (.int .u8 ((id : Int) / 256 % 256))).setCell ⟨w.heap.size, 57, none⟩ (.int .u8 ((id : Int) / 65536 % 256))).setCell ⟨w.heap.size, 56, none⟩ (.int .u8 ((id : Int) / 16777216))) = w4 at *
  refine (crc_seal (some ⟨w.heap.size, 0, none⟩) (Pg.front id l) 60 60 w4 (Pg.length_front id hl) (Rd.of_blk hk4) (by omega)).mono ?_
  rintro e w5 ⟨A5, c5, rfl, ho5, hb5⟩
  have hz5 := hb5.size
  have hb05 := hb4.trans (hb5.mono hb4.size)
  rcases ho5.lies with ⟨_, h0, _⟩ | ⟨g5, cur5, rfl, hg5, hlt5, hh5, hs5, ht5⟩
  · omega
  have hr5 : w5.rangeAt g5 0 (Bs (Pg.page id l)) := by
    obtain ⟨b, o, he, hr⟩ := ho5.rd (by unfold Crc.seal_; simp)
    injection he with he
    injection he with h1 h2
    subst h1; subst h2
    exact hr
  have hlp := Pg.length_page id hl
  go_wp2_with (with_reducible refine holdAt 28 ?_)
  (with_reducible refine unhold ?_)
  refine wpList_load_mid rfl _ _ rfl g5 0 rfl (Bs (Pg.page id l)) _ hr5 Try.underlying115 rfl (by rw [List.length_map, hlp]; kernel_rfl) ?_
  have hlz : (Crc.zrow 64 (.int .u8 0)).toList.length = (Bs (Pg.page id l)).length := by rw [List.length_map, hlp]; rfl
  have hsz : (Bs (Pg.page id l)).toArray.size = 64 := by simpa using hlp
  have h1p := Bs_one (Pg.page id l)
  generalize hpg : Bs (Pg.page id l) = pg at *
  have Hpg := Lib.hid hpg
  clear hpg
  go_wp2_with (with_reducible refine holdStore 115 ?_)
  (with_reducible refine unhold ?_)
  have hkz := Blk.new w5 115 (Crc.zrow 64 (.int .u8 0))
  refine wpList_store_mid rfl _ _ _ rfl w5.heap.size 0 pg.toArray rfl rfl ?_ (by rw [hsz]; kernel_rfl) (all_oneCell_toArray h1p) ?_
  · have := hkz.there
    rw [hlz] at this
    simpa using this
  have hkp := hkz.whole (vs := pg) hlz
  have hbp := below_setCells ((hb05.alloc hb05.size (.cells (Crc.zrow 64 (.int .u8 0)) 115))) (b := w5.heap.size) hb05.size pg 0
  rw [List.toList_toArray]
  generalize (w5.alloc (.cells (Crc.zrow 64 (.int .u8 0)) 115)).setCells w5.heap.size 0 pg = w6 at *
  go_wp2_with fail
  go_ret
  exact ⟨w5.heap.size, rfl, hb05.size, by rw [Hpg.out]; exact hkp, hbp⟩
theorem at_any (B bs bp : Nat) (qs : List (Option Nat)) (s : Pg.St) (u : Int) (i : Int) (w : World) (h : StoAt w B bs bp qs s u) (h1 : -9223372036854775808 ≤ i) (h2 : i ≤ 9223372036854775807) :
    Calls Try.prog 54 #[.pointer (some ⟨bs, 0, none⟩), .int .i64 i] w fun e w' => e = .returned (ptrV (ptrAt qs i)) ∧ w = w' := by
  have hc := h.st.cell 0
  simp only [List.getElem?_cons_zero] at hc
  have hm := h.most
  have hlen := Lib.hid h.len
  by_cases h0 : i < 0
  · have hp := Lib.hid (ptrAt_out (qs := qs) (i := i) (.inl h0))
    go_enter Try.func54, Try.ntmps54
    go_wp2
    go_ret
    exact ⟨by rw [hp.out]; rfl, rfl⟩
  · by_cases hl : i < s.length
    · have h0' : 0 ≤ i := by omega
      obtain ⟨k, rfl⟩ := Int.eq_ofNat_of_zero_le h0'
      have hp := h.cell_ptr (i := k) (by omega)
      rw [← ptrAt_in (by have := hlen.out; omega)] at hp
      generalize ptrV (ptrAt qs k) = q at *
      clear h0 h
      go_enter Try.func54, Try.ntmps54
      go_wp2
      go_ret
      exact ⟨rfl, rfl⟩
    · have hp := Lib.hid (ptrAt_out (qs := qs) (i := i) (.inr (by have := hlen.out; omega)))
      go_enter Try.func54, Try.ntmps54
      go_wp2
      go_ret
      exact ⟨by rw [hp.out]; rfl, rfl⟩

theorem at_nil (i : Int) (w : World) :
    Calls Try.prog 54 #[.pointer none, .int .i64 i] w fun e w' => e = .returned (.pointer none) ∧ w = w' := by
  go_enter Try.func54, Try.ntmps54
  go_wp2
  go_ret
  exact ⟨rfl, rfl⟩

theorem free_no (B bs bp : Nat) (qs : List (Option Nat)) (s : Pg.St) (u : Int) (i : Int) (w : World) (h : StoAt w B bs bp qs s u) (h1 : -9223372036854775808 ≤ i) (h2 : i ≤ 9223372036854775807) (hi : Pg.at_ s i = none) :
    Calls Try.prog 70 #[.pointer (some ⟨bs, 0, none⟩), .int .i64 i] w fun e w' => e = .returned (.int .i64 2) ∧ w = w' := by
  go_enter Try.func70, Try.ntmps70
  go_wp2_with fail
  refine (at_any B bs bp qs s u i w h h1 h2).mono ?_
  rintro e w' ⟨rfl, rfl⟩
  rw [h.ptr_none hi]
  unfold ptrV
  go_wp2
  go_ret
  exact ⟨rfl, rfl⟩

theorem free_yes (B bs bp : Nat) (qs : List (Option Nat)) (s : Pg.St) (u : Int) (i : Int) (l : List UInt8) (w : World) (h : StoAt w B bs bp qs s u) (h1 : -9223372036854775808 ≤ i) (h2 : i ≤ 9223372036854775807) (hi : Pg.at_ s i = some l) (hu : -4096 ≤ u ∧ u ≤ 4096) :
    Calls Try.prog 70 #[.pointer (some ⟨bs, 0, none⟩), .int .i64 i] w fun e w' => e = .returned (.int .i64 0) ∧ StoAt w' B bs bp (qs.set i.toNat none) (s.set i.toNat none) (u - 1) ∧ Keeps StT B w w' := by
  obtain ⟨k, g, rfl, hk, hs, hq, hpt, hg, hb, hl⟩ := h.ptr_some hi
  have hc := h.st.cell 0
  have hcu := h.st.cell 1
  simp only [List.getElem?_cons_zero, List.getElem?_cons_succ] at hc hcu
  have hf := h.row.frozen k
  have hf1 := h.st.frozen 1
  have hp := h.cell_ptr hk
  have hm := h.most
  have hd1 := h.drop hk
  have hd := hd1.count (u - 1)
  have hkk := (((Keeps.refl StT B w).setCell h.row (i := k) (by simp) h.hp (ptrV none)).setCell hd1.st (i := 1) (by simp) h.hs (.int .i64 (u - 1)))
  have hne := h.ne1
  generalize ptrV (qs.getD k none) = pq at *
  have Hd := Lib.hid hd
  have Hk := Lib.hid hkk
  have Hp := Lib.hid hpt
  clear hd hkk hd1 hpt hq hs hi hb
  unfold ptrV at Hd Hk
  go_enter Try.func70, Try.ntmps70
  go_wp2_with fail
  refine (at_any B bs bp qs s u k w h h1 h2).mono ?_
  rintro e w' ⟨rfl, rfl⟩
  clear h
  rw [Hp.out]
  unfold ptrV
  go_wp2
  go_ret
  exact ⟨rfl, Hd.out, Hk.out⟩
attribute [local go_sem ↓] Go.wp_at_zero Go.wp_at_succ

set_option maxRecDepth 100000 in
theorem write_yes (B bs bp : Nat) (qs : List (Option Nat)) (s : Pg.St) (u : Int) (i : Int) (l : List UInt8) (A : Option Addr) (b : List UInt8) (n c : Nat) (w : World) (h : StoAt w B bs bp qs s u) (h1 : -9223372036854775808 ≤ i) (h2 : i ≤ 9223372036854775807) (hi : Pg.at_ s i = some l)
    (hn : b.length = n) (hr : Rd w A (Bs b)) (hb : n ≤ 56) (hB : B ≤ w.heap.size) :
    Calls Try.prog 69 #[.pointer (some ⟨bs, 0, none⟩), .int .i64 i, .slice A n c] w fun e w' => e = .returned (.int .i64 0) ∧ (∃ qs', StoAt w' B bs bp qs' (s.set i.toNat (some (Pg.page i.toNat b))) u) ∧ Keeps StT B w w' := by
  obtain ⟨k, g, rfl, hk, hs, hq, hpt, hg, hbk, hl⟩ := h.ptr_some hi
  have hc := h.st.cell 0
  simp only [List.getElem?_cons_zero] at hc
  have hf := h.row.frozen k
  have hp := h.cell_ptr hk
  have hm := h.most
  have hne := h.ne1
  generalize ptrV (qs.getD k none) = pq at *
  have Hp := Lib.hid hpt
  have Hh := Lib.hid h
  have Hn := Lib.hid hn
  clear hpt hq hs hi hbk hn
  have hkI : (k : Int) < (List.length s : Int) := by omega
  have hk0 : (0 : Int) ≤ (k : Int) := by omega
  go_enter Try.func69, Try.ntmps69
  go_wp2_with fail
  refine (at_any B bs bp qs s u k w h h1 h2).mono ?_
  rintro e w' ⟨rfl, rfl⟩
  clear h
  rw [Hp.out]
  unfold ptrV
  go_wp2_with fail
  go_region_held3 (fun w' => w'.cell? ⟨bs, 0, none⟩ = some (.slice (some ⟨bp, 0, none⟩) (List.length s) (List.length s)))
    (first | assumption | exact (hbl.cell (p := ⟨bs, 0, none⟩) (Blk.lt Hh.out.st)).trans hc | exact (World.cell?_setCell_other _ _ _ _ (fun e => hne (congrArg Addr.block e).symm)).trans ((hbl.cell (p := ⟨bs, 0, none⟩) (Blk.lt Hh.out.st)).trans hc))
    ((go_at_call 49; refine (lay_any k A b n c _ Hn.out (by exact hr) hb (by omega)).mono ?_; rintro e w1 ⟨g1, rfl, hg1, hk1, hbl⟩; have hp1 := (hbl.cell (p := ⟨bp, k, none⟩) (Blk.lt Hh.out.row)).trans hp; have hf1 := (hbl.frozen (p := ⟨bp, k, none⟩) (Blk.lt Hh.out.row)).trans hf))
  go_wp2_with fail
  go_ret
  have hbw : Below w.heap.size w w1 := ⟨hbl.os, hbl.tape, hbl.output, hbl.size, hbl.block⟩
  have hlp := Pg.length_page k (l := b) (by rw [Hn.out]; exact hb)
  have hput := (Hh.out.below hbw).put (i := k) (g := g1) hk (Nat.le_trans hB hg1) hk1 hlp (Hh.out.fresh hg1)
  exact ⟨rfl, ⟨_, hput⟩, ((Keeps.refl StT B w).then_below hbw).setCell (Hh.out.below hbw).row (by simp) Hh.out.hp _⟩
end Go.Proofs.Ytjjmnjgkodiibaa
