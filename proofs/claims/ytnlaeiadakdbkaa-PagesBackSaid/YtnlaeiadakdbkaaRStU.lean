/- The walks of the reference's store, on: write, flip. -/
import Derived.Test.YtnlaeiadakdbkaaRStV
namespace Go.Proofs.Ytnlaeiadakdbkaa
open Go.RowKit

attribute [local go_sem ↓] Go.wp_at_zero Go.wp_at_succ

set_option maxRecDepth 100000 in
theorem rwrite_c (B bs : Nat) (s : Pg.St) (i : Int) (A : Option Addr) (b : List UInt8) (n c : Nat) (w : World) (h : RSto w B bs s) (h1 : -9223372036854775808 ≤ i) (h2 : i ≤ 9223372036854775807) (hn : b.length = n) (hr : Rd w A (Bs b)) (hB : B ≤ w.heap.size) (hn9 : n ≤ 9223372036854775807) :
    Calls Try.prog 34 #[.pointer (some ⟨bs, 0, none⟩), .int .i64 i, .slice A n c] w fun e w' => e = .returned (.int .i64 (Pg.writeE s i b)) ∧ RSto w' B bs (Pg.writeS s i b) ∧ Keeps RefT B w w' := by
  obtain ⟨bp, h⟩ := h
  have hc := h.st.cell 0
  simp only [List.getElem?_cons_zero] at hc
  have hm := h.most
  have Hh := Lib.hid h
  have Hn := Lib.hid hn
  clear hn
  cases e : Pg.at_ s i with
  | none =>
    have hE : Hid (Pg.writeE s i b = 2) := by show _ = _; unfold Pg.writeE; rw [e]
    have hS : Hid (Pg.writeS s i b = s) := by show _ = _; unfold Pg.writeS; rw [e]
    have hs : Hid ((Pg.at_ s i).isSome = false) := by show _ = _; rw [e]; rfl
    clear h e
    go_enter Try.func34, Try.ntmps34
    go_wp2_with fail
    refine (rhas_any B bs s i w ⟨bp, Hh.out⟩ h1 h2).mono ?_
    rw [hs.out]
    rintro e w' ⟨rfl, rfl⟩
    go_wp2_with fail
    go_ret
    rw [hE.out, hS.out]
    exact ⟨rfl, ⟨bp, Hh.out⟩, Keeps.refl _ _ _⟩
  | some l =>
    have hs : Hid ((Pg.at_ s i).isSome = true) := by show _ = _; rw [e]; rfl
    obtain ⟨h0, hlt, hat⟩ := Pg.at_some e
    by_cases h56 : 56 < n
    · have hE : Hid (Pg.writeE s i b = 3) := by show _ = _; unfold Pg.writeE; rw [e, Hn.out]; exact if_pos h56
      have hS : Hid (Pg.writeS s i b = s) := by show _ = _; unfold Pg.writeS; rw [e, Hn.out]; exact if_pos h56
      clear h e hat
      go_enter Try.func34, Try.ntmps34
      go_wp2_with fail
      refine (rhas_any B bs s i w ⟨bp, Hh.out⟩ h1 h2).mono ?_
      rw [hs.out]
      rintro e w' ⟨rfl, rfl⟩
      go_wp2_with fail
      go_ret
      rw [hE.out, hS.out]
      exact ⟨rfl, ⟨bp, Hh.out⟩, Keeps.refl _ _ _⟩
    · have hE : Hid (Pg.writeE s i b = 0) := by show _ = _; unfold Pg.writeE; rw [e, Hn.out]; exact if_neg h56
      have hS : Hid (Pg.writeS s i b = s.set i.toNat (some (Pg.page i.toNat b))) := by show _ = _; unfold Pg.writeS; rw [e, Hn.out]; exact if_neg h56
      obtain ⟨k, rfl⟩ := Int.eq_ofNat_of_zero_le h0
      rw [Int.toNat_natCast] at hlt hat hS
      have ho2 := (h.on hat).2
      have hf2 := h.row.frozen (k * 2 + 1)
      have hkI : (k : Int) < (List.length s : Int) := by omega
      have hne := h.ne
      have Hat := Lib.hid hat
      clear h e hat
      go_enter Try.func34, Try.ntmps34
      go_wp2_with fail
      refine (rhas_any B bs s k w ⟨bp, Hh.out⟩ h1 h2).mono ?_
      rw [hs.out]
      rintro e w' ⟨rfl, rfl⟩
      go_wp2_with fail
      go_region_held3 (fun w' => w'.cell? ⟨bs, 0, none⟩ = some (.slice (some ⟨bp, 0, none⟩) (List.length s) (List.length s)))
        (first | assumption | exact (hbl.cell (p := ⟨bs, 0, none⟩) (Blk.lt Hh.out.st)).trans hc | exact (World.cell?_setCell_other _ _ _ _ (fun e => hne (congrArg Addr.block e).symm)).trans ((hbl.cell (p := ⟨bs, 0, none⟩) (Blk.lt Hh.out.st)).trans hc))
        ((go_at_call 42; refine (rlay_any k A b n c _ Hn.out (by exact hr) (by omega) (by omega)).mono ?_; rintro e w1 ⟨rfl, hbl⟩; have hp1 := (hbl.cell (p := ⟨bp, k * 2 + 1, none⟩) (Blk.lt Hh.out.row)).trans ho2; have hf1 := (hbl.frozen (p := ⟨bp, k * 2 + 1, none⟩) (Blk.lt Hh.out.row)).trans hf2))
      go_wp2_with fail
      go_ret
      rw [hE.out, hS.out]
      have hbw : Below w.heap.size w w1 := ⟨hbl.os, hbl.tape, hbl.output, hbl.size, hbl.block⟩
      have hlp := Pg.length_page k (l := b) (by rw [Hn.out]; omega)
      have hst := (Hh.out.below hbw).str Hat.out (Pg.page k b) hlp
      exact ⟨rfl, ⟨bp, hst⟩, ((Keeps.refl RefT B w).then_below hbw).setCell (Hh.out.below hbw).row (by simp) Hh.out.hp _⟩

theorem rflip_no (B bs : Nat) (s : Pg.St) (i j : Int) (m : UInt8) (w : World) (h : RSto w B bs s) (h1 : -9223372036854775808 ≤ i) (h2 : i ≤ 9223372036854775807) (hno : Pg.at_ s i = none ∨ j < 0 ∨ 64 ≤ j) :
    Calls Try.prog 35 #[.pointer (some ⟨bs, 0, none⟩), .int .i64 i, .int .i64 j, .int .u8 (m.toNat : Int)] w fun e w' => e = .returned (.tuple #[]) ∧ w = w' := by
  by_cases hp : (Pg.at_ s i).isSome = true
  · have hj : j < 0 ∨ 64 ≤ j := by
      rcases hno with h | h | h
      · rw [h] at hp; cases hp
      · exact .inl h
      · exact .inr h
    have Hp := Lib.hid hp
    clear hno hp
    rcases hj with hj | hj
    · go_enter Try.func35, Try.ntmps35
      go_wp2_with fail
      refine (rhas_any B bs s i w h h1 h2).mono ?_
      rw [Hp.out]
      rintro e w' ⟨rfl, rfl⟩
      go_wp2_with fail
      go_end0
      exact ⟨rfl, rfl⟩
    · go_enter Try.func35, Try.ntmps35
      go_wp2_with fail
      refine (rhas_any B bs s i w h h1 h2).mono ?_
      rw [Hp.out]
      rintro e w' ⟨rfl, rfl⟩
      go_wp2_with fail
      go_end0
      exact ⟨rfl, rfl⟩
  · have Hp := Lib.hid (Bool.eq_false_iff.2 hp)
    clear hno hp
    go_enter Try.func35, Try.ntmps35
    go_wp2_with fail
    refine (rhas_any B bs s i w h h1 h2).mono ?_
    rw [Hp.out]
    rintro e w' ⟨rfl, rfl⟩
    go_wp2_with fail
    go_end0
    exact ⟨rfl, rfl⟩

set_option maxRecDepth 100000 in
theorem rflip_yes (B bs : Nat) (s : Pg.St) (k j : Nat) (l : List UInt8) (m : UInt8) (w : World) (h : RSto w B bs s) (hat : s[k]? = some (some l)) (hj : j < 64) (hB : B ≤ w.heap.size) :
    Calls Try.prog 35 #[.pointer (some ⟨bs, 0, none⟩), .int .i64 (k : Int), .int .i64 (j : Int), .int .u8 (m.toNat : Int)] w fun e w' => e = .returned (.tuple #[]) ∧ RSto w' B bs (s.set k (some (Pg.flip l j m))) ∧ Keeps RefT B w w' := by
  obtain ⟨bp, h⟩ := h
  have hc := h.st.cell 0
  simp only [List.getElem?_cons_zero] at hc
  have hm := h.most
  have Hh := Lib.hid h
  have hlt := (List.getElem?_eq_some_iff.1 hat).1
  have Hat := Lib.hid hat
  have hl64 := h.lens _ _ hat
  have hs : Hid ((Pg.at_ s (k : Int)).isSome = true) := by show _ = _; rw [Pg.at_nat, hat]; rfl
  have ho2 := (h.on hat).2
  simp only [Option.getD_some] at ho2
  have hkI : (k : Int) < (List.length s : Int) := by omega
  have hjI : (j : Int) < 64 := by omega
  obtain ⟨c1, w1, hcv, hrg, hb1, hfz⟩ := run_byt w l
  rw [hl64] at hcv
  have hx := u8_xor_nat (l[j]'(by omega)).toNat m.toNat (by have := (l[j]'(by omega)).toNat_lt; omega) (by have := m.toNat_lt; omega)
  have hcj := hrg j (Ytnlaeiadakdbkaa.B (l[j]'(by omega))) (by rw [List.getElem?_map, List.getElem?_eq_getElem (by omega)]; rfl)
  rw [Nat.zero_add] at hcj
  have hfj := hfz j (by omega)
  have hset := range_set hrg (j := j) (by omega) (l.getD j 0 ^^^ m)
  have hgd : l.getD j 0 = l[j]'(by omega) := by rw [List.getD, List.getElem?_eq_getElem (by omega)]; rfl
  have hfl : Hid (l.set j (l.getD j 0 ^^^ m) = Pg.flip l j m) := rfl
  rw [hfl.out, hgd] at hset
  have hb2 := hb1.setCell (p := ⟨w.heap.size, j, none⟩) (Nat.le_refl _) (Ytnlaeiadakdbkaa.B (l[j]'(by omega) ^^^ m))
  unfold Ytnlaeiadakdbkaa.B at hcj hset hb2
  rw [UInt8.toNat_xor] at hset hb2
  have Hset := Lib.hid hset
  have Hb2 := Lib.hid hb2
  have hfl64 : Hid ((Pg.flip l j m).length = 64) := by show _ = _; unfold Pg.flip; rw [List.length_set, hl64]
  clear h hat hrg hset hb2 hgd hfz hfl
  generalize l[j]'(by omega) = lj at *
  go_enter Try.func35, Try.ntmps35
  go_wp2_with fail
  refine (rhas_any B bs s k w ⟨bp, Hh.out⟩ (by omega) (by omega)).mono ?_
  rw [hs.out]
  rintro e w' ⟨rfl, rfl⟩
  go_wp2_with fail
  generalize w1.setCell ⟨w.heap.size, j, none⟩ (.int .u8 ((lj.toNat ^^^ m.toNat : Nat) : Int)) = w2 at *
  have h2 := Lib.hid (Hh.out.below Hb2.out)
  have hc2 := h2.out.st.cell 0
  simp only [List.getElem?_cons_zero] at hc2
  have ho22 := (h2.out.on Hat.out).2
  have hf22 := h2.out.row.frozen (k * 2 + 1)
  have hcv2 := run_str w2.drew (some ⟨w.heap.size, 0, none⟩) (Pg.flip l j m) 64 c1 hfl64.out (Rd.of_range Hset.out)
  clear hc ho2 hcj hfj hcv
  go_region
  all_goals
    go_wp2
    go_end0
  exact ⟨rfl, ⟨bp, (h2.out.str Hat.out _ hfl64.out).drew 1⟩, (((Keeps.refl RefT B w).then_below Hb2.out).setCell h2.out.row (by simp) h2.out.hp _).drewN 1⟩
end Go.Proofs.Ytnlaeiadakdbkaa
