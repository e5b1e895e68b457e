/- The walks of the reference's store, on: alloc. -/
import Derived.Test.YtjjmnjgkodiibaaRStU
namespace Go.Proofs.Ytjjmnjgkodiibaa
open Go.RowKit

attribute [local go_sem ↓] Go.wp_at_zero Go.wp_at_succ

theorem ralloc_neg (bs : Nat) (n : Int) (w : World) (h1 : n < 0) (h2 : -9223372036854775808 ≤ n) :
    Calls Try.prog 21 #[.pointer (some ⟨bs, 0, none⟩), .int .i64 n] w fun e w' => e = .returned (.tuple #[.slice none 0 0, .int .i64 1]) ∧ w = w' := by
  go_enter Try.func21, Try.ntmps21
  go_wp2
  go_ret2
  exact ⟨rfl, rfl⟩

theorem ralloc_full (B bs : Nat) (s : Pg.St) (n : Int) (w : World) (h : RSto w B bs s) (h1 : (s.length : Int) - Pg.used s < n) (h2 : n ≤ 9223372036854775807) :
    Calls Try.prog 21 #[.pointer (some ⟨bs, 0, none⟩), .int .i64 n] w fun e w' => e = .returned (.tuple #[.slice none 0 0, .int .i64 4]) ∧ ∃ k, w.drewN k = w' := by
  obtain ⟨bp, h⟩ := h
  have hc := h.st.cell 0
  simp only [List.getElem?_cons_zero] at hc
  have hm := h.most
  have hu := Pg.used_le s
  have Hh := Lib.hid h
  clear h
  go_enter Try.func21, Try.ntmps21
  go_wp2_with fail
  go_quiet ((go_at_call 25; exact Calls.quiet_of_same ((rused_c B bs s _ ⟨bp, Hh.out.drew _⟩).mono fun _ _ ⟨h1, h2⟩ => ⟨h1, h2.symm⟩)))
  go_wp2_with fail
  go_ret2
  exact ⟨rfl, _, rfl⟩

set_option maxRecDepth 100000 in
theorem ralloc_yes (B bs : Nat) (s : Pg.St) (n : Nat) (w : World) (h : RSto w B bs s) (h1 : n ≤ s.length - Pg.used s) (hB : B ≤ w.heap.size) :
    Calls Try.prog 21 #[.pointer (some ⟨bs, 0, none⟩), .int .i64 (n : Int)] w fun e w' => ∃ A' c', e = .returned (.tuple #[.slice A' n c', .int .i64 0]) ∧ Own w' w.heap.size 3 1 A' n c' (Is (Pg.ids s n)) ∧
      RSto w' B bs (Pg.fill s (Pg.ids s n)) ∧ Keeps RefT B w w' := by
  obtain ⟨bp, h⟩ := h
  have hc := h.st.cell 0
  simp only [List.getElem?_cons_zero] at hc
  have hm := h.most
  have hu := Pg.used_le s
  have hall := Lib.hid (Pg.upTo_all s)
  have Hh := Lib.hid h
  clear h
  go_enter Try.func21, Try.ntmps21
  go_wp2_with fail
  go_quiet ((go_at_call 25; exact Calls.quiet_of_same ((rused_c B bs s _ ⟨bp, Hh.out.drew _⟩).mono fun _ _ ⟨h1, h2⟩ => ⟨h1, h2.symm⟩)))
  go_wp2_with fail
  generalize hnq : w.drewN _ = w0
  have h0 : RAt w0 B bs bp s := by rw [← hnq]; exact Hh.out.drew _
  have hk0 : Keeps RefT B w w0 := by rw [← hnq]; exact (Keeps.refl _ _ _).drewN _
  have hz0 : w0.heap.size = w.heap.size := by rw [← hnq]; rfl
  clear hnq hc
  go_loopw [6, 7] (fun v i wr => ∃ (k m : Nat) (A : Option Addr) (c : Nat), k ≤ s.length ∧ m ≤ n ∧ Hid ((Pg.upTo s k).length = m) ∧ i = .int .i64 k ∧ v = .slice A m c ∧
      Own wr w.heap.size 3 1 A m c (Is (Pg.upTo s k)) ∧ RAt wr B bs bp (Pg.fill s (Pg.upTo s k)) ∧ Keeps RefT B w wr) (fun _ i _ => s.length - (intOf i).toNat)
  case atStart => exact ⟨0, 0, none, 0, by omega, by omega, rfl, rfl, rfl, Own.nil _ _ _ _, h0, hk0⟩
  case round =>
    obtain ⟨k, m, A, c, hk, hmn, hlen, rfl, rfl, hown, hst, hkp⟩ := hrel
    have hzr := hkp.size
    have hfl := Pg.length_fill (Pg.upTo s k) s
    have hc0 := hst.st.cell 0
    simp only [List.getElem?_cons_zero] at hc0
    rw [hfl] at hc0
    by_cases hlt : m < n
    · have hks : k < s.length := by
        rcases Nat.lt_or_ge k s.length with h | h
        · exact h
        · obtain rfl : k = s.length := by omega
          have := hlen.out; have := hall.out; omega
      have hfree := Lib.hid (Pg.fill_free s (Nat.le_refl k))
      have hnext := Lib.hid (Pg.upTo_succ s k)
      have hkk : k < (Pg.fill s (Pg.upTo s k)).length := by omega
      have hkI : (k : Int) < (List.length s : Int) := by omega
      have hk0 : (0 : Int) ≤ (k : Int) := by omega
      have hon := hst.on (hfree.out.trans (List.getElem?_eq_getElem hks))
      have ho1 := hon.1
      have ho2 := hon.2
      have hf1 := hst.row.frozen (k * 2)
      have hf2 := hst.row.frozen (k * 2 + 1)
      have hne := hst.ne
      have Hst := Lib.hid hst
      have Hown := Lib.hid hown
      clear hst hown hon hfl
      cases e : s[k] with
      | none =>
        rw [e] at ho1 ho2
        simp only [Option.isSome_none] at ho1
        have Hf : Hid (Pg.isFree s k = true) := by show _ = _; simp [Pg.isFree, List.getElem?_eq_getElem hks, e]
        clear e hfree
        go_wp2_with fail
        go_region_held3 (fun w' => w'.cell? ⟨bs, 0, none⟩ = some (.slice (some ⟨bp, 0, none⟩) (List.length s) (List.length s)))
          (first | assumption | exact (hbl.cell (p := ⟨bs, 0, none⟩) (Blk.lt Hst.out.st)).trans hc0 | exact (World.cell?_setCell_other _ _ _ _ (fun e => hne (congrArg Addr.block e).symm)).trans ((World.cell?_setCell_other _ _ _ _ (fun e => hne (congrArg Addr.block e).symm)).trans ((hbl.cell (p := ⟨bs, 0, none⟩) (Blk.lt Hst.out.st)).trans hc0)))
          ((go_at_call 50; refine (rlay_any k none [] 0 0 _ rfl (Rd.nil _ _) (by omega) (by omega)).mono ?_; rintro e w1 ⟨rfl, hbl⟩; have hp1 := (hbl.cell (p := ⟨bp, k * 2, none⟩) (Blk.lt Hst.out.row)).trans ho1; have hp2 := (hbl.cell (p := ⟨bp, k * 2 + 1, none⟩) (Blk.lt Hst.out.row)).trans ho2; have hf11 := (hbl.frozen (p := ⟨bp, k * 2, none⟩) (Blk.lt Hst.out.row)).trans hf1; have hf12 := (hbl.frozen (p := ⟨bp, k * 2 + 1, none⟩) (Blk.lt Hst.out.row)).trans hf2))
        have hbw : Below wr.heap.size wr w1 := ⟨hbl.os, hbl.tape, hbl.output, hbl.size, hbl.block⟩
        have hst1 := Hst.out.below hbw
        have hput := hst1.set_ hkk (some (Pg.page k [])) (fun l h => by rw [← Option.some.inj h]; exact Pg.length_page k (by simp))
        have hko1 := (((Keeps.refl RefT B wr).then_below hbw).setCell hst1.row (i := k * 2) (by simp) hst1.hp (.bool true)).setCell (hst1.row.set_ _ _) (i := k * 2 + 1) (by simp) hst1.hp (.string (St8 (Pg.page k [])))
        have hown1 := Own.keeps Hown.out (by decide) hko1
        have hkp1 := hkp.trans hko1
        simp only [Option.isSome_some, Option.getD_some] at hput
        clear hst1 hko1 hbl hp1 hp2 hf11 hf12 hbw
        generalize (w1.setCell ⟨bp, k * 2, none⟩ (.bool true)).setCell ⟨bp, k * 2 + 1, none⟩ (.string (St8 (Pg.page k []))) = w2 at *
        have hz2 := hkp1.size
        go_wp2_with (first | (at_builtin; refine hold ?_) | (at_make; refine hold ?_))
        (with_reducible refine unhold ?_)
        refine wpList_apd rfl _ _ _ rfl Eint w.heap.size A m c (Is (Pg.upTo s k)) rfl (hown1.alloc _) _ 1 _ _ rfl (by rfl) (Rd.new _ _ _) (by simp [Value.oneCell']) (m + 1) rfl (Is (Pg.upTo s k ++ [k])) (by simp) (by omega) (by omega) (by simp; omega) ?_
        intro A3 c3 w3 ho3 hg3 hat3
        have hk3 := ((Keeps.refl [3] w.heap.size w2).alloc _).trans (Own.apd_keeps (hown1.alloc _) hg3)
        go_wp2_with fail
        go_roundw
        case rel =>
          have hnx : Pg.upTo s (k + 1) = Pg.upTo s k ++ [k] := by rw [hnext.out, if_pos Hf.out]
          refine ⟨k + 1, m + 1, A3, c3, by omega, by omega, ?_, by go_num, rfl, ?_, ?_, ?_⟩
          · show _ = _
            rw [hnx, List.length_append, hlen.out]
            rfl
          · rw [hnx]; exact ho3
          · rw [hnx, Pg.fill_snoc]; exact hput.keeps hk3 (by decide)
          · exact hkp1.then_young hk3 (Nat.le_refl _)
        case measure => simp [intOf]; omega
      | some l =>
        rw [e] at ho1 ho2
        simp only [Option.isSome_some] at ho1
        have Hf : Hid (¬ Pg.isFree s k = true) := by show ¬ _; simp [Pg.isFree, List.getElem?_eq_getElem hks, e]
        clear e hfree
        go_wp2_with fail
        go_roundw
        case rel =>
          have hnx : Pg.upTo s (k + 1) = Pg.upTo s k := by rw [hnext.out, if_neg Hf.out, List.append_nil]
          refine ⟨k + 1, m, A, c, by omega, by omega, ?_, by go_num, rfl, ?_, ?_, hkp⟩
          · show _ = _
            rw [hnx, hlen.out]
          · rw [hnx]; exact Hown.out
          · rw [hnx]; exact Hst.out
        case measure => simp [intOf]; omega
    · have hid := Pg.upTo_ids (n := n) hk (hlen.out.trans (by omega))
      rw [hid] at hst hown
      have Hst := Lib.hid hst
      have Hown := Lib.hid hown
      clear hst hid hlen hown hfl
      obtain rfl : m = n := by omega
      by_cases hks : k < s.length
      · have hkI : (k : Int) < (List.length s : Int) := by omega
        go_wp2_with fail
        go_ret2
        exact ⟨A, c, rfl, Hown.out, ⟨bp, Hst.out⟩, hkp⟩
      · have hkI : (List.length s : Int) ≤ (k : Int) := by omega
        go_wp2_with fail
        go_ret2
        exact ⟨A, c, rfl, Hown.out, ⟨bp, Hst.out⟩, hkp⟩

theorem ralloc_c (B bs : Nat) (s : Pg.St) (n : Int) (w : World) (h : RSto w B bs s) (h1 : -9223372036854775808 ≤ n) (h2 : n ≤ 9223372036854775807) (hB : B ≤ w.heap.size) :
    Calls Try.prog 21 #[.pointer (some ⟨bs, 0, none⟩), .int .i64 n] w fun e w' => ∃ A c, e = .returned (.tuple #[.slice A (Pg.allocL s n).length c, .int .i64 (Pg.allocE s n)]) ∧ Own w' w.heap.size 3 1 A (Pg.allocL s n).length c (Is (Pg.allocL s n)) ∧
      RSto w' B bs (Pg.allocS s n) ∧ Keeps RefT B w w' := by
  have hu := Pg.used_le s
  unfold Pg.allocL Pg.allocS
  by_cases hn : n < 0
  · have he : Pg.allocE s n = 1 := by unfold Pg.allocE; rw [if_pos hn]
    rw [he]
    refine (ralloc_neg bs n w hn h1).mono ?_
    rintro _ w' ⟨rfl, rfl⟩
    exact ⟨none, 0, rfl, Own.nil _ _ _ _, h, Keeps.refl _ _ _⟩
  · by_cases hf : (s.length : Int) - Pg.used s < n
    · have he : Pg.allocE s n = 4 := by unfold Pg.allocE; rw [if_neg hn, if_pos hf]
      rw [he]
      refine (ralloc_full B bs s n w h hf h2).mono ?_
      rintro _ w' ⟨rfl, k, rfl⟩
      exact ⟨none, 0, rfl, Own.nil _ _ _ _, h.drewN k, (Keeps.refl _ _ _).drewN k⟩
    · have he : Pg.allocE s n = 0 := by unfold Pg.allocE; rw [if_neg hn, if_neg hf]
      rw [he, if_pos rfl, if_pos rfl]
      obtain ⟨k, rfl⟩ := Int.eq_ofNat_of_zero_le (by omega : 0 ≤ n)
      rw [Int.toNat_natCast]
      have hk : k ≤ s.length - Pg.used s := by omega
      rw [Pg.length_ids hk]
      exact ralloc_yes B bs s k w h hk hB
end Go.Proofs.Ytjjmnjgkodiibaa
