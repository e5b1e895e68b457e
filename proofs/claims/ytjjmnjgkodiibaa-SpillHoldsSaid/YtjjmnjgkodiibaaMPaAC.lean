/- The walks of package pages, on: a new store, and pages that are taken. The walks of package pages, on: bytes put onto pages. The contracts of package pages: each method as a function of the store's pages. -/
import Derived.Test.YtjjmnjgkodiibaaMPagV
namespace Go.Proofs.Ytjjmnjgkodiibaa
open Go.RowKit

attribute [local go_sem ↓] Go.wp_at_zero Go.wp_at_succ

/-- Numbers as values. -/
abbrev Is (l : List Nat) : List Value := l.map fun (i : Nat) => Value.int .i64 (i : Int)
theorem Is_one (l : List Nat) : ∀ u ∈ Is l, u.oneCell' = true := by
  intro u hu
  obtain ⟨_, _, rfl⟩ := List.mem_map.1 hu
  rfl

theorem Eint : ElemT Try.prog 43 3 1 8 (.int .i64 0) := ElemT.mk' (by kernel_rfl) (by kernel_rfl) rfl (by omega)
theorem Eptr : ElemT Try.prog 79 94 1 8 (.pointer none) := ElemT.mk' (by kernel_rfl) (by kernel_rfl) rfl (by omega)

theorem new_no (m : Int) (w : World) (h : m < 0 ∨ 4096 < m) (h1 : -9223372036854775808 ≤ m) (h2 : m ≤ 9223372036854775807) :
    Calls Try.prog 10 #[.int .i64 m] w fun e w' => e = .returned (.tuple #[.pointer none, .int .i64 1]) ∧ w = w' := by
  rcases h with h | h
  · go_enter Try.func10, Try.ntmps10
    go_wp2
    go_ret2
    exact ⟨rfl, rfl⟩
  · go_enter Try.func10, Try.ntmps10
    go_wp2
    go_ret2
    exact ⟨rfl, rfl⟩

theorem new_yes (n : Nat) (w : World) (h : n ≤ 4096) :
    Calls Try.prog 10 #[.int .i64 (n : Int)] w fun e w' => ∃ bs, e = .returned (.tuple #[.pointer (some ⟨bs, 0, none⟩), .int .i64 0]) ∧ Sto w' w.heap.size bs (List.replicate n none) ∧ Below w.heap.size w w' := by
  go_enter Try.func10, Try.ntmps10
  go_wp2_with (first | (at_builtin; refine hold ?_) | (at_make; refine hold ?_))
  (with_reducible refine unhold ?_)
  refine wpList_mkn rfl _ _ _ rfl Eptr w.heap.size _ _ _ _ n rfl rfl rfl rfl (by omega) (by unfold maxLen; omega) (Nat.le_refl _) ?_
  intro w1 ho1 hb1 hlt1
  have hz := hb1.size
  rw [Nat.mul_one] at ho1
  have hk := ho1.blk.1
  rw [show (Value.cells (.pointer none)) = #[.pointer none] from rfl, toList_madeCells_one] at hk
  go_wp2_with fail
  go_ret2
  refine ⟨w1.heap.size, rfl, ⟨w.heap.size, List.replicate n none, ?_⟩, hb1.alloc hz _⟩
  have hu : Pg.used (List.replicate n none) = 0 := by simp [Pg.used]
  rw [hu]
  refine ⟨hz, Nat.le_refl _, ?_, ?_, by simp, by simpa using h, fun i l hi => ?_, fun i hi => ?_, fun i j g hi _ => ?_⟩
  · rw [List.length_replicate]
    exact Blk.new _ _ _
  · rw [List.map_replicate]
    exact hk.alloc _
  · simp [List.getElem?_replicate] at hi
  · rw [List.getElem?_replicate] at hi ⊢
    split at hi
    · rw [if_pos (by assumption)]
    · cases hi
  · simp [List.getElem?_replicate] at hi

theorem alloc_neg (B bs bp : Nat) (qs : List (Option Nat)) (s : Pg.St) (u : Int) (n : Int) (w : World) (_h : StoAt w B bs bp qs s u) (h1 : n < 0) (h2 : -9223372036854775808 ≤ n) :
    Calls Try.prog 20 #[.pointer (some ⟨bs, 0, none⟩), .int .i64 n] w fun e w' => e = .returned (.tuple #[.slice none 0 0, .int .i64 1]) ∧ w = w' := by
  go_enter Try.func20, Try.ntmps20
  go_wp2
  go_ret2
  exact ⟨rfl, rfl⟩

theorem most_any (B bs bp : Nat) (qs : List (Option Nat)) (s : Pg.St) (u : Int) (w : World) (h : StoAt w B bs bp qs s u) :
    Calls Try.prog 48 #[.pointer (some ⟨bs, 0, none⟩)] w fun e w' => e = .returned (.int .i64 (s.length : Nat)) ∧ w' = w := by
  have hc := h.st.cell 0
  simp only [List.getElem?_cons_zero] at hc
  go_enter Try.func48, Try.ntmps48
  go_wp2
  go_ret
  exact ⟨rfl, rfl⟩

theorem used_any (B bs bp : Nat) (qs : List (Option Nat)) (s : Pg.St) (u : Int) (w : World) (h : StoAt w B bs bp qs s u) :
    Calls Try.prog 18 #[.pointer (some ⟨bs, 0, none⟩)] w fun e w' => e = .returned (.int .i64 u) ∧ w' = w := by
  have hc := h.st.cell 1
  simp only [List.getElem?_cons_zero, List.getElem?_cons_succ] at hc
  go_enter Try.func18, Try.ntmps18
  go_wp2
  go_ret
  exact ⟨rfl, rfl⟩

theorem alloc_full (B bs bp : Nat) (qs : List (Option Nat)) (s : Pg.St) (n : Int) (w : World) (h : StoAt w B bs bp qs s (Pg.used s)) (h1 : (s.length : Int) - Pg.used s < n) (h2 : n ≤ 9223372036854775807) :
    Calls Try.prog 20 #[.pointer (some ⟨bs, 0, none⟩), .int .i64 n] w fun e w' => e = .returned (.tuple #[.slice none 0 0, .int .i64 4]) ∧ ∃ k, w.drewN k = w' := by
  have hc := h.st.cell 1
  simp only [List.getElem?_cons_zero, List.getElem?_cons_succ] at hc
  have hm := h.most
  have hu := Pg.used_le s
  have hn : 0 ≤ n := by omega
  go_enter Try.func20, Try.ntmps20
  go_wp2_with fail
  go_quiet ((go_at_call 48; exact Calls.quiet_of_same (most_any B bs bp qs s _ _ (h.drewN _))))
  go_wp2_with fail
  go_ret2
  exact ⟨rfl, _, rfl⟩

set_option maxRecDepth 100000 in
theorem alloc_yes (B bs bp : Nat) (qs : List (Option Nat)) (s : Pg.St) (n : Nat) (w : World) (h : StoAt w B bs bp qs s (Pg.used s)) (h1 : n ≤ s.length - Pg.used s) (hB : B ≤ w.heap.size) :
    Calls Try.prog 20 #[.pointer (some ⟨bs, 0, none⟩), .int .i64 (n : Int)] w fun e w' => ∃ A' c', e = .returned (.tuple #[.slice A' n c', .int .i64 0]) ∧ Own w' w.heap.size 3 1 A' n c' (Is (Pg.ids s n)) ∧
      (∃ qs', StoAt w' B bs bp qs' (Pg.fill s (Pg.ids s n)) ((Pg.used s + n : Nat) : Int)) ∧ Keeps StT B w w' := by
  have hc := h.st.cell 1
  simp only [List.getElem?_cons_zero, List.getElem?_cons_succ] at hc
  have hm := h.most
  have hu := Pg.used_le s
  have hall := Lib.hid (Pg.upTo_all s)
  go_enter Try.func20, Try.ntmps20
  go_wp2_with fail
  go_quiet ((go_at_call 48; exact Calls.quiet_of_same (most_any B bs bp qs s _ _ (h.drewN _))))
  go_wp2_with fail
  generalize hnq : w.drewN _ = w0
  have h0 : StoAt w0 B bs bp qs s (Pg.used s) := by rw [← hnq]; exact h.drewN _
  have hk0 : Keeps StT B w w0 := by rw [← hnq]; exact (Keeps.refl _ _ _).drewN _
  have hz0 : w0.heap.size = w.heap.size := by rw [← hnq]; rfl
  clear hnq h hc
  go_loopw [6, 7] (fun v i wr => ∃ (k m : Nat) (A : Option Addr) (c : Nat) (qs' : List (Option Nat)), k ≤ s.length ∧ m ≤ n ∧ Hid ((Pg.upTo s k).length = m) ∧ i = .int .i64 k ∧ v = .slice A m c ∧
      Own wr w.heap.size 3 1 A m c (Is (Pg.upTo s k)) ∧ StoAt wr B bs bp qs' (Pg.fill s (Pg.upTo s k)) (Pg.used s) ∧ Keeps StT B w wr) (fun _ i _ => s.length - (intOf i).toNat)
  case atStart => exact ⟨0, 0, none, 0, qs, by omega, by omega, rfl, rfl, rfl, Own.nil _ _ _ _, h0, hk0⟩
  case round =>
    obtain ⟨k, m, A, c, qs', hk, hmn, hlen, rfl, rfl, hown, hst, hkp⟩ := hrel
    have hzr := hkp.size
    have hfl := Pg.length_fill (Pg.upTo s k) s
    by_cases hlt : m < n
    · have hks : k < s.length := by
        rcases Nat.lt_or_ge k s.length with h | h
        · exact h
        · obtain rfl : k = s.length := by omega
          have := hlen.out; have := hall.out; omega
      have hc0 := hst.st.cell 0
      simp only [List.getElem?_cons_zero] at hc0
      have hfree := Lib.hid (Pg.fill_free s (Nat.le_refl k))
      have hnext := Lib.hid (Pg.upTo_succ s k)
      have hkk : k < (Pg.fill s (Pg.upTo s k)).length := by omega
      have hcp := hst.cell_ptr hkk
      have hqn := hst.none_ k
      have hqs := hst.some_ k
      rw [hfl] at hc0
      by_cases hf : Pg.isFree s k = true
      · have hsk : s[k]? = some none := by simpa [Pg.isFree] using hf
        have hq0 := hqn (hfree.out.trans hsk)
        have hqd : qs'.getD k none = none := by rw [List.getD, hq0]; rfl
        rw [hqd] at hcp
        have hfr := hst.row.frozen k
        have hne := hst.ne1
        have Hst := Lib.hid hst
        have Hown := Lib.hid hown
        have Hf := Lib.hid hf
        unfold ptrV at hcp
        simp only [Option.map_none] at hcp
        clear hst hown hqn hqs hfree hsk hq0 hqd hf hfl
        have hkI : (k : Int) < (List.length s : Int) := by omega
        have hk0 : (0 : Int) ≤ (k : Int) := by omega
        go_wp2_with fail
        go_region_held3 (fun w' => w'.cell? ⟨bs, 0, none⟩ = some (.slice (some ⟨bp, 0, none⟩) (List.length s) (List.length s)))
          (first | assumption | exact (hbl.cell (p := ⟨bs, 0, none⟩) (Blk.lt Hst.out.st)).trans hc0 | exact (World.cell?_setCell_other _ _ _ _ (fun e => hne (congrArg Addr.block e).symm)).trans ((hbl.cell (p := ⟨bs, 0, none⟩) (Blk.lt Hst.out.st)).trans hc0))
          ((go_at_call 49; refine (lay_any k none [] 0 0 _ rfl (Rd.nil _ _) (by omega) (by omega)).mono ?_; rintro e w1 ⟨g1, rfl, hg1, hk1, hbl⟩; have hp1 := (hbl.cell (p := ⟨bp, k, none⟩) (Blk.lt Hst.out.row)).trans hcp; have hf1 := (hbl.frozen (p := ⟨bp, k, none⟩) (Blk.lt Hst.out.row)).trans hfr))
        have hbw : Below wr.heap.size wr w1 := ⟨hbl.os, hbl.tape, hbl.output, hbl.size, hbl.block⟩
        have hst1 := Hst.out.below hbw
        have hput := hst1.put (i := k) (g := g1) hkk (by have := hkp.size; have : wr.heap.size ≤ g1 := hg1; omega) hk1 (Pg.length_page k (by simp)) (Hst.out.fresh hg1)
        have hkp1 := (hkp.then_below hbw).setCell hst1.row (i := k) (by simp) hst1.hp (ptrV (some g1))
        have hko1 := ((Keeps.refl StT B wr).then_below hbw).setCell hst1.row (i := k) (by simp) hst1.hp (ptrV (some g1))
        have hown1 := Own.keeps Hown.out (by decide) hko1
        unfold ptrV at hput hkp1 hown1
        simp only [Option.map_some] at hput hkp1 hown1
        clear hst1 hko1 hbl hp1 hf1 hk1 hbw
        generalize w1.setCell ⟨bp, k, none⟩ (.pointer (some ⟨g1, 0, none⟩)) = w2 at *
        have hz2 := hkp1.size
        go_wp2_with (first | (at_builtin; refine hold ?_) | (at_make; refine hold ?_))
        (with_reducible refine unhold ?_)
        refine wpList_apd rfl _ _ _ rfl Eint w.heap.size A m c (Is (Pg.upTo s k)) rfl (hown1.alloc _) _ 1 _ _ rfl (by rfl) (Rd.new _ _ _) (by simp [Value.oneCell']) (m + 1) rfl (Is (Pg.upTo s k ++ [k])) (by simp) (by omega) (by omega) (by simp; omega) ?_
        intro A3 c3 w3 ho3 hg3 hat3
        have hk3 := ((Keeps.refl [3] w.heap.size w2).alloc _).trans (Own.apd_keeps (hown1.alloc _) hg3)
        go_wp2_with fail
        go_roundw
        case rel =>
          have hnx : Pg.upTo s (k + 1) = Pg.upTo s k ++ [k] := by rw [hnext.out, if_pos Hf.out]
          refine ⟨k + 1, m + 1, A3, c3, qs'.set k (some g1), by omega, by omega, ?_, by go_num, rfl, ?_, ?_, ?_⟩
          · show _ = _
            rw [hnx, List.length_append, hlen.out]
            rfl
          · rw [hnx]; exact ho3
          · rw [hnx, Pg.fill_snoc]; exact hput.keeps hk3 (by decide)
          · exact hkp1.then_young hk3 (Nat.le_refl _)
        case measure => simp [intOf]; omega
      · have hsk : ∃ l, s[k]? = some (some l) := by
          rw [List.getElem?_eq_getElem hks]
          cases e : s[k] with
          | none => exact absurd (by simp [Pg.isFree, List.getElem?_eq_getElem hks, e]) hf
          | some l => exact ⟨l, rfl⟩
        obtain ⟨l, hsk⟩ := hsk
        obtain ⟨g, hq0, _⟩ := hqs l (hfree.out.trans hsk)
        have hqd : qs'.getD k none = some g := by rw [List.getD, hq0]; rfl
        rw [hqd] at hcp
        have Hst := Lib.hid hst
        have Hown := Lib.hid hown
        have Hf := Lib.hid hf
        unfold ptrV at hcp
        simp only [Option.map_some] at hcp
        clear hst hown hqn hqs hfree hsk hq0 hqd hf hfl
        go_wp2_with fail
        go_roundw
        case rel =>
          have hnx : Pg.upTo s (k + 1) = Pg.upTo s k := by rw [hnext.out, if_neg Hf.out, List.append_nil]
          refine ⟨k + 1, m, A, c, qs', by omega, by omega, ?_, by go_num, rfl, ?_, ?_, hkp⟩
          · show _ = _
            rw [hnx, hlen.out]
          · rw [hnx]; exact Hown.out
          · rw [hnx]; exact Hst.out
        case measure => simp [intOf]; omega
    · have hid := Pg.upTo_ids (n := n) hk (hlen.out.trans (by omega))
      rw [hid] at hst hown
      have hcu := hst.st.cell 1
      simp only [List.getElem?_cons_zero, List.getElem?_cons_succ] at hcu
      have hfu := hst.st.frozen 1
      have hcnt := Lib.hid (hst.count ((Pg.used s : Int) + n))
      have hkc := Lib.hid (hkp.setCell hst.st (i := 1) (by simp) hst.hs (.int .i64 ((Pg.used s : Int) + n)))
      have hko := Lib.hid ((Keeps.refl StT B wr).setCell hst.st (i := 1) (by simp) hst.hs (.int .i64 ((Pg.used s : Int) + n)))
      have Hown := Lib.hid hown
      clear hst hid hlen hown hfl
      obtain rfl : m = n := by omega
      go_wp2_with fail
      go_ret2
      exact ⟨A, c, rfl, Own.keeps Hown.out (by decide) hko.out, ⟨qs', hcnt.out⟩, hkc.out⟩
end Go.Proofs.Ytjjmnjgkodiibaa
namespace Go.Proofs.Ytjjmnjgkodiibaa
open Go.RowKit

theorem need_any (n : Nat) (w : World) (h : n ≤ 9223372036854775807) :
    Calls Try.prog 33 #[.int .i64 (n : Int)] w fun e w' => e = .returned (.int .i64 (Pg.need n : Nat)) ∧ w = w' := by
  by_cases hn : n < 1
  · have hp : Hid ((if n < 1 then 0 else (n - 1) / 56 + 1) = 0) := if_pos hn
    go_enter Try.func33, Try.ntmps33
    go_wp2
    go_ret
    exact ⟨by rw [Pg.need, hp.out]; rfl, rfl⟩
  · have hp : Hid ((if n < 1 then 0 else (n - 1) / 56 + 1) = (n - 1) / 56 + 1) := if_neg hn
    go_enter Try.func33, Try.ntmps33
    go_wp2
    go_ret
    refine ⟨?_, rfl⟩
    rw [Pg.need, hp.out]
    have e : (((n - 1) / 56 + 1 : Nat) : Int) = ((n : Int) - 1) / 56 + 1 := by omega
    rw [e]
    rfl

theorem need_low (n : Int) (w : World) (h : n < 1) :
    Calls Try.prog 33 #[.int .i64 n] w fun e w' => e = .returned (.int .i64 0) ∧ w = w' := by
  go_enter Try.func33, Try.ntmps33
  go_wp2
  go_ret
  exact ⟨rfl, rfl⟩

end Go.Proofs.Ytjjmnjgkodiibaa
namespace Go.Proofs.Ytjjmnjgkodiibaa
open Go.RowKit

/-- Numbers of either sign as values. -/
abbrev Js (l : List Int) : List Value := l.map fun (i : Int) => Value.int .i64 i
theorem Js_Is (l : List Nat) : Js (l.map Int.ofNat) = Is l := by simp

theorem sto_len {w : World} {B bs : Nat} {s : Pg.St} (h : Sto w B bs s) : s.length ≤ 4096 := by
  obtain ⟨bp, qs, h⟩ := h
  exact h.most

theorem free_c (B bs : Nat) (s : Pg.St) (i : Int) (w : World) (h : Sto w B bs s) (h1 : -9223372036854775808 ≤ i) (h2 : i ≤ 9223372036854775807) :
    Calls Try.prog 70 #[.pointer (some ⟨bs, 0, none⟩), .int .i64 i] w fun e w' => e = .returned (.int .i64 (Pg.freeE s i)) ∧ Sto w' B bs (Pg.freeS s i) ∧ Keeps StT B w w' := by
  obtain ⟨bp, qs, h⟩ := h
  have hm := h.most
  have hu := Pg.used_le s
  unfold Pg.freeE Pg.freeS
  cases e : Pg.at_ s i with
  | none =>
    refine (free_no B bs bp qs s _ i w h h1 h2 e).mono ?_
    rintro _ w' ⟨rfl, rfl⟩
    exact ⟨rfl, ⟨bp, qs, h⟩, Keeps.refl _ _ _⟩
  | some l =>
    refine (free_yes B bs bp qs s _ i l w h h1 h2 e (by omega)).mono ?_
    rintro _ w' ⟨rfl, h', hk⟩
    have := Pg.used_drop (Pg.at_some e).2.2
    exact ⟨rfl, ⟨bp, _, by rw [show ((Pg.used (s.set i.toNat none) : Nat) : Int) = (Pg.used s : Int) - 1 from by omega]; exact h'⟩, hk⟩

theorem alloc_c (B bs : Nat) (s : Pg.St) (n : Int) (w : World) (h : Sto w B bs s) (h1 : -9223372036854775808 ≤ n) (h2 : n ≤ 9223372036854775807) (hB : B ≤ w.heap.size) :
    Calls Try.prog 20 #[.pointer (some ⟨bs, 0, none⟩), .int .i64 n] w fun e w' => ∃ A c, e = .returned (.tuple #[.slice A (Pg.allocL s n).length c, .int .i64 (Pg.allocE s n)]) ∧ Own w' w.heap.size 3 1 A (Pg.allocL s n).length c (Is (Pg.allocL s n)) ∧
      Sto w' B bs (Pg.allocS s n) ∧ Keeps StT B w w' := by
  obtain ⟨bp, qs, h⟩ := h
  have hm := h.most
  have hu := Pg.used_le s
  unfold Pg.allocL Pg.allocS
  by_cases hn : n < 0
  · have he : Pg.allocE s n = 1 := by unfold Pg.allocE; rw [if_pos hn]
    rw [he]
    refine (alloc_neg B bs bp qs s _ n w h hn h1).mono ?_
    rintro _ w' ⟨rfl, rfl⟩
    exact ⟨none, 0, rfl, Own.nil _ _ _ _, ⟨bp, qs, h⟩, Keeps.refl _ _ _⟩
  · by_cases hf : (s.length : Int) - Pg.used s < n
    · have he : Pg.allocE s n = 4 := by unfold Pg.allocE; rw [if_neg hn, if_pos hf]
      rw [he]
      refine (alloc_full B bs bp qs s n w h hf h2).mono ?_
      rintro _ w' ⟨rfl, k, rfl⟩
      exact ⟨none, 0, rfl, Own.nil _ _ _ _, ⟨bp, qs, h.drewN k⟩, (Keeps.refl _ _ _).drewN k⟩
    · have he : Pg.allocE s n = 0 := by unfold Pg.allocE; rw [if_neg hn, if_neg hf]
      rw [he, if_pos rfl, if_pos rfl]
      obtain ⟨k, rfl⟩ := Int.eq_ofNat_of_zero_le (by omega : 0 ≤ n)
      rw [Int.toNat_natCast]
      have hk : k ≤ s.length - Pg.used s := by omega
      rw [Pg.length_ids hk]
      refine (alloc_yes B bs bp qs s k w h hk hB).mono ?_
      rintro _ w' ⟨A, c, rfl, ho, ⟨qs', hs⟩, hkp⟩
      refine ⟨A, c, rfl, ho, ⟨bp, qs', ?_⟩, hkp⟩
      rw [Pg.used_fill hk]
      exact hs

theorem used_c (B bs : Nat) (s : Pg.St) (w : World) (h : Sto w B bs s) :
    Calls Try.prog 18 #[.pointer (some ⟨bs, 0, none⟩)] w fun e w' => e = .returned (.int .i64 (Pg.used s : Nat)) ∧ w = w' := by
  obtain ⟨bp, qs, h⟩ := h
  exact (used_any B bs bp qs s _ w h).mono fun _ _ ⟨h1, h2⟩ => ⟨h1, h2.symm⟩
theorem most_c (B bs : Nat) (s : Pg.St) (w : World) (h : Sto w B bs s) :
    Calls Try.prog 48 #[.pointer (some ⟨bs, 0, none⟩)] w fun e w' => e = .returned (.int .i64 (s.length : Nat)) ∧ w = w' := by
  obtain ⟨bp, qs, h⟩ := h
  exact (most_any B bs bp qs s _ w h).mono fun _ _ ⟨h1, h2⟩ => ⟨h1, h2.symm⟩

theorem drop_c (B bs : Nat) (s : Pg.St) (A : Option Addr) (l : List Int) (n c : Nat) (w : World) (h : Sto w B bs s) (hl : l.length = n) (hn : n ≤ 140737488355328) (hr : Rs StT B w A (Js l)) (hw : ∀ i ∈ l, -9223372036854775808 ≤ i ∧ i ≤ 9223372036854775807) (hB : B ≤ w.heap.size) :
    Calls Try.prog 46 #[.pointer (some ⟨bs, 0, none⟩), .slice A n c] w fun e w' => e = .returned (.tuple #[]) ∧ Sto w' B bs (Pg.dropS s l) ∧ Keeps StT B w w' := by
  have hll := Lib.hid hl
  have Hw := Lib.hid hw
  clear hl hw
  go_enter Try.func46, Try.ntmps46
  go_wp2_with fail
  go_loopw [8] (fun i wr => ∃ k : Nat, k ≤ n ∧ i = .int .i64 k ∧ Sto wr B bs (Pg.dropS s (l.take k)) ∧ Keeps StT B w wr) (fun i _ => n - (intOf i).toNat)
  case atStart => exact ⟨0, by omega, rfl, h, Keeps.refl _ _ _⟩
  case round =>
    obtain ⟨k, hk, rfl, hst, hkp⟩ := hrel
    have hR := hr.keeps hkp
    by_cases hlt : k < n
    · obtain ⟨ga, oa, rfl, hga, _, hca⟩ := hR.rd.get (k := k) (by rw [List.length_map, hll.out]; exact hlt)
      rw [List.getElem_map] at hca
      have htk := Lib.hid (List.take_succ_eq_append_getElem (l := l) (i := k) (by rw [hll.out]; exact hlt))
      have hb := Hw.out _ (List.getElem_mem (l := l) (n := k) (by rw [hll.out]; exact hlt))
      generalize l[k]'(by rw [hll.out]; exact hlt) = id at *
      clear hr hR
      go_wp2_with fail
      refine (free_c B bs _ id wr hst hb.1 hb.2).mono ?_
      rintro e w2 ⟨rfl, hs2, hk2⟩
      go_wp2_with fail
      go_roundw
      case rel =>
        refine ⟨k + 1, by omega, by go_num, ?_, hkp.trans hk2⟩
        rw [htk.out, Pg.dropS_snoc]
        exact hs2
      case measure => simp [intOf]; omega
    · obtain rfl : k = n := by omega
      have htk := Lib.hid (List.take_of_length_le (l := l) (i := k) (by rw [hll.out]; exact Nat.le_refl _))
      rw [htk.out] at hst
      go_wp2_with fail
      go_end0
      exact ⟨rfl, hst, hkp⟩
end Go.Proofs.Ytjjmnjgkodiibaa
