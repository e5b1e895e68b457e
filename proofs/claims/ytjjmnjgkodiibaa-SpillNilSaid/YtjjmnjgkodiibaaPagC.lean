/- The contracts of package pages: each method as a function of the store's pages. -/
import Derived.Test.YtjjmnjgkodiibaaPagP
namespace Go.Proofs.Ytjjmnjgkodiibaa
open Go.RowKit

/-- Numbers of either sign as values. -/
abbrev Js (l : List Int) : List Value := l.map fun (i : Int) => Value.int .i64 i
theorem Js_Is (l : List Nat) : Js (l.map Int.ofNat) = Is l := by simp

theorem sto_len {w : World} {B bs : Nat} {s : Pg.St} (h : Sto w B bs s) : s.length ≤ 4096 := by
  obtain ⟨bp, qs, h⟩ := h
  exact h.most

theorem free_c (B bs : Nat) (s : Pg.St) (i : Int) (w : World) (h : Sto w B bs s) (h1 : -9223372036854775808 ≤ i) (h2 : i ≤ 9223372036854775807) :
    Calls Try.prog 70 #[.pointer (some ⟨bs, 0, none⟩), .int .i64 i] w fun e w' => e = .returned (.int .i64 (Pg.freeE s i)) ∧ Sto w' B bs (Pg.freeS s i) ∧ Keeps StT B w w' := by
  obtain ⟨bp, qs, h⟩ := h
  have hm := h.most
  have hu := Pg.used_le s
  unfold Pg.freeE Pg.freeS
  cases e : Pg.at_ s i with
  | none =>
    refine (free_no B bs bp qs s _ i w h h1 h2 e).mono ?_
    rintro _ w' ⟨rfl, rfl⟩
    exact ⟨rfl, ⟨bp, qs, h⟩, Keeps.refl _ _ _⟩
  | some l =>
    refine (free_yes B bs bp qs s _ i l w h h1 h2 e (by omega)).mono ?_
    rintro _ w' ⟨rfl, h', hk⟩
    have := Pg.used_drop (Pg.at_some e).2.2
    exact ⟨rfl, ⟨bp, _, by rw [show ((Pg.used (s.set i.toNat none) : Nat) : Int) = (Pg.used s : Int) - 1 from by omega]; exact h'⟩, hk⟩

theorem alloc_c (B bs : Nat) (s : Pg.St) (n : Int) (w : World) (h : Sto w B bs s) (h1 : -9223372036854775808 ≤ n) (h2 : n ≤ 9223372036854775807) (hB : B ≤ w.heap.size) :
    Calls Try.prog 20 #[.pointer (some ⟨bs, 0, none⟩), .int .i64 n] w fun e w' => ∃ A c, e = .returned (.tuple #[.slice A (Pg.allocL s n).length c, .int .i64 (Pg.allocE s n)]) ∧ Own w' w.heap.size 3 1 A (Pg.allocL s n).length c (Is (Pg.allocL s n)) ∧
      Sto w' B bs (Pg.allocS s n) ∧ Keeps StT B w w' := by
  obtain ⟨bp, qs, h⟩ := h
  have hm := h.most
  have hu := Pg.used_le s
  unfold Pg.allocL Pg.allocS
  by_cases hn : n < 0
  · have he : Pg.allocE s n = 1 := by unfold Pg.allocE; rw [if_pos hn]
    rw [he]
    refine (alloc_neg B bs bp qs s _ n w h hn h1).mono ?_
    rintro _ w' ⟨rfl, rfl⟩
    exact ⟨none, 0, rfl, Own.nil _ _ _ _, ⟨bp, qs, h⟩, Keeps.refl _ _ _⟩
  · by_cases hf : (s.length : Int) - Pg.used s < n
    · have he : Pg.allocE s n = 4 := by unfold Pg.allocE; rw [if_neg hn, if_pos hf]
      rw [he]
      refine (alloc_full B bs bp qs s n w h hf h2).mono ?_
      rintro _ w' ⟨rfl, k, rfl⟩
      exact ⟨none, 0, rfl, Own.nil _ _ _ _, ⟨bp, qs, h.drewN k⟩, (Keeps.refl _ _ _).drewN k⟩
    · have he : Pg.allocE s n = 0 := by unfold Pg.allocE; rw [if_neg hn, if_neg hf]
      rw [he, if_pos rfl, if_pos rfl]
      obtain ⟨k, rfl⟩ := Int.eq_ofNat_of_zero_le (by omega : 0 ≤ n)
      rw [Int.toNat_natCast]
      have hk : k ≤ s.length - Pg.used s := by omega
      rw [Pg.length_ids hk]
      refine (alloc_yes B bs bp qs s k w h hk hB).mono ?_
      rintro _ w' ⟨A, c, rfl, ho, ⟨qs', hs⟩, hkp⟩
      refine ⟨A, c, rfl, ho, ⟨bp, qs', ?_⟩, hkp⟩
      rw [Pg.used_fill hk]
      exact hs

theorem used_c (B bs : Nat) (s : Pg.St) (w : World) (h : Sto w B bs s) :
    Calls Try.prog 18 #[.pointer (some ⟨bs, 0, none⟩)] w fun e w' => e = .returned (.int .i64 (Pg.used s : Nat)) ∧ w = w' := by
  obtain ⟨bp, qs, h⟩ := h
  exact (used_any B bs bp qs s _ w h).mono fun _ _ ⟨h1, h2⟩ => ⟨h1, h2.symm⟩
theorem most_c (B bs : Nat) (s : Pg.St) (w : World) (h : Sto w B bs s) :
    Calls Try.prog 48 #[.pointer (some ⟨bs, 0, none⟩)] w fun e w' => e = .returned (.int .i64 (s.length : Nat)) ∧ w = w' := by
  obtain ⟨bp, qs, h⟩ := h
  exact (most_any B bs bp qs s _ w h).mono fun _ _ ⟨h1, h2⟩ => ⟨h1, h2.symm⟩

theorem drop_c (B bs : Nat) (s : Pg.St) (A : Option Addr) (l : List Int) (n c : Nat) (w : World) (h : Sto w B bs s) (hl : l.length = n) (hn : n ≤ 140737488355328) (hr : Rs StT B w A (Js l)) (hw : ∀ i ∈ l, -9223372036854775808 ≤ i ∧ i ≤ 9223372036854775807) (hB : B ≤ w.heap.size) :
    Calls Try.prog 46 #[.pointer (some ⟨bs, 0, none⟩), .slice A n c] w fun e w' => e = .returned (.tuple #[]) ∧ Sto w' B bs (Pg.dropS s l) ∧ Keeps StT B w w' := by
  have hll := Lib.hid hl
  have Hw := Lib.hid hw
  clear hl hw
  go_enter Try.func46, Try.ntmps46
  go_wp2_with fail
  go_loopw [8] (fun i wr => ∃ k : Nat, k ≤ n ∧ i = .int .i64 k ∧ Sto wr B bs (Pg.dropS s (l.take k)) ∧ Keeps StT B w wr) (fun i _ => n - (intOf i).toNat)
  case atStart => exact ⟨0, by omega, rfl, h, Keeps.refl _ _ _⟩
  case round =>
    obtain ⟨k, hk, rfl, hst, hkp⟩ := hrel
    have hR := hr.keeps hkp
    by_cases hlt : k < n
    · obtain ⟨ga, oa, rfl, hga, _, hca⟩ := hR.rd.get (k := k) (by rw [List.length_map, hll.out]; exact hlt)
      rw [List.getElem_map] at hca
      have htk := Lib.hid (List.take_succ_eq_append_getElem (l := l) (i := k) (by rw [hll.out]; exact hlt))
      have hb := Hw.out _ (List.getElem_mem (l := l) (n := k) (by rw [hll.out]; exact hlt))
      generalize l[k]'(by rw [hll.out]; exact hlt) = id at *
      clear hr hR
      go_wp2_with fail
      refine (free_c B bs _ id wr hst hb.1 hb.2).mono ?_
      rintro e w2 ⟨rfl, hs2, hk2⟩
      go_wp2_with fail
      go_roundw
      case rel =>
        refine ⟨k + 1, by omega, by go_num, ?_, hkp.trans hk2⟩
        rw [htk.out, Pg.dropS_snoc]
        exact hs2
      case measure => simp [intOf]; omega
    · obtain rfl : k = n := by omega
      have htk := Lib.hid (List.take_of_length_le (l := l) (i := k) (by rw [hll.out]; exact Nat.le_refl _))
      rw [htk.out] at hst
      go_wp2_with fail
      go_end0
      exact ⟨rfl, hst, hkp⟩
end Go.Proofs.Ytjjmnjgkodiibaa
