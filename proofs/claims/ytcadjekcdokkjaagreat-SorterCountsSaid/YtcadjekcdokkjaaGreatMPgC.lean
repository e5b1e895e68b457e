/- The walks of package pages, on: bytes put onto pages. The contracts of package pages: each method as a function of the store's pages. -/
import Derived.Test.YtcadjekcdokkjaaGreatMPgB
namespace Go.Proofs.YtcadjekcdokkjaaGreat
set_option linter.unusedVariables false
set_option linter.unusedSimpArgs false
open Go.RowKit
theorem need_any (n : Nat) (w : World) (h : n ≤ 9223372036854775807) :
  Calls Tryz.prog 49 #[.int .i64 (n : Int)] w fun e w' => e = .returned (.int .i64 (Pg.need n : Nat)) ∧ w = w' := by
 by_cases hn : n < 1
 ·have hp : Hid ((if n < 1 then 0 else (n - 1) / 56 + 1) = 0) := if_pos hn
  go_enter Tryz.func49, Tryz.ntmps49
  go_wp2
  go_ret
  exact ⟨by rw [Pg.need, hp.out]; rfl, rfl⟩
 ·have hp : Hid ((if n < 1 then 0 else (n - 1) / 56 + 1) = (n - 1) / 56 + 1) := if_neg hn
  go_enter Tryz.func49, Tryz.ntmps49
  go_wp2
  go_ret
  refine ⟨?_, rfl⟩
  rw [Pg.need, hp.out]
  have e : (((n - 1) / 56 + 1 : Nat) : Int) = ((n : Int) - 1) / 56 + 1 := by omega
  rw [e]
  rfl
theorem put_full (B bs bp : Nat) (qs : List (Option Nat)) (s : Pg.St) (A : Option Addr) (n c : Nat) (w : World) (h : StoAt w B bs bp qs s (Pg.used s)) (hn : n ≤ 140737488355328) (hf : s.length - Pg.used s < Pg.need n) :
  Calls Tryz.prog 30 #[.pointer (some ⟨bs, 0, none⟩), .slice A n c] w fun e w' => e = .returned (.tuple #[.slice none 0 0, .int .i64 4]) ∧ ∃ k, w.drewN k = w' := by
 have hb : Pg.need n ≤ n := by unfold Pg.need; split <;> omega
 have hu := Pg.used_le s
 go_enter Tryz.func30, Tryz.ntmps30
 go_wp2_with fail
 refine (need_any n w (by omega)).mono ?_
 rintro e w' ⟨rfl, rfl⟩
 go_wp2_with fail
 refine (alloc_full B bs bp qs s _ w h (by omega) (by omega)).mono ?_
 rintro e w' ⟨rfl, k, rfl⟩
 go_wp2_with fail
 go_ret2
 exact ⟨rfl, k, rfl⟩
set_option maxRecDepth 100000 in
theorem put_yes (B bs bp : Nat) (qs : List (Option Nat)) (s : Pg.St) (A : Option Addr) (b : List UInt8) (n c : Nat) (w : World) (h : StoAt w B bs bp qs s (Pg.used s)) (hl : b.length = n) (hn : n ≤ 140737488355328) (hnc : n ≤ c) (hc : c ≤ 9223372036854775807)
  (hr : Rs StT B w A (Bs b)) (hf : Pg.need n ≤ s.length - Pg.used s) (hB : B ≤ w.heap.size) :
  Calls Tryz.prog 30 #[.pointer (some ⟨bs, 0, none⟩), .slice A n c] w fun e w' => ∃ A' c', e = .returned (.tuple #[.slice A' (Pg.need n) c', .int .i64 0]) ∧ Own w' w.heap.size 3 1 A' (Pg.need n) c' (Is (Pg.ids s (Pg.need n))) ∧
   (∃ qs', StoAt w' B bs bp qs' (Pg.lays (Pg.fill s (Pg.ids s (Pg.need n))) (Pg.ids s (Pg.need n)) b) ((Pg.used s + Pg.need n : Nat) : Int)) ∧ Keeps StT B w w' := by
 have hb : Pg.need n ≤ n := by unfold Pg.need; split <;> omega
 have hu := Pg.used_le s
 have hids := Lib.hid (Pg.length_ids hf)
 have hm := h.most
 have hll := Lib.hid hl
 clear hl
 go_enter Tryz.func30, Tryz.ntmps30
 go_wp2_with fail
 refine (need_any n w (by omega)).mono ?_
 rintro e w' ⟨rfl, rfl⟩
 go_wp2_with fail
 refine (alloc_yes B bs bp qs s (Pg.need n) w h hf hB).mono ?_
 rintro e w1 ⟨A1, c1, rfl, ho1, ⟨qs1, hs1⟩, hk1⟩
 have hr1 := hr.keeps hk1
 clear h hr
 have hz1 := hk1.size
 go_wp2_with fail
 have hneed : ∀ k, k < Pg.need n → 56 * k < n := fun k h => Pg.need_lt h
 have hmem : ∀ i ∈ Pg.ids s (Pg.need n), i < s.length := fun i h => (Pg.mem_ids h).1
 generalize hI : Pg.ids s (Pg.need n) = I at *
 generalize hF : Pg.fill s I = F at *
 generalize hN : Pg.need n = N at *
 have hfa : ∀ i ∈ I, F[i]? = some (some (Pg.page i [])) := fun i h => by rw [← hF]; exact Pg.fill_at I s i h (hmem i h)
 have hFl : F.length = s.length := by rw [← hF]; exact Pg.length_fill I s
 have HI := Lib.hid hI
 have HF := Lib.hid hF
 have HN := Lib.hid hN
 have HfN := Lib.hid hfa
 have HFl := Lib.hid hFl
 have Hneed := Lib.hid hneed
 have Hmem := Lib.hid hmem
 clear hI hF hN hfa hFl hneed hmem
 go_loopw [8, 26] (fun v i wr => ∃ (k rl rc : Nat) (R : Option Addr) (qs' : List (Option Nat)), k ≤ N ∧ i = .int .i64 k ∧ v = .slice R rl rc ∧ Hid ((b.drop (56 * k)).length = rl) ∧ rl ≤ rc ∧ rc ≤ 9223372036854775807 ∧
   Rs StT B wr R (Bs (b.drop (56 * k))) ∧ StoAt wr B bs bp qs' (Pg.lays F (I.take k) b) ((Pg.used s + N : Nat) : Int) ∧ Keeps StT B w1 wr) (fun _ i _ => N - (intOf i).toNat)
 case atStart => exact ⟨0, n, c, A, qs1, by omega, rfl, rfl, hll.out, hnc, hc, hr1, hs1, Keeps.refl _ _ _⟩
 case round =>
  obtain ⟨k, rl, rc, R, qs', hk, rfl, rfl, hrl, hrc, hrm, hR, hst, hkp⟩ := hrel
  have hzr := hkp.size
  have hor := Own.keeps ho1 (by decide) hkp
  by_cases hlt : k < N
  ·obtain ⟨ga, oa, rfl, hga, _, hca⟩ := hor.rd.get (k := k) (by rw [List.length_map, hids.out]; exact hlt)
   rw [List.getElem_map] at hca
   have hIk : I[k]'(by rw [hids.out]; exact hlt) ∈ I := List.getElem_mem _
   have htk := Lib.hid (List.take_succ_eq_append_getElem (l := I) (i := k) (by rw [hids.out]; exact hlt))
   generalize I[k]'(by rw [hids.out]; exact hlt) = id at *
   have hids' := Hmem.out id hIk
   obtain ⟨m, hm'⟩ := Pg.lays_taken (I.take k) F b id _ (HfN.out id hIk)
   have hat : Pg.at_ (Pg.lays F (I.take k) b) (id : Int) = some m := by rw [Pg.at_nat, hm']; rfl
   have hrp : 0 < rl := by
    have := Hneed.out k hlt; have := hrl.out; have := hll.out
    rw [List.length_drop] at *
    omega
   have hne : Bs (b.drop (56 * k)) ≠ [] := by
    intro h
    have := congrArg List.length h
    rw [List.length_map, hrl.out] at this
    simp at this
    omega
   obtain ⟨b0, o0, rfl, hrr, hty⟩ := hR hne
   have hpart := Rd.part hrr 0 56
   rw [List.drop_zero, ← List.map_take, Nat.add_zero] at hpart
   have hrd : Rd wr (some ⟨b0, o0, none⟩) (Bs ((b.drop (56 * k)).take 56)) := Rd.of_range hpart
   have hlen56 : ((b.drop (56 * k)).take 56).length = min 56 rl := by rw [List.length_take, hrl.out]
   have Hst := Lib.hid hst
   have HR := Lib.hid hR
   have Hor := Lib.hid hor
   have Hlen := Lib.hid hlen56
   clear hst hR hne hrr hpart hm' hor hlen56 hty
   by_cases h56 : rl ≤ 56
   ·go_wp2_with fail
    refine (write_yes B bs bp qs' _ _ id m _ ((b.drop (56 * k)).take 56) rl rc wr Hst.out (by omega) (by omega) hat (by rw [Hlen.out]; omega) hrd h56 (by omega)).mono ?_
    rintro e w2 ⟨rfl, ⟨qs2, hs2⟩, hk2⟩
    rw [Int.toNat_natCast] at hs2
    have HR2 := Lib.hid (HR.out.keeps hk2)
    go_wp2_with fail
    go_roundw
    case rel =>
     refine ⟨k + 1, _, _, _, qs2, by omega, by go_num, rfl, ?_, ?_, ?_, ?_, ?_, hkp.trans hk2⟩
     ·show _ = _
      have := hrl.out
      rw [List.length_drop] at this ⊢
      omega
     ·omega
     ·omega
     ·rw [List.drop_eq_nil_of_le (by have := hrl.out; rw [List.length_drop] at this; omega)]
      exact Rs.nil _ _ _ _
     ·rw [htk.out, Pg.lays_snoc, List.length_take, hids.out, Nat.min_eq_left (by omega)]
      exact hs2
    case measure => simp [intOf]; omega
   ·go_wp2_with fail
    refine (write_yes B bs bp qs' _ _ id m _ ((b.drop (56 * k)).take 56) 56 rc wr Hst.out (by omega) (by omega) hat (by rw [Hlen.out]; omega) hrd (by omega) (by omega)).mono ?_
    rintro e w2 ⟨rfl, ⟨qs2, hs2⟩, hk2⟩
    rw [Int.toNat_natCast] at hs2
    have HR2 := Lib.hid (HR.out.keeps hk2)
    go_wp2_with fail
    go_roundw
    case rel =>
     refine ⟨k + 1, _, _, _, qs2, by omega, by go_num, rfl, ?_, ?_, ?_, ?_, ?_, hkp.trans hk2⟩
     ·show _ = _
      have := hrl.out
      rw [List.length_drop] at this ⊢
      omega
     ·omega
     ·omega
     ·have h := HR2.out.drop 56
      rw [← List.map_drop, List.drop_drop, show 56 * k + 56 = 56 * (k + 1) from by omega] at h
      exact h
     ·rw [htk.out, Pg.lays_snoc, List.length_take, hids.out, Nat.min_eq_left (by omega)]
      exact hs2
    case measure => simp [intOf]; omega
  ·obtain rfl : k = N := by omega
   have htk := Lib.hid (List.take_of_length_le (l := I) (i := k) (by rw [hids.out]; exact Nat.le_refl _))
   rw [htk.out] at hst
   go_wp2_with fail
   go_ret2
   rw [HN.out, HI.out, HF.out]
   exact ⟨A1, c1, rfl, hor, ⟨qs', hst⟩, hk1.trans hkp⟩
end Go.Proofs.YtcadjekcdokkjaaGreat
namespace Go.Proofs.YtcadjekcdokkjaaGreat
set_option linter.unusedVariables false
set_option linter.unusedSimpArgs false
open Go.RowKit
abbrev Js (l : List Int) : List Value := l.map fun (i : Int) => Value.int .i64 i
theorem Js_Is (l : List Nat) : Js (l.map Int.ofNat) = Is l := by simp
theorem sto_len {w : World} {B bs : Nat} {s : Pg.St} (h : Sto w B bs s) : s.length ≤ 4096 := by
 obtain ⟨bp, qs, h⟩ := h
 exact h.most
theorem free_c (B bs : Nat) (s : Pg.St) (i : Int) (w : World) (h : Sto w B bs s) (h1 : -9223372036854775808 ≤ i) (h2 : i ≤ 9223372036854775807) :
  Calls Tryz.prog 91 #[.pointer (some ⟨bs, 0, none⟩), .int .i64 i] w fun e w' => e = .returned (.int .i64 (Pg.freeE s i)) ∧ Sto w' B bs (Pg.freeS s i) ∧ Keeps StT B w w' := by
 obtain ⟨bp, qs, h⟩ := h
 have hm := h.most
 have hu := Pg.used_le s
 unfold Pg.freeE Pg.freeS
 cases e : Pg.at_ s i with
 | none =>
  refine (free_no B bs bp qs s _ i w h h1 h2 e).mono ?_
  rintro _ w' ⟨rfl, rfl⟩
  exact ⟨rfl, ⟨bp, qs, h⟩, Keeps.refl _ _ _⟩
 | some l =>
  refine (free_yes B bs bp qs s _ i l w h h1 h2 e (by omega)).mono ?_
  rintro _ w' ⟨rfl, h', hk⟩
  have := Pg.used_drop (Pg.at_some e).2.2
  exact ⟨rfl, ⟨bp, _, by rw [show ((Pg.used (s.set i.toNat none) : Nat) : Int) = (Pg.used s : Int) - 1 from by omega]; exact h'⟩, hk⟩
theorem alloc_c (B bs : Nat) (s : Pg.St) (n : Int) (w : World) (h : Sto w B bs s) (h1 : -9223372036854775808 ≤ n) (h2 : n ≤ 9223372036854775807) (hB : B ≤ w.heap.size) :
  Calls Tryz.prog 26 #[.pointer (some ⟨bs, 0, none⟩), .int .i64 n] w fun e w' => ∃ A c, e = .returned (.tuple #[.slice A (Pg.allocL s n).length c, .int .i64 (Pg.allocE s n)]) ∧ Own w' w.heap.size 3 1 A (Pg.allocL s n).length c (Is (Pg.allocL s n)) ∧
   Sto w' B bs (Pg.allocS s n) ∧ Keeps StT B w w' := by
 obtain ⟨bp, qs, h⟩ := h
 have hm := h.most
 have hu := Pg.used_le s
 unfold Pg.allocL Pg.allocS
 by_cases hn : n < 0
 ·have he : Pg.allocE s n = 1 := by unfold Pg.allocE; rw [if_pos hn]
  rw [he]
  refine (alloc_neg B bs bp qs s _ n w h hn h1).mono ?_
  rintro _ w' ⟨rfl, rfl⟩
  exact ⟨none, 0, rfl, Own.nil _ _ _ _, ⟨bp, qs, h⟩, Keeps.refl _ _ _⟩
 ·by_cases hf : (s.length : Int) - Pg.used s < n
  ·have he : Pg.allocE s n = 4 := by unfold Pg.allocE; rw [if_neg hn, if_pos hf]
   rw [he]
   refine (alloc_full B bs bp qs s n w h hf h2).mono ?_
   rintro _ w' ⟨rfl, k, rfl⟩
   exact ⟨none, 0, rfl, Own.nil _ _ _ _, ⟨bp, qs, h.drewN k⟩, (Keeps.refl _ _ _).drewN k⟩
  ·have he : Pg.allocE s n = 0 := by unfold Pg.allocE; rw [if_neg hn, if_neg hf]
   rw [he, if_pos rfl, if_pos rfl]
   obtain ⟨k, rfl⟩ := Int.eq_ofNat_of_zero_le (by omega : 0 ≤ n)
   rw [Int.toNat_natCast]
   have hk : k ≤ s.length - Pg.used s := by omega
   rw [Pg.length_ids hk]
   refine (alloc_yes B bs bp qs s k w h hk hB).mono ?_
   rintro _ w' ⟨A, c, rfl, ho, ⟨qs', hs⟩, hkp⟩
   refine ⟨A, c, rfl, ho, ⟨bp, qs', ?_⟩, hkp⟩
   rw [Pg.used_fill hk]
   exact hs
theorem put_c (B bs : Nat) (s : Pg.St) (A : Option Addr) (b : List UInt8) (n c : Nat) (w : World) (h : Sto w B bs s) (hl : b.length = n) (hn : n ≤ 140737488355328) (hnc : n ≤ c) (hc : c ≤ 9223372036854775807)
  (hr : Rs StT B w A (Bs b)) (hB : B ≤ w.heap.size) :
  Calls Tryz.prog 30 #[.pointer (some ⟨bs, 0, none⟩), .slice A n c] w fun e w' => ∃ A' c', e = .returned (.tuple #[.slice A' (Pg.putL s b).length c', .int .i64 (Pg.putE s b)]) ∧ Own w' w.heap.size 3 1 A' (Pg.putL s b).length c' (Is (Pg.putL s b)) ∧
   Sto w' B bs (Pg.putS s b) ∧ Keeps StT B w w' := by
 obtain ⟨bp, qs, h⟩ := h
 have hm := h.most
 have hu := Pg.used_le s
 subst hl
 unfold Pg.putL Pg.putE Pg.putS Pg.putL Pg.allocL Pg.allocS
 generalize hN : Pg.need b.length = N
 by_cases hf : s.length - Pg.used s < N
 ·have he : Pg.allocE s (N : Nat) = 4 := by unfold Pg.allocE; rw [if_neg (by omega), if_pos (by omega)]
  rw [he]
  refine (put_full B bs bp qs s A b.length c w h hn (by omega)).mono ?_
  rintro _ w' ⟨rfl, k, rfl⟩
  exact ⟨none, 0, rfl, Own.nil _ _ _ _, ⟨bp, qs, h.drewN k⟩, (Keeps.refl _ _ _).drewN k⟩
 ·have he : Pg.allocE s (N : Nat) = 0 := by unfold Pg.allocE; rw [if_neg (by omega), if_neg (by omega)]
  rw [he, if_pos rfl, if_pos rfl, Int.toNat_natCast]
  have hk : N ≤ s.length - Pg.used s := by omega
  rw [Pg.length_ids hk]
  refine (put_yes B bs bp qs s A b b.length c w h rfl hn hnc hc hr (by omega) hB).mono ?_
  rw [hN]
  rintro _ w' ⟨A', c', rfl, ho, ⟨qs', hs⟩, hkp⟩
  refine ⟨A', c', rfl, ho, ⟨bp, qs', ?_⟩, hkp⟩
  rw [Pg.used_lays _ _ _ (fun i hi => ⟨_, Pg.fill_at _ s i hi (Pg.mem_ids hi).1⟩), Pg.used_fill hk]
  exact hs
theorem used_c (B bs : Nat) (s : Pg.St) (w : World) (h : Sto w B bs s) :
  Calls Tryz.prog 24 #[.pointer (some ⟨bs, 0, none⟩)] w fun e w' => e = .returned (.int .i64 (Pg.used s : Nat)) ∧ w = w' := by
 obtain ⟨bp, qs, h⟩ := h
 exact (used_any B bs bp qs s _ w h).mono fun _ _ ⟨h1, h2⟩ => ⟨h1, h2.symm⟩
theorem drop_c (B bs : Nat) (s : Pg.St) (A : Option Addr) (l : List Int) (n c : Nat) (w : World) (h : Sto w B bs s) (hl : l.length = n) (hn : n ≤ 140737488355328) (hr : Rs StT B w A (Js l)) (hw : ∀ i ∈ l, -9223372036854775808 ≤ i ∧ i ≤ 9223372036854775807) (hB : B ≤ w.heap.size) :
  Calls Tryz.prog 75 #[.pointer (some ⟨bs, 0, none⟩), .slice A n c] w fun e w' => e = .returned (.tuple #[]) ∧ Sto w' B bs (Pg.dropS s l) ∧ Keeps StT B w w' := by
 have hll := Lib.hid hl
 have Hw := Lib.hid hw
 clear hl hw
 go_enter Tryz.func75, Tryz.ntmps75
 go_wp2_with fail
 go_loopw [8] (fun i wr => ∃ k : Nat, k ≤ n ∧ i = .int .i64 k ∧ Sto wr B bs (Pg.dropS s (l.take k)) ∧ Keeps StT B w wr) (fun i _ => n - (intOf i).toNat)
 case atStart => exact ⟨0, by omega, rfl, h, Keeps.refl _ _ _⟩
 case round =>
  obtain ⟨k, hk, rfl, hst, hkp⟩ := hrel
  have hR := hr.keeps hkp
  by_cases hlt : k < n
  ·obtain ⟨ga, oa, rfl, hga, _, hca⟩ := hR.rd.get (k := k) (by rw [List.length_map, hll.out]; exact hlt)
   rw [List.getElem_map] at hca
   have htk := Lib.hid (List.take_succ_eq_append_getElem (l := l) (i := k) (by rw [hll.out]; exact hlt))
   have hb := Hw.out _ (List.getElem_mem (l := l) (n := k) (by rw [hll.out]; exact hlt))
   generalize l[k]'(by rw [hll.out]; exact hlt) = id at *
   clear hr hR
   go_wp2_with fail
   refine (free_c B bs _ id wr hst hb.1 hb.2).mono ?_
   rintro e w2 ⟨rfl, hs2, hk2⟩
   go_wp2_with fail
   go_roundw
   case rel =>
    refine ⟨k + 1, by omega, by go_num, ?_, hkp.trans hk2⟩
    rw [htk.out, Pg.dropS_snoc]
    exact hs2
   case measure => simp [intOf]; omega
  ·obtain rfl : k = n := by omega
   have htk := Lib.hid (List.take_of_length_le (l := l) (i := k) (by rw [hll.out]; exact Nat.le_refl _))
   rw [htk.out] at hst
   go_wp2_with fail
   go_end0
   exact ⟨rfl, hst, hkp⟩
end Go.Proofs.YtcadjekcdokkjaaGreat
