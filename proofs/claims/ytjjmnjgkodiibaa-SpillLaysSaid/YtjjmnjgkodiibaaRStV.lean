/- The walks of the reference's store, on: used, read, raw, free, write, flip. -/
import Derived.Test.YtjjmnjgkodiibaaRStW
namespace Go.Proofs.Ytjjmnjgkodiibaa
open Go.RowKit

attribute [local go_sem ↓] Go.wp_at_zero Go.wp_at_succ

theorem rused_c (B bs : Nat) (s : Pg.St) (w : World) (h : RSto w B bs s) :
    Calls Try.prog 25 #[.pointer (some ⟨bs, 0, none⟩)] w fun e w' => e = .returned (.int .i64 (Pg.used s : Nat)) ∧ w = w' := by
  obtain ⟨bp, h⟩ := h
  have hc := h.st.cell 0
  simp only [List.getElem?_cons_zero] at hc
  have hm := h.most
  have Hh := Lib.hid h
  clear h
  have hcnt := Lib.hid (fun k => @List.countP_le_length _ Option.isSome (s.take k))
  go_enter Try.func25, Try.ntmps25
  go_wp2_with fail
  go_loop [3, 4] (fun v i => ∃ (k u : Nat), k ≤ s.length ∧ i = .int .i64 k ∧ v = .int .i64 u ∧ Hid ((s.take k).countP Option.isSome = u)) (fun _ i => s.length - (intOf i).toNat)
  case atStart => exact ⟨0, 0, by omega, rfl, rfl, rfl⟩
  case round =>
    obtain ⟨k, u, hk, rfl, rfl, hu⟩ := hrel
    have hub : u ≤ 4096 := by have := hcnt.out k; rw [hu.out, List.length_take] at this; omega
    by_cases hlt : k < s.length
    · have hon := (Hh.out.on (List.getElem?_eq_getElem hlt)).1
      have htk := Lib.hid (List.take_succ_eq_append_getElem hlt)
      have hkI : (k : Int) < (List.length s : Int) := by omega
      have hkI0 : (0 : Int) ≤ (k : Int) := by omega
      cases e : s[k] with
      | none =>
        rw [e] at hon htk
        have hn : Hid ((s.take (k + 1)).countP Option.isSome = u) := by show _ = _; rw [htk.out, List.countP_append, hu.out]; rfl
        simp only [Option.isSome_none] at hon
        clear e htk
        go_wp2_with fail
        go_round
        case rel => exact ⟨k + 1, u, by omega, by go_num, rfl, hn.out⟩
        case measure => simp [intOf]; omega
      | some m =>
        rw [e] at hon htk
        have hn : Hid ((s.take (k + 1)).countP Option.isSome = u + 1) := by show _ = _; rw [htk.out, List.countP_append, hu.out]; rfl
        simp only [Option.isSome_some] at hon
        clear e htk
        go_wp2_with fail
        go_round
        case rel => exact ⟨k + 1, u + 1, by omega, by go_num, by go_num, hn.out⟩
        case measure => simp [intOf]; omega
    · obtain rfl : k = s.length := by omega
      have hf : Hid (Pg.used s = u) := by have := hu.out; rwa [List.take_length] at this
      go_wp2_with fail
      go_ret
      exact ⟨by rw [hf.out]; rfl, rfl⟩

theorem rraw_c (B bs : Nat) (s : Pg.St) (i : Int) (w : World) (h : RSto w B bs s) (h1 : -9223372036854775808 ≤ i) (h2 : i ≤ 9223372036854775807) :
    Calls Try.prog 28 #[.pointer (some ⟨bs, 0, none⟩), .int .i64 i] w fun e w' => e = .returned (.tuple #[.string (St8 (Pg.rawB s i)), .int .i64 (Pg.rawE s i)]) ∧ w = w' := by
  obtain ⟨bp, h⟩ := h
  have hc := h.st.cell 0
  simp only [List.getElem?_cons_zero] at hc
  have hm := h.most
  have Hh := Lib.hid h
  cases e : Pg.at_ s i with
  | none =>
    have hE : Hid (Pg.rawE s i = 2) := by show _ = _; unfold Pg.rawE; rw [e]
    have hB : Hid (Pg.rawB s i = []) := by show _ = _; unfold Pg.rawB; rw [e]
    have hs : Hid ((Pg.at_ s i).isSome = false) := by show _ = _; rw [e]; rfl
    clear h e
    go_enter Try.func28, Try.ntmps28
    go_wp2_with fail
    refine (rhas_any B bs s i w ⟨bp, Hh.out⟩ h1 h2).mono ?_
    rw [hs.out]
    rintro e w' ⟨rfl, rfl⟩
    go_wp2_with fail
    go_ret2
    rw [hE.out, hB.out]
    exact ⟨rfl, rfl⟩
  | some l =>
    have hE : Hid (Pg.rawE s i = 0) := by show _ = _; unfold Pg.rawE; rw [e]
    have hB : Hid (Pg.rawB s i = l) := by show _ = _; unfold Pg.rawB; rw [e]
    have hs : Hid ((Pg.at_ s i).isSome = true) := by show _ = _; rw [e]; rfl
    obtain ⟨h0, hlt, hat⟩ := Pg.at_some e
    obtain ⟨k, rfl⟩ := Int.eq_ofNat_of_zero_le h0
    rw [Int.toNat_natCast] at hlt hat
    have hon := (h.on hat).2
    simp only [Option.getD_some] at hon
    have hkI : (k : Int) < (List.length s : Int) := by omega
    clear h e hat
    go_enter Try.func28, Try.ntmps28
    go_wp2_with fail
    refine (rhas_any B bs s k w ⟨bp, Hh.out⟩ h1 h2).mono ?_
    rw [hs.out]
    rintro e w' ⟨rfl, rfl⟩
    go_wp2_with fail
    go_ret2
    rw [hE.out, hB.out]
    exact ⟨rfl, rfl⟩

theorem rfree_c (B bs : Nat) (s : Pg.St) (i : Int) (w : World) (h : RSto w B bs s) (h1 : -9223372036854775808 ≤ i) (h2 : i ≤ 9223372036854775807) :
    Calls Try.prog 53 #[.pointer (some ⟨bs, 0, none⟩), .int .i64 i] w fun e w' => e = .returned (.int .i64 (Pg.freeE s i)) ∧ RSto w' B bs (Pg.freeS s i) ∧ Keeps RefT B w w' := by
  obtain ⟨bp, h⟩ := h
  have hc := h.st.cell 0
  simp only [List.getElem?_cons_zero] at hc
  have hm := h.most
  have Hh := Lib.hid h
  cases e : Pg.at_ s i with
  | none =>
    have hE : Hid (Pg.freeE s i = 2) := by show _ = _; unfold Pg.freeE; rw [e]
    have hS : Hid (Pg.freeS s i = s) := by show _ = _; unfold Pg.freeS; rw [e]
    have hs : Hid ((Pg.at_ s i).isSome = false) := by show _ = _; rw [e]; rfl
    clear h e
    go_enter Try.func53, Try.ntmps53
    go_wp2_with fail
    refine (rhas_any B bs s i w ⟨bp, Hh.out⟩ h1 h2).mono ?_
    rw [hs.out]
    rintro e w' ⟨rfl, rfl⟩
    go_wp2_with fail
    go_ret
    rw [hE.out, hS.out]
    exact ⟨rfl, ⟨bp, Hh.out⟩, Keeps.refl _ _ _⟩
  | some l =>
    have hE : Hid (Pg.freeE s i = 0) := by show _ = _; unfold Pg.freeE; rw [e]
    have hS : Hid (Pg.freeS s i = s.set i.toNat none) := by show _ = _; unfold Pg.freeS; rw [e]
    have hs : Hid ((Pg.at_ s i).isSome = true) := by show _ = _; rw [e]; rfl
    obtain ⟨h0, hlt, hat⟩ := Pg.at_some e
    obtain ⟨k, rfl⟩ := Int.eq_ofNat_of_zero_le h0
    rw [Int.toNat_natCast] at hlt hat hS
    have ho1 := (h.on hat).1
    have ho2 := (h.on hat).2
    have hf1 := h.row.frozen (k * 2)
    have hf2 := h.row.frozen (k * 2 + 1)
    have hkI : (k : Int) < (List.length s : Int) := by omega
    clear h e hat
    go_enter Try.func53, Try.ntmps53
    go_wp2_with fail
    refine (rhas_any B bs s k w ⟨bp, Hh.out⟩ h1 h2).mono ?_
    rw [hs.out]
    rintro e w' ⟨rfl, rfl⟩
    go_wp2_with fail
    go_ret
    rw [hE.out, hS.out]
    have hset := Hh.out.set_ hlt none (fun _ h => by cases h)
    refine ⟨rfl, ⟨bp, hset⟩, ?_⟩
    exact ((Keeps.refl RefT B w).setCell Hh.out.row (i := k * 2) (by simp) Hh.out.hp _).setCell (Hh.out.row.set_ _ _) (i := k * 2 + 1) (by simp) Hh.out.hp _
end Go.Proofs.Ytjjmnjgkodiibaa
