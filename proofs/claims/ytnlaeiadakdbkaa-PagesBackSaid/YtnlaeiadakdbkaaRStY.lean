/- The walks of the reference's store, on: put. -/
import Derived.Test.YtnlaeiadakdbkaaRStX
namespace Go.Proofs.Ytnlaeiadakdbkaa
open Go.RowKit

attribute [local go_sem ↓] Go.wp_at_zero Go.wp_at_succ

/-- The cells of a row of the call's own, behind a call that turns other types' blocks alone. -/
theorem Own.cell_keeps {T : List TypeId} {B : Nat} {w w' : World} {base : Nat} {e : TypeId} {size g o n c : Nat} {xs : List Value} (h : Own w base e size (some ⟨g, o, none⟩) n c xs) (ht : e ∉ T) (hk : Keeps T B w w') (j : Nat) : w'.cell? ⟨g, j, none⟩ = w.cell? ⟨g, j, none⟩ := by
  rcases h.lies with ⟨hA, _⟩ | ⟨g', cur, hA, _, hlt, hh, _⟩
  · cases hA
  · injection hA with hA
    injection hA with h1 h2
    subst h1
    refine World.cell?_of_block (a := ⟨g, j, none⟩) (hk.block g hlt (.inr fun c t f e' m => ?_))
    rw [hh] at e'
    injection e' with e'
    injection e' with _ e'
    exact ht (e' ▸ m)

theorem Pg.writeS_lays {s : Pg.St} {I : List Nat} {b : List UInt8} {k id : Nat} {m : List UInt8} (h : (Pg.lays s (I.take k) b)[id]? = some (some m)) (hk : k < I.length) (hid : I[k]? = some id) :
    Pg.writeS (Pg.lays s (I.take k) b) (id : Int) ((b.drop (56 * k)).take 56) = Pg.lays s (I.take (k + 1)) b := by
  have ht := List.take_succ_eq_append_getElem hk
  rw [List.getElem?_eq_getElem hk] at hid
  rw [ht, Option.some.inj hid, Pg.lays_snoc, List.length_take, Nat.min_eq_left (by omega)]
  unfold Pg.writeS
  rw [Pg.at_nat, h]
  show (if _ then _ else _) = _
  rw [if_neg (by rw [List.length_take]; omega), Int.toNat_natCast]

set_option maxRecDepth 100000 in
theorem rput_c (B bs : Nat) (s : Pg.St) (A : Option Addr) (b : List UInt8) (n c : Nat) (w : World) (h : RSto w B bs s) (hl : b.length = n) (hn : n ≤ 140737488355328) (hnc : n ≤ c) (hc : c ≤ 9223372036854775807)
    (hr : Rs RefT B w A (Bs b)) (hB : B ≤ w.heap.size) :
    Calls Try.prog 36 #[.pointer (some ⟨bs, 0, none⟩), .slice A n c] w fun e w' => ∃ A' c', e = .returned (.tuple #[.slice A' (Pg.putL s b).length c', .int .i64 (Pg.putE s b)]) ∧ Own w' w.heap.size 3 1 A' (Pg.putL s b).length c' (Is (Pg.putL s b)) ∧
      RSto w' B bs (Pg.putS s b) ∧ Keeps RefT B w w' := by
  have hb : Pg.need n ≤ n := by unfold Pg.need; split <;> omega
  have hu := Pg.used_le s
  have hll := Lib.hid hl
  have hPE : Hid (Pg.putE s b = Pg.allocE s (Pg.need n : Nat)) := by show _ = _; unfold Pg.putE; rw [hl]
  have hPL : Hid (Pg.putL s b = Pg.allocL s (Pg.need n : Nat)) := by show _ = _; unfold Pg.putL; rw [hl]
  have hPS : Hid (Pg.putS s b = Pg.lays (Pg.allocS s (Pg.need n : Nat)) (Pg.allocL s (Pg.need n : Nat)) b) := by show _ = _; unfold Pg.putS; rw [hPL.out, hl]
  clear hl
  by_cases hf : s.length - Pg.used s < Pg.need n
  · have he : Pg.allocE s (Pg.need n : Nat) = 4 := by unfold Pg.allocE; rw [if_neg (by omega), if_pos (by omega)]
    have hL : Pg.allocL s (Pg.need n : Nat) = [] := by unfold Pg.allocL; rw [if_neg (by rw [he]; decide)]
    have hS : Pg.allocS s (Pg.need n : Nat) = s := by unfold Pg.allocS; rw [if_neg (by rw [he]; decide)]
    rw [he] at hPE
    rw [hL] at hPL
    rw [hL, hS] at hPS
    clear he hL hS
    go_enter Try.func36, Try.ntmps36
    go_wp2_with fail
    refine (rneed_any n w (by omega)).mono ?_
    rintro e w' ⟨rfl, rfl⟩
    go_wp2_with fail
    refine (ralloc_full B bs s _ w h (by omega) (by omega)).mono ?_
    rintro e w' ⟨rfl, k, rfl⟩
    go_wp2_with fail
    go_ret2
    rw [hPE.out, hPL.out, hPS.out]
    exact ⟨none, 0, rfl, Own.nil _ _ _ _, h.drewN k, (Keeps.refl _ _ _).drewN k⟩
  · have hroom : Pg.need n ≤ s.length - Pg.used s := by omega
    have he : Pg.allocE s (Pg.need n : Nat) = 0 := by unfold Pg.allocE; rw [if_neg (by omega), if_neg (by omega)]
    have hL : Pg.allocL s (Pg.need n : Nat) = Pg.ids s (Pg.need n) := by unfold Pg.allocL; rw [if_pos he, Int.toNat_natCast]
    have hS : Pg.allocS s (Pg.need n : Nat) = Pg.fill s (Pg.ids s (Pg.need n)) := by unfold Pg.allocS; rw [if_pos he, Int.toNat_natCast]
    rw [he] at hPE
    rw [hL] at hPL
    rw [hL, hS] at hPS
    have hids := Lib.hid (Pg.length_ids hroom)
    have hmem : Hid (∀ i ∈ Pg.ids s (Pg.need n), i < s.length) := fun i h => (Pg.mem_ids h).1
    have hfa : Hid (∀ i ∈ Pg.ids s (Pg.need n), (Pg.fill s (Pg.ids s (Pg.need n)))[i]? = some (some (Pg.page i []))) := fun i h => Pg.fill_at _ s i h (Pg.mem_ids h).1
    have hneed : Hid (∀ k, k < Pg.need n → 56 * k < n) := fun k h => Pg.need_lt h
    have hm : s.length ≤ 4096 := by obtain ⟨bp, h⟩ := h; exact h.most
    clear he hL hS hf
    go_enter Try.func36, Try.ntmps36
    go_wp2_with fail
    refine (rneed_any n w (by omega)).mono ?_
    rintro e w' ⟨rfl, rfl⟩
    go_wp2_with fail
    refine (ralloc_yes B bs s (Pg.need n) w h hroom hB).mono ?_
    rintro e w1 ⟨A1, c1, rfl, ho1, hs1, hk1⟩
    have hr1 := hr.keeps hk1
    have hz1 := hk1.size
    clear h hr
    generalize Pg.fill s (Pg.ids s (Pg.need n)) = F at *
    generalize Pg.ids s (Pg.need n) = I at *
    generalize Pg.need n = N at *
    go_wp2_with fail
    go_loopw [8] (fun i wr => ∃ k : Nat, k ≤ N ∧ i = .int .i64 k ∧ RSto wr B bs (Pg.lays F (I.take k) b) ∧ Keeps RefT B w1 wr) (fun i _ => N - (intOf i).toNat)
    case atStart => exact ⟨0, by omega, rfl, hs1, Keeps.refl _ _ _⟩
    case round =>
      obtain ⟨k, hk, rfl, hst, hkp⟩ := hrel
      have hzr := hkp.size
      have hor := Own.keeps ho1 (by decide) hkp
      have hR := hr1.keeps hkp
      by_cases hlt : k < N
      · obtain ⟨ga, oa, rfl, hga, _, hca⟩ := hor.rd.get (k := k) (by rw [List.length_map, hids.out]; exact hlt)
        rw [List.getElem_map] at hca
        have hkI : k < I.length := by rw [hids.out]; exact hlt
        have hidk := Lib.hid (List.getElem?_eq_getElem hkI)
        have hIk : I[k] ∈ I := List.getElem_mem _
        generalize I[k] = id at *
        have hid' := hmem.out id hIk
        obtain ⟨mm, hmm⟩ := Pg.lays_taken (I.take k) F b id _ (hfa.out id hIk)
        have hws := Lib.hid (Pg.writeS_lays hmm hkI hidk.out)
        have hkn := hneed.out k hlt
        have hne : Bs b ≠ [] := by
          intro e
          have := congrArg List.length e
          rw [List.length_map, hll.out] at this
          simp at this
          omega
        obtain ⟨b0, o0, rfl, hrr, _⟩ := hR hne
        have hpart := Rd.part hrr (56 * k) 56
        rw [← List.map_drop, ← List.map_take] at hpart
        have hrd := Lib.hid (Rd.of_range hpart)
        have hlen : Hid (((b.drop (56 * k)).take 56).length = min 56 (n - 56 * k)) := by show _ = _; rw [List.length_take, List.length_drop, hll.out]
        have Hst := Lib.hid hst
        have Hor := Lib.hid hor
        clear hst hor hR hrr hpart hne hmm hIk hkI
        obtain ⟨lo, hlo⟩ : ∃ lo : Nat, 56 * k = lo := ⟨_, rfl⟩
        rw [hlo] at hrd hlen hws hkn
        have hloI : (k : Int) * 56 = (lo : Int) := by omega
        have hlo' := Lib.hid hlo
        have hw1 : IntKind.i64.wrap (lo : Int) = (lo : Int) := by rw [IntKind.wrap_i64]; omega
        have hw2 : IntKind.i64.wrap ((k : Int) + 1) = (k : Int) + 1 := by rw [IntKind.wrap_i64]; omega
        have hcl : ¬ (c = lo) := by omega
        have hcl' : ¬ (lo = c) := by omega
        by_cases h56 : (k + 1) * 56 < n
        · obtain ⟨hi, hhi⟩ : ∃ hi : Nat, (k + 1) * 56 = hi := ⟨_, rfl⟩
          have hhiI : ((k : Int) + 1) * 56 = (hi : Int) := by omega
          have hhi' : Hid (hi = lo + 56 ∧ lo + 56 ≤ n) := ⟨by omega, by omega⟩
          have hb1 : (lo : Int) ≤ (hi : Int) := by omega
          have hb2 : (hi : Int) ≤ (c : Int) := by omega
          have hb3 : (hi : Int) < (n : Int) := by omega
          have hw3 : IntKind.i64.wrap (hi : Int) = (hi : Int) := by rw [IntKind.wrap_i64]; omega
          clear hhi hlo h56
          go_wp2_with fail
          go_region_held3 (fun w' => w'.cell? ⟨ga, oa + k, none⟩ = some (.int .i64 (id : Int)))
            (first | assumption | exact hca2)
            ((go_at_call 34; refine (rwrite_c B bs _ id _ ((b.drop lo).take 56) _ _ _ (by exact Hst.out.drewN 1) (by omega) (by omega) (by rw [hlen.out]; have := hlo'.out; have := hhi'.out; omega) (by exact hrd.out) (by exact (show B ≤ wr.heap.size by omega)) (by omega)).mono ?_; rw [hws.out]; rintro e w2 ⟨rfl, hs2, hk2'⟩; have hk2 : Keeps RefT B wr w2 := ⟨hk2'.os, hk2'.tape, hk2'.output, hk2'.size, hk2'.block⟩; have hca2 := (Own.cell_keeps Hor.out (by decide) hk2 (oa + k)).trans hca))
          go_wp2_with fail
          go_roundw
          case rel => exact ⟨k + 1, by omega, by go_num, hs2, hkp.trans hk2⟩
          case measure => simp [intOf]; omega
        · obtain ⟨hi, hhi⟩ : ∃ hi : Nat, (k + 1) * 56 = hi := ⟨_, rfl⟩
          have hhiI : ((k : Int) + 1) * 56 = (hi : Int) := by omega
          have hhi' : Hid (n ≤ lo + 56) := by show _ ≤ _; omega
          have hb1 : (lo : Int) ≤ (n : Int) := by omega
          have hb2 : (n : Int) ≤ (c : Int) := by omega
          have hb3 : ¬ ((hi : Int) < (n : Int)) := by omega
          have hb5 : (if (hi : Int) < (n : Int) then (hi : Int) else (n : Int)) = (n : Int) := if_neg hb3
          have hb6 : lo ≤ n := by omega
          have hb7 : ¬ (hi < n) := by omega
          have hw3 : IntKind.i64.wrap (hi : Int) = (hi : Int) := by rw [IntKind.wrap_i64]; omega
          clear hhi hlo h56
          go_wp2_with fail
          go_region_held3 (fun w' => w'.cell? ⟨ga, oa + k, none⟩ = some (.int .i64 (id : Int)))
            (first | assumption | exact hca2)
            ((go_at_call 34; refine (rwrite_c B bs _ id _ ((b.drop lo).take 56) _ _ _ (by exact Hst.out.drewN 1) (by omega) (by omega) (by rw [hlen.out]; have := hlo'.out; have := hhi'.out; omega) (by exact hrd.out) (by exact (show B ≤ wr.heap.size by omega)) (by omega)).mono ?_; rw [hws.out]; rintro e w2 ⟨rfl, hs2, hk2'⟩; have hk2 : Keeps RefT B wr w2 := ⟨hk2'.os, hk2'.tape, hk2'.output, hk2'.size, hk2'.block⟩; have hca2 := (Own.cell_keeps Hor.out (by decide) hk2 (oa + k)).trans hca))
          go_wp2_with fail
          go_roundw
          case rel => exact ⟨k + 1, by omega, by go_num, hs2, hkp.trans hk2⟩
          case measure => simp [intOf]; omega
      · obtain rfl : k = N := by omega
        have htk := Lib.hid (List.take_of_length_le (l := I) (i := k) (by rw [hids.out]; exact Nat.le_refl _))
        rw [htk.out] at hst
        go_wp2_with fail
        go_ret2
        rw [hPE.out, hPL.out, hPS.out, hids.out]
        exact ⟨A1, c1, rfl, hor, hst, hk1.trans hkp⟩
end Go.Proofs.Ytnlaeiadakdbkaa
