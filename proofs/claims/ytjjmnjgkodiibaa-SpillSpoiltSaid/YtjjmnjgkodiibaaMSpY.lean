/- The walk of SpillPages. -/
import Derived.Test.YtjjmnjgkodiibaaMSpLN
import Derived.Test.YtjjmnjgkodiibaaMSpH
import Derived.Test.YtjjmnjgkodiibaaMPagG
namespace Go.Proofs.Ytjjmnjgkodiibaa
open Go.RowKit

attribute [local go_sem ↓] Go.wp_at_zero Go.wp_at_succ

theorem Rows.okAll {w : World} {hs : List Value} {rs : List RowM} (h : Rows w hs rs) : ∀ r ∈ rs, ∀ v ∈ r, v.ok := fun r hr => by
  obtain ⟨i, hi⟩ := List.getElem?_of_mem hr
  obtain ⟨_, _, _, _, _, _, h⟩ := h.at_ i r hi
  exact h
/-- What few and laid leave has room on 600 pages. -/
theorem laid_room {rs : List RowM} (h : Fewer rs) (hok : ∀ r ∈ rs, ∀ v ∈ r, v.ok) : Pg.need (rowsB (laidR rs)).length ≤ (List.replicate 600 (none : Option (List UInt8))).length - Pg.used (List.replicate 600 none) ∧ (rowsB (laidR rs)).length ≤ 29260 := by
  have h1 := rowsB_le2 (laidR_may rs) (fun r hr => hok r (List.mem_filter.1 hr).1)
  have h2 := h.laid.len
  have h3 := h.laid.txt
  have hu : Pg.used (List.replicate 600 (none : Option (List UInt8))) = 0 := used_none 600
  have hN : (rowsB (laidR rs)).length ≤ 29260 := by omega
  refine ⟨?_, hN⟩
  rw [hu, List.length_replicate]
  unfold Pg.need
  split <;> omega

set_option maxHeartbeats 8000000 in
set_option maxRecDepth 100000 in
theorem pages_walk (rs : List RowM) (hs : List Value) (n c : Nat) (X : Option Addr) (w : World) (hn : rs.length = n) (hnc : n ≤ c) (hc : c ≤ 9223372036854775807) (hX : Rd w X hs) (hR : Rows w hs rs) :
    Calls Try.prog 5 #[.slice X n c] w fun e w' => e = .returned (.bool true) ∧ Below w.heap.size w w' := by
  have Hn := Lib.hid hn
  clear hn
  go_enter Try.func5, Try.ntmps5
  go_wp2_with fail
  refine (shown17 w).mono ?_
  rintro e w1 ⟨rfl, hb1⟩
  go_wp2_with fail
  refine (new_yes 600 w1 (by omega)).mono ?_
  rintro e w2 ⟨bs, rfl, hs2, hb2⟩
  have hb02 := hb1.trans (hb2.mono hb1.size)
  have hz1 := hb1.size
  have hz2 := hb2.size
  have Hs2 := Lib.hid hs2
  have Hb02 := Lib.hid hb02
  clear hb1 hb2 hs2 hb02
  go_wp2_with fail
  refine (few17 rs hs n c X w2 Hn.out hnc hc (hX.below Hb02.out) (hR.below Hb02.out)).mono ?_
  rintro e w3 ⟨⟨k, hk, hfew, rfl⟩, hb3⟩
  have hz3 := hb3.size
  have hb03 := Hb02.out.trans (hb3.mono Hb02.out.size)
  have hxl : (rs.take k).length = k := by rw [List.length_take, Hn.out]; omega
  have hXk : Rd w (X) (hs.take k) := rdTake hX k
  have hRk := hR.take k
  have hok := hRk.okAll
  generalize rs.take k = xs at *
  generalize hs.take k = js at *
  have hk60 : k ≤ 60 := by have := hfew.len; omega
  have hlaid := Lib.hid (laid17 w xs js k c X w3 hb03 hxl (hXk.below hb03) hRk (by omega))
  have Hs3 := Lib.hid (Hs2.out.below hb3)
  have Hb03 := Lib.hid hb03
  have Hroom := Lib.hid (laid_room hfew hok)
  have hlen := laidR_len xs
  have Hmay := Lib.hid (laidR_may xs)
  clear hX hR hXk hRk hb3 hb03 hfew hok Hs2 Hb02 Hn
  go_wp2_with fail
  refine hlaid.out.mono ?_
  rintro e w4 ⟨A4, L, c4, hs', rfl, hL, ho4, hR4, hb4⟩
  have hz4 := hb4.size
  have hnc4 := Own.cap ho4
  have hat := Lib.hid (Pg.put_at Hmay.out Hroom.out.1)
  have HN := Lib.hid Hroom.out.2
  generalize laidR xs = x at *
  have Hs4 := Lib.hid (Hs3.out.below hb4)
  have Hb04 := Lib.hid (Hb03.out.trans (hb4.mono Hb03.out.size))
  have Hrows : Hid (∀ w', Keeps StT w1.heap.size w4 w' → Rd w' A4 hs' ∧ Rows w' hs' x) := fun w' hk => ⟨(Own.keeps ho4 (by decide) hk).rd, hR4.below (Hb04.out.trans ((hk.below (by omega)).mono (by omega)))⟩
  have hput := sput_c w1.heap.size bs _ x hs' L c4 A4 w4 Hs4.out (by omega) hL Hrows.out (by omega) hnc4.1 (by have := hnc4.2; unfold maxLen at this; omega)
  have Hput := Lib.hid hput
  have HL := Lib.hid hL
  have hL9 : L ≤ 1000 := by omega
  have Hu0 := Lib.hid (used_none 600)
  generalize (List.replicate 600 none : Pg.St) = s0 at *
  clear hput hL ho4 hR4 hb4 hlaid Hs3 Hb03 Hs4 Hroom
  go_wp2_with fail
  refine Hput.out.mono ?_
  rintro e w5 ⟨hp5, hs5, hk5⟩
  rcases hp5 with ⟨_, bf, q, ic, I, rfl, hf5⟩ | ⟨h, _⟩
  · have hq := hf5.klen
    have hz5 := hk5.size
    have hb45 := hk5.below (by omega)
    have Hb05 := Lib.hid (Hb04.out.trans (hb45.mono (by omega)))
    have hr5 := Hrows.out _ hk5
    have Hr5 : Hid (∀ w', Below w5.heap.size w5 w' → Rd w' A4 hs' ∧ Rows w' hs' x) := fun w' hb => Hrows.out w' (hk5.then_below hb)
    have Hq := Lib.hid hq
    have hcb := Lib.hid (cbytes_any x hs' L c4 A4 w5 HL.out hr5.1 hr5.2 (by omega) Hmay.out)
    have Hs5 := Lib.hid hs5
    have Hf5 := Lib.hid hf5
    have hq2 : q = Pg.need (rowsB x).length := by rw [← hq]; exact hat.out.holds.len
    have hN := HN.out
    have hget := Lib.hid (hat.out.holds.get)
    have hlt := Lib.hid hat.out.lt
    have hus := Lib.hid hat.out.used
    generalize hT : rowsB x = T at *
    have HT := Lib.hid hT
    clear hT
    generalize hTN : T.length = N at *
    have HTN := Lib.hid hTN
    have Hq2 := Lib.hid hq2
    have hq9 : q ≤ 4096 := by rw [hq2]; unfold Pg.need; split <;> omega
    clear hTN hq hq2 hs5 hf5 hk5 hb45 hr5 Hput Hb04
    go_wp2_with fail
    refine hcb.out.mono ?_
    rintro e w6 ⟨rfl, hb6⟩
    have hpg := Lib.hid (pages_c _ bs bf _ _ _ _ _ w6 (Hf5.out.below hb6) (by omega))
    have Hs6 := Lib.hid (Hs5.out.below hb6)
    have Hf6 := Lib.hid (Hf5.out.below hb6)
    have Hb06 := Lib.hid (Hb05.out.trans (hb6.mono Hb05.out.size))
    have Hb56 := Lib.hid hb6
    have hr5 : Hid (∀ w', Below w5.heap.size w5 w' → Rd w' A4 hs' ∧ Rows w' hs' x) := Hr5.out
    clear hb6 hcb Hs5 Hf5 Hb05
    go_wp2_with fail
    refine hpg.out.mono ?_
    rintro e w7 ⟨A7, c7, rfl, ho7, hb7⟩
    have hgt := get_c w1.heap.size bs _ A7 ((Pg.putRL s0 x).map Int.ofNat) q c7 (N : Int) w7 (Hs6.out.below hb7) (by rw [List.length_map]; exact Hq.out) (by omega) (by rw [Js_Is]; exact ho7.rd) (fun i hi => by
      obtain ⟨j, hj, rfl⟩ := List.mem_map.1 hi
      have := hlt.out j hj
      have := sto_len Hs6.out
      have := hat.out.len
      constructor <;> simp <;> omega) (by omega) (by omega)
    rw [hget.out.1, hget.out.2, HTN.out] at hgt
    have Hgt := Lib.hid hgt
    have Hs7 := Lib.hid (Hs6.out.below hb7)
    have Hf7 := Lib.hid (Hf6.out.below hb7)
    have Hb07 := Lib.hid (Hb06.out.trans (hb7.mono Hb06.out.size))
    have Hb57 := Lib.hid (Hb56.out.trans (hb7.mono Hb56.out.size))
    clear hgt ho7 hb7 hpg Hs6 Hf6 Hb06 Hb56
    go_wp2_with fail
    refine Hgt.out.mono ?_
    rintro e w8 ⟨A8, c8, rfl, hr8, hb8⟩
    have Hs8 := Lib.hid (Hs7.out.below hb8)
    have Hf8 := Lib.hid (Hf7.out.below hb8)
    have Hb08 := Lib.hid (Hb07.out.trans (hb8.mono Hb07.out.size))
    have Hb58 := Lib.hid (Hb57.out.trans (hb8.mono Hb57.out.size))
    have Hr8 := Lib.hid hr8
    have hcv8 := run_str w8.drew A8 T N c8 HTN.out hr8
    clear hr8 hb8 Hs7 Hf7 Hb07 Hb57 Hgt
    have hpg := Lib.hid (fun w' (hb : Below w8.heap.size w8 w') => pages_c _ bs bf _ _ _ _ _ w' (Hf8.out.below hb) (by omega))
    have hus8 := Lib.hid (fun w' (hb : Below w8.heap.size w8 w') => used_c w1.heap.size bs _ w' (Hs8.out.below hb))
    have hrb := fun w' (hb : Below w8.heap.size w8 w') => rbytes_any x hs' L c4 A4 w' HL.out (hr5.out w' (Hb58.out.trans (hb.mono Hb58.out.size))).1 (hr5.out w' (Hb58.out.trans (hb.mono Hb58.out.size))).2 hL9 Hmay.out
    rw [HT.out] at hrb
    have hrb := Lib.hid hrb
    have hne := fun w' => need_any N w' (by omega)
    rw [← Hq2.out] at hne
    have hne := Lib.hid hne
    have hu0 : Pg.used (Pg.putRS s0 x) = Pg.need N := by rw [hus.out]; rw [Hu0.out, Nat.zero_add]
    rw [hu0, ← Hq2.out] at hus8
    have hbd : Below w8.heap.size w8 w8.drew := (Below.refl _ _).drew
    have hcvt := Lib.hid (fun w' (hb : Below w8.heap.size w8 w') => run_str w' A8 T N c8 HTN.out (Hr8.out.below hb))
    clear Hs8 Hf8 Hb58 Hr8 hr5 hu0 hus hget hat hlt
    go_wp2_with fail
    refine wp_region_held_drew (S := fun w' => (convert 58 9 (.slice A8 N c8)).run Try.prog w' = .ok (.string (St8 T)) w') (by kernel_rfl) hcv8 (fun hHeld => ?_)
    (refine wpAnyH_take (i := 0) (oi := ?oi0) (v := ?vv0) ?hi0 (by kernel_rfl) (by kernel_rfl) (by kernel_rfl) ?hQ0 ?hy0 (by assumption) ?rest0; (case hi0 => ((simp only [List.getElem?_toArray, List.getElem?_cons_succ, List.getElem?_cons_zero]); rfl)); (case hQ0 => exact (fun _ _ _ h => h)); (case hy0 => (refine Or.inl ⟨by rfl, ?_⟩; intro w hSw; (try dsimp only at hSw); go_simp; try (with_reducible rfl))); (try simp only [Act.put, List.setIfInBounds_toArray, List.set_cons_zero, List.set_cons_succ]))
    (refine wpAnyH_take (i := 1) (oi := ?oi1) (v := ?vv1) ?hi1 (by kernel_rfl) (by kernel_rfl) (by kernel_rfl) ?hQ1 ?hy1 (by assumption) ?rest1; (case hi1 => ((simp only [List.getElem?_toArray, List.getElem?_cons_succ, List.getElem?_cons_zero]); rfl)); (case hQ1 => exact (fun _ _ _ h => h)); (case hy1 => (refine Or.inl ⟨by rfl, ?_⟩; intro w hSw; (try dsimp only at hSw); go_simp; try (with_reducible rfl))); (try simp only [Act.put, List.setIfInBounds_toArray, List.set_cons_zero, List.set_cons_succ]))
    (refine wpAnyH_take (i := 2) (oi := ?oi2) (v := ?vv2) ?hi2 (by kernel_rfl) (by kernel_rfl) (by kernel_rfl) ?hQ2 ?hy2 (by assumption) ?rest2; (case hi2 => ((simp only [List.getElem?_toArray, List.getElem?_cons_succ, List.getElem?_cons_zero]); rfl)); (case hQ2 => exact (fun _ _ _ h => h)); (case hy2 => (refine Or.inl ⟨by rfl, ?_⟩; intro w hSw; (try dsimp only at hSw); go_simp; try (with_reducible rfl))); (try simp only [Act.put, List.setIfInBounds_toArray, List.set_cons_zero, List.set_cons_succ]))
    (refine wpAnyH_take (i := 5) (oi := ?oi5) (v := ?vv5) ?hi5 (by kernel_rfl) (by kernel_rfl) (by kernel_rfl) ?hQ5 ?hy5 (by assumption) ?rest5; (case hi5 => ((simp only [List.getElem?_toArray, List.getElem?_cons_succ, List.getElem?_cons_zero]); rfl)); (case hQ5 => exact (fun _ _ _ h => h)); (case hy5 => (refine Or.inl ⟨by rfl, ?_⟩; intro w hSw; (try dsimp only at hSw); go_simp; try (with_reducible rfl))); (try simp only [Act.put, List.setIfInBounds_toArray, List.set_cons_zero, List.set_cons_succ]))
    (refine wpAnyH_ready (rs := [3]) (by kernel_rfl) (by simp) ?_; refine AllReadyH.cons (o := ?oc3) ?ho3 (fun K hK => ?_) AllReadyH.nil; (case ho3 => ((simp only [List.getElem?_toArray, List.getElem?_cons_succ, List.getElem?_cons_zero]); rfl)); go_simp)
    go_at_call 17
    refine (hpg.out _ hbd).mono ?_
    rintro e wp ⟨Ap, cp, rfl, hop, hbp⟩
    have hbp8 := hbd.trans (hbp.mono hbd.size)
    have hcvp := hcvt.out wp hbp8
    clear hcv8 hHeld hop
    go_wp2_with fail
    refine hK.out _ _ hcvp (fun hHeld => ?_)
    clear hK K
    (try simp only [Act.put, List.setIfInBounds_toArray, List.set_cons_zero, List.set_cons_succ])
    (refine wpAnyH_take (i := 4) (oi := ?oi4) (v := ?vv4) ?hi4 (by kernel_rfl) (by kernel_rfl) (by kernel_rfl) ?hQ4 ?hy4 (by assumption) ?rest4; (case hi4 => ((simp only [List.getElem?_toArray, List.getElem?_cons_succ, List.getElem?_cons_zero]); rfl)); (case hQ4 => exact (fun _ _ _ h => h)); (case hy4 => (refine Or.inl ⟨by rfl, ?_⟩; intro w hSw; (try dsimp only at hSw); go_simp; try (with_reducible rfl))); (try simp only [Act.put, List.setIfInBounds_toArray, List.set_cons_zero, List.set_cons_succ]))
    (refine wpAnyH_ready (rs := [6]) (by kernel_rfl) (by simp) ?_; refine AllReadyH.cons (o := ?oc6) ?ho6 (fun K hK => ?_) AllReadyH.nil; (case ho6 => ((simp only [List.getElem?_toArray, List.getElem?_cons_succ, List.getElem?_cons_zero]); rfl)); go_simp)
    go_at_call 33
    refine (hne.out _).mono ?_
    rintro e w' ⟨rfl, rfl⟩
    clear hHeld
    go_wp2_with fail
    refine hK.out _ _ hcvp (fun hHeld => ?_)
    clear hK K
    (try simp only [Act.put, List.setIfInBounds_toArray, List.set_cons_zero, List.set_cons_succ])
    (refine wpAnyH_take (i := 7) (oi := ?oi7) (v := ?vv7) ?hi7 (by kernel_rfl) (by kernel_rfl) (by kernel_rfl) ?hQ7 ?hy7 (by assumption) ?rest7; (case hi7 => ((simp only [List.getElem?_toArray, List.getElem?_cons_succ, List.getElem?_cons_zero]); rfl)); (case hQ7 => exact (fun _ _ _ h => h)); (case hy7 => (refine Or.inl ⟨by rfl, ?_⟩; intro w hSw; (try dsimp only at hSw); go_simp; try (with_reducible rfl))); (try simp only [Act.put, List.setIfInBounds_toArray, List.set_cons_zero, List.set_cons_succ]))
    (refine wpAnyH_take (i := 8) (oi := ?oi8) (v := ?vv8) ?hi8 (by kernel_rfl) (by kernel_rfl) (by kernel_rfl) ?hQ8 ?hy8 (by assumption) ?rest8; (case hi8 => ((simp only [List.getElem?_toArray, List.getElem?_cons_succ, List.getElem?_cons_zero]); rfl)); (case hQ8 => exact (fun _ _ _ h => h)); (case hy8 => (refine Or.inl ⟨by rfl, ?_⟩; intro w hSw; (try dsimp only at hSw); go_simp; try (with_reducible rfl))); (try simp only [Act.put, List.setIfInBounds_toArray, List.set_cons_zero, List.set_cons_succ]))
    (refine wpAnyH_take (i := 9) (oi := ?oi9) (v := ?vv9) ?hi9 (by kernel_rfl) (by kernel_rfl) (by kernel_rfl) ?hQ9 ?hy9 (by assumption) ?rest9; (case hi9 => ((simp only [List.getElem?_toArray, List.getElem?_cons_succ, List.getElem?_cons_zero]); rfl)); (case hQ9 => exact (fun _ _ _ h => h)); (case hy9 => (refine Or.inl ⟨by rfl, ?_⟩; intro w hSw; (try dsimp only at hSw); go_simp; try (with_reducible rfl))); (try simp only [Act.put, List.setIfInBounds_toArray, List.set_cons_zero, List.set_cons_succ]))
    (refine wpAnyH_take (i := 10) (oi := ?oi10) (v := ?vv10) ?hi10 (by kernel_rfl) (by kernel_rfl) (by kernel_rfl) ?hQ10 ?hy10 (by assumption) ?rest10; (case hi10 => ((simp only [List.getElem?_toArray, List.getElem?_cons_succ, List.getElem?_cons_zero]); rfl)); (case hQ10 => exact (fun _ _ _ h => h)); (case hy10 => (refine Or.inl ⟨by rfl, ?_⟩; intro w hSw; (try dsimp only at hSw); go_simp; try (with_reducible rfl))); (try simp only [Act.put, List.setIfInBounds_toArray, List.set_cons_zero, List.set_cons_succ]))
    (refine wpAnyH_take (i := 12) (oi := ?oi12) (v := ?vv12) ?hi12 (by kernel_rfl) (by kernel_rfl) (by kernel_rfl) ?hQ12 ?hy12 (by assumption) ?rest12; (case hi12 => ((simp only [List.getElem?_toArray, List.getElem?_cons_succ, List.getElem?_cons_zero]); rfl)); (case hQ12 => exact (fun _ _ _ h => h)); (case hy12 => (refine Or.inl ⟨by rfl, ?_⟩; intro w hSw; (try dsimp only at hSw); go_simp; try (with_reducible rfl))); (try simp only [Act.put, List.setIfInBounds_toArray, List.set_cons_zero, List.set_cons_succ]))
    (refine wpAnyH_ready (rs := [11]) (by kernel_rfl) (by simp) ?_; refine AllReadyH.cons (o := ?oc11) ?ho11 (fun K hK => ?_) AllReadyH.nil; (case ho11 => ((simp only [List.getElem?_toArray, List.getElem?_cons_succ, List.getElem?_cons_zero]); rfl)); go_simp)
    go_at_call 18
    refine (hus8.out _ hbp8).mono ?_
    rintro e w' ⟨rfl, rfl⟩
    clear hHeld
    go_wp2_with fail
    refine hK.out _ _ hcvp (fun hHeld => ?_)
    clear hK K
    (try simp only [Act.put, List.setIfInBounds_toArray, List.set_cons_zero, List.set_cons_succ])
    (refine wpAnyH_ready (rs := [13]) (by kernel_rfl) (by simp) ?_; refine AllReadyH.cons (o := ?oc13) ?ho13 (fun K hK => ?_) AllReadyH.nil; (case ho13 => ((simp only [List.getElem?_toArray, List.getElem?_cons_succ, List.getElem?_cons_zero]); rfl)); go_simp)
    go_at_call 33
    refine (hne.out _).mono ?_
    rintro e w' ⟨rfl, rfl⟩
    clear hHeld
    go_wp2_with fail
    refine hK.out _ _ hcvp (fun hHeld => ?_)
    clear hK K
    (try simp only [Act.put, List.setIfInBounds_toArray, List.set_cons_zero, List.set_cons_succ])
    (refine wpAnyH_take (i := 14) (oi := ?oi14) (v := ?vv14) ?hi14 (by kernel_rfl) (by kernel_rfl) (by kernel_rfl) ?hQ14 ?hy14 (by assumption) ?rest14; (case hi14 => ((simp only [List.getElem?_toArray, List.getElem?_cons_succ, List.getElem?_cons_zero]); rfl)); (case hQ14 => exact (fun _ _ _ h => h)); (case hy14 => (refine Or.inl ⟨by rfl, ?_⟩; intro w hSw; (try dsimp only at hSw); go_simp; try (with_reducible rfl))); (try simp only [Act.put, List.setIfInBounds_toArray, List.set_cons_zero, List.set_cons_succ]))
    (refine wpAnyH_take (i := 15) (oi := ?oi15) (v := ?vv15) ?hi15 (by kernel_rfl) (by kernel_rfl) (by kernel_rfl) ?hQ15 ?hy15 (by assumption) ?rest15; (case hi15 => ((simp only [List.getElem?_toArray, List.getElem?_cons_succ, List.getElem?_cons_zero]); rfl)); (case hQ15 => exact (fun _ _ _ h => h)); (case hy15 => (refine Or.inl ⟨by rfl, ?_⟩; intro w hSw; (try dsimp only at hSw); go_simp; try (with_reducible rfl))); (try simp only [Act.put, List.setIfInBounds_toArray, List.set_cons_zero, List.set_cons_succ]))
    (refine wpAnyH_take (i := 16) (oi := ?oi16) (v := ?vv16) ?hi16 (by kernel_rfl) (by kernel_rfl) (by kernel_rfl) ?hQ16 ?hy16 (by assumption) ?rest16; (case hi16 => ((simp only [List.getElem?_toArray, List.getElem?_cons_succ, List.getElem?_cons_zero]); rfl)); (case hQ16 => exact (fun _ _ _ h => h)); (case hy16 => (refine Or.inl ⟨by rfl, ?_⟩; intro w hSw; (try dsimp only at hSw); go_simp; try (with_reducible rfl))); (try simp only [Act.put, List.setIfInBounds_toArray, List.set_cons_zero, List.set_cons_succ]))
    (refine wpAnyH_take (i := 17) (oi := ?oi17) (v := ?vv17) ?hi17 (by kernel_rfl) (by kernel_rfl) (by kernel_rfl) ?hQ17 ?hy17 (by assumption) ?rest17; (case hi17 => ((simp only [List.getElem?_toArray, List.getElem?_cons_succ, List.getElem?_cons_zero]); rfl)); (case hQ17 => exact (fun _ _ _ h => h)); (case hy17 => (refine Or.inl ⟨by rfl, ?_⟩; intro w hSw; (try dsimp only at hSw); go_simp; try (with_reducible rfl))); (try simp only [Act.put, List.setIfInBounds_toArray, List.set_cons_zero, List.set_cons_succ]))
    (refine wpAnyH_take (i := 18) (oi := ?oi18) (v := ?vv18) ?hi18 (by kernel_rfl) (by kernel_rfl) (by kernel_rfl) ?hQ18 ?hy18 (by assumption) ?rest18; (case hi18 => ((simp only [List.getElem?_toArray, List.getElem?_cons_succ, List.getElem?_cons_zero]); rfl)); (case hQ18 => exact (fun _ _ _ h => h)); (case hy18 => (refine Or.inl ⟨by rfl, ?_⟩; intro w hSw; (try dsimp only at hSw); go_simp; try (with_reducible rfl))); (try simp only [Act.put, List.setIfInBounds_toArray, List.set_cons_zero, List.set_cons_succ]))
    (refine wpAnyH_take (i := 19) (oi := ?oi19) (v := ?vv19) ?hi19 (by kernel_rfl) (by kernel_rfl) (by kernel_rfl) ?hQ19 ?hy19 (by assumption) ?rest19; (case hi19 => ((simp only [List.getElem?_toArray, List.getElem?_cons_succ, List.getElem?_cons_zero]); rfl)); (case hQ19 => exact (fun _ _ _ h => h)); (case hy19 => (refine Or.inl ⟨by rfl, ?_⟩; intro w hSw; (try dsimp only at hSw); go_simp; try (with_reducible rfl))); (try simp only [Act.put, List.setIfInBounds_toArray, List.set_cons_zero, List.set_cons_succ]))
    (refine wpAnyH_take (i := 20) (oi := ?oi20) (v := ?vv20) ?hi20 (by kernel_rfl) (by kernel_rfl) (by kernel_rfl) ?hQ20 ?hy20 (by assumption) ?rest20; (case hi20 => ((simp only [List.getElem?_toArray, List.getElem?_cons_succ, List.getElem?_cons_zero]); rfl)); (case hQ20 => exact (fun _ _ _ h => h)); (case hy20 => (refine Or.inl ⟨by rfl, ?_⟩; intro w hSw; (try dsimp only at hSw); go_simp; try (with_reducible rfl))); (try simp only [Act.put, List.setIfInBounds_toArray, List.set_cons_zero, List.set_cons_succ]))
    (refine wpAnyH_take (i := 21) (oi := ?oi21) (v := ?vv21) ?hi21 (by kernel_rfl) (by kernel_rfl) (by kernel_rfl) ?hQ21 ?hy21 (by assumption) ?rest21; (case hi21 => ((simp only [List.getElem?_toArray, List.getElem?_cons_succ, List.getElem?_cons_zero]); rfl)); (case hQ21 => exact (fun _ _ _ h => h)); (case hy21 => (refine Or.inl ⟨by rfl, ?_⟩; intro w hSw; (try dsimp only at hSw); go_simp; try (with_reducible rfl))); (try simp only [Act.put, List.setIfInBounds_toArray, List.set_cons_zero, List.set_cons_succ]))
    (refine wpAnyH_take (i := 22) (oi := ?oi22) (v := ?vv22) ?hi22 (by kernel_rfl) (by kernel_rfl) (by kernel_rfl) ?hQ22 ?hy22 (by assumption) ?rest22; (case hi22 => ((simp only [List.getElem?_toArray, List.getElem?_cons_succ, List.getElem?_cons_zero]); rfl)); (case hQ22 => exact (fun _ _ _ h => h)); (case hy22 => (refine Or.inl ⟨by rfl, ?_⟩; intro w hSw; (try dsimp only at hSw); go_simp; try (with_reducible rfl))); (try simp only [Act.put, List.setIfInBounds_toArray, List.set_cons_zero, List.set_cons_succ]))
    (refine wpAnyH_take (i := 23) (oi := ?oi23) (v := ?vv23) ?hi23 (by kernel_rfl) (by kernel_rfl) (by kernel_rfl) ?hQ23 ?hy23 (by assumption) ?rest23; (case hi23 => ((simp only [List.getElem?_toArray, List.getElem?_cons_succ, List.getElem?_cons_zero]); rfl)); (case hQ23 => exact (fun _ _ _ h => h)); (case hy23 => (refine Or.inl ⟨by rfl, ?_⟩; intro w hSw; (try dsimp only at hSw); go_simp; try (with_reducible rfl))); (try simp only [Act.put, List.setIfInBounds_toArray, List.set_cons_zero, List.set_cons_succ]))
    (refine wpAnyH_ready (rs := [24]) (by kernel_rfl) (by simp) ?_; refine AllReadyH.cons (o := ?oc24) ?ho24 (fun K hK => ?_) AllReadyH.nil; (case ho24 => ((simp only [List.getElem?_toArray, List.getElem?_cons_succ, List.getElem?_cons_zero]); rfl)); go_simp)
    go_at_call 31
    refine (hrb.out _ hbp8).mono ?_
    rintro e wb ⟨Ab, Lb, cb, rfl, hlb, hob, hbb⟩
    have hbb8 := hbp8.trans (hbb.mono hbp8.size)
    have hcvb := hcvt.out wb hbb8
    have hcv2 := run_str wb Ab T Lb cb hlb hob.rd
    clear hHeld hcvp hob hlb
    go_wp2_with fail
    refine hK.out _ _ hcvb (fun hHeld => ?_)
    clear hK K
    (try simp only [Act.put, List.setIfInBounds_toArray, List.set_cons_zero, List.set_cons_succ])
    (refine wpAnyH_ready (rs := [25]) (by kernel_rfl) (by simp) ?_; refine AllReadyH.cons (o := ?oc25) ?ho25 (fun K hK => ?_) AllReadyH.nil; (case ho25 => ((simp only [List.getElem?_toArray, List.getElem?_cons_succ, List.getElem?_cons_zero]); rfl)); go_simp)
    refine hK.out _ _ hcvb (fun hHeld => ?_)
    clear hK K
    (try simp only [Act.put, List.setIfInBounds_toArray, List.set_cons_zero, List.set_cons_succ])
    (refine wpAnyH_take (i := 26) (oi := ?oi26) (v := ?vv26) ?hi26 (by kernel_rfl) (by kernel_rfl) (by kernel_rfl) ?hQ26 ?hy26 (by assumption) ?rest26; (case hi26 => ((simp only [List.getElem?_toArray, List.getElem?_cons_succ, List.getElem?_cons_zero]); rfl)); (case hQ26 => exact (fun _ _ _ h => h)); (case hy26 => (refine Or.inl ⟨by rfl, ?_⟩; intro w hSw; (try dsimp only at hSw); go_simp; try (with_reducible rfl))); (try simp only [Act.put, List.setIfInBounds_toArray, List.set_cons_zero, List.set_cons_succ]))
    (refine wpAnyH_take (i := 27) (oi := ?oi27) (v := ?vv27) ?hi27 (by kernel_rfl) (by kernel_rfl) (by kernel_rfl) ?hQ27 ?hy27 (by assumption) ?rest27; (case hi27 => ((simp only [List.getElem?_toArray, List.getElem?_cons_succ, List.getElem?_cons_zero]); rfl)); (case hQ27 => exact (fun _ _ _ h => h)); (case hy27 => (refine Or.inl ⟨by rfl, ?_⟩; intro w hSw; (try dsimp only at hSw); go_simp; try (with_reducible rfl))); (try simp only [Act.put, List.setIfInBounds_toArray, List.set_cons_zero, List.set_cons_succ]))
    (refine wpAnyH_take (i := 28) (oi := ?oi28) (v := ?vv28) ?hi28 (by kernel_rfl) (by kernel_rfl) (by kernel_rfl) ?hQ28 ?hy28 (by assumption) ?rest28; (case hi28 => ((simp only [List.getElem?_toArray, List.getElem?_cons_succ, List.getElem?_cons_zero]); rfl)); (case hQ28 => exact (fun _ _ _ h => h)); (case hy28 => (refine Or.inl ⟨by rfl, ?_⟩; intro w hSw; (try dsimp only at hSw); go_simp; try (with_reducible rfl))); (try simp only [Act.put, List.setIfInBounds_toArray, List.set_cons_zero, List.set_cons_succ]))
    refine wpAnyH_done (by kernel_rfl) ?_ _
    have hb09 := Hb08.out.trans (hbb8.mono Hb08.out.size)
    go_wp2_with fail
    go_ret
    exact ⟨rfl, hb09⟩
  · exact absurd hat.out.ok h
end Go.Proofs.Ytjjmnjgkodiibaa
