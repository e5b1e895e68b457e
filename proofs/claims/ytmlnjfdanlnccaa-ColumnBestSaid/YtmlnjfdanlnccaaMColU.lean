/- Walks: the encoding with the fewest bytes: the program's and the reference's. -/
import Derived.Test.YtmlnjfdanlnccaaMColT
namespace Go.Proofs.Ytmlnjfdanlnccaa
open Go.RowKit

attribute [local go_sem ↓] Go.wp_at_zero Go.wp_at_succ

theorem cput_err (kind : Int) (l : RowM) {h : Int} (hh : 1 ≤ h ∧ h ≤ 5) : (cputM kind h l).2.2 = (cputM kind 1 l).2.2 := by
  have e1 : howOk h = true := by unfold howOk; exact decide_eq_true hh
  unfold cputM
  rw [e1, show howOk 1 = true from rfl]
  split
  · rfl
  · split <;> rfl
theorem cput_used (kind : Int) (l : RowM) (h : Int) : 0 ≤ (cputM kind h l).2.1 ∧ (cputM kind h l).2.1 ≤ 5 := by
  unfold cputM
  split
  · dsimp only; omega
  · split
    · unfold colB
      rw [lay_parts]
      have := layP_used (kind := kind) (how := h) (N := numsK kind l) (X := textsK kind l)
      dsimp only
      omega
    · dsimp only; omega
theorem best_next (kind : Int) (l : RowM) (k : Nat) (b : Int) (n : Nat) (h : Int) (hh : (5 : Int) - k = h) : bestF kind l (k + 1) b n = if (cputM kind h l).2.1 = h ∧ (b = 0 ∨ (cputM kind h l).1.length < n) then bestF kind l k h (cputM kind h l).1.length else bestF kind l k b n := by
  subst hh
  rw [bestF]
theorem CPutOK.uni {kind how : Int} {l : RowM} {w w' : World} {e : Ending} (h : CPutOK kind how l w e w') {b : List UInt8} {u E : Int} {n : Nat} (hb : (cputM kind how l).1 = b) (hu : (cputM kind how l).2.1 = u) (hE : (cputM kind how l).2.2 = E) (hn : b.length = n) :
    (∃ A c, e = .returned (.tuple #[.slice A n c, .int .u8 u, .int .i64 E]) ∧ Own w' w.heap.size 5 1 A n c (Bs b)) ∧ Below w.heap.size w w' := by
  unfold CPutOK at h
  rw [hb, hu, hE, hn] at h
  exact h
theorem cput_len (kind : Int) (l : RowM) (h : Int) (hl : l.length ≤ 4096) (hok : ∀ v ∈ l, v.ok) : (cputM kind h l).1.length ≤ 10000000 := by
  unfold cputM
  split
  · simp
  · split
    · rename_i hall
      unfold colB
      rw [lay_parts]
      have h1 := runsB_le (there_in l) (by rw [thereM_len]; exact hl)
      have h2 := numB_le9 (n := (runsB (thereM l)).length) (by omega)
      have h3 : (layP kind h (numsK kind l) (textsK kind l)).1.length ≤ 5000000 := layP_le (nums_in hok) (by
        unfold numsK numsM
        split
        · simp
        · rw [List.length_map]; exact Nat.le_trans (someM_le l) hl) (texts_in hall) (by
        unfold textsK textsM
        split
        · rw [List.length_map]; exact Nat.le_trans (someM_le l) hl
        · simp)
      dsimp only
      rw [List.length_cons, List.length_append, List.length_append]
      omega
    · simp

set_option maxHeartbeats 16000000 in
set_option maxRecDepth 100000 in
theorem best_any (kind : Int) (l : RowM) (n c : Nat) (A : Option Addr) (w : World) (hl : l.length = n) (hr : Rd w A (rcells l)) (hn : n ≤ 4096) (hok : ∀ v ∈ l, v.ok) (hkb : 0 ≤ kind ∧ kind ≤ 255) :
    Calls Try.prog 14 #[.int .u8 kind, .slice A n c] w fun e w' => e = .returned (.tuple #[.int .u8 (bestM kind l).1, .int .i64 (bestM kind l).2]) ∧ Below w.heap.size w w' := by
  have hput := Lib.hid (fun (h : Int) (hh : 0 ≤ h ∧ h ≤ 255) w' (hb : Below w.heap.size w w') => cputc_any kind h l n c A w' hl (hr.below hb) hn hok hkb hh)
  have hlen := Lib.hid (fun h => cput_len kind l h (by omega) hok)
  have herr := Lib.hid (fun (h : Int) (hh : 1 ≤ h ∧ h ≤ 5) => cput_err kind l hh)
  obtain ⟨E, hE⟩ : ∃ E, (cputM kind 1 l).2.2 = E := ⟨_, rfl⟩
  rw [hE] at herr
  clear hl hr hok hkb
  by_cases h0 : E = 0
  · subst h0
    obtain ⟨R, hR⟩ : ∃ R, (bestF kind l 5 0 0).1 = R := ⟨_, rfl⟩
    have e : bestM kind l = (R, 0) := by unfold bestM; rw [if_pos hE, hR]
    rw [e]
    have HR := Lib.hid hR
    clear e hE hR
    go_enter Try.func14, Try.ntmps14
    go_wp2_with fail
    go_loopw [6, 7, 8] (fun vb vl vh wr => ∃ (b : Int) (m k h : Nat), vb = .int .u8 b ∧ vl = .int .i64 (m : Int) ∧ vh = .int .u8 (h : Int) ∧ h + k = 6 ∧ 1 ≤ h ∧ m ≤ 10000000 ∧ 0 ≤ b ∧ b ≤ 5 ∧ Hid ((bestF kind l k b m).1 = R) ∧ Hid (Below w.heap.size w wr)) (fun _ _ vh _ => 6 - (intOf vh).toNat)
    case atStart => exact ⟨0, 0, 5, 1, rfl, rfl, rfl, by omega, by omega, by omega, by omega, by omega, HR, Below.refl _ _⟩
    case round =>
      obtain ⟨b, m, k, h, rfl, rfl, rfl, hhk, h1, hm, hb0, hb5, HF, Hb⟩ := hrel
      by_cases hk : 0 < k
      · obtain ⟨k', rfl⟩ : ∃ k', k = k' + 1 := ⟨k - 1, by omega⟩
        have hh5 : (h : Int) ≤ 5 := by omega
        have Hnx := Lib.hid (best_next kind l k' b m (h : Int) (by omega))
        have hp := hput.out (h : Int) (by omega) wr Hb.out
        have hE := herr.out (h : Int) (by omega)
        have hus := cput_used kind l (h : Int)
        have hLn := hlen.out (h : Int)
        obtain ⟨B, hB⟩ : ∃ B, (cputM kind (h : Int) l).1 = B := ⟨_, rfl⟩
        obtain ⟨u, hu⟩ : ∃ u, (cputM kind (h : Int) l).2.1 = u := ⟨_, rfl⟩
        obtain ⟨L, hL⟩ : ∃ L, B.length = L := ⟨_, rfl⟩
        rw [hB, hL] at hLn
        rw [hu] at hus
        rw [hB, hu, hL] at Hnx
        have Hp := Lib.hid (hp.mono fun _ _ h => CPutOK.uni h hB hu hE hL)
        have hw8 : IntKind.u8.wrap ((h : Int) + 1) = (h : Int) + 1 := by rw [IntKind.wrap_u8]; omega
        clear hp hE hB hu hL
        by_cases huh : u = (h : Int)
        · subst huh
          by_cases hbz : b = 0
          · subst hbz
            have HF2 : Hid ((bestF kind l k' (h : Int) L).1 = R) := by
              show _ = _
              rw [← HF.out, Hnx.out, if_pos ⟨rfl, .inl rfl⟩]
            clear Hnx HF
            go_wp2_with fail
            refine Hp.out.mono ?_
            rintro e w2 ⟨⟨A2, c2, rfl, _⟩, hb2⟩
            have Hb2 := Lib.hid (Hb.out.trans (hb2.mono Hb.out.size))
            clear hb2 Hp
            go_wp2_with fail
            go_roundw
            case rel => exact ⟨(h : Int), L, k', h + 1, rfl, rfl, by go_num, by omega, by omega, hLn, by omega, by omega, HF2, Hb2⟩
            case measure => simp only [intOf]; omega
          · have ebz : (b == 0) = false := by rw [beq_eq_false_iff_ne]; exact hbz
            by_cases hlt : L < m
            · have HF2 : Hid ((bestF kind l k' (h : Int) L).1 = R) := by
                show _ = _
                rw [← HF.out, Hnx.out, if_pos ⟨rfl, .inr hlt⟩]
              have hltI : (L : Int) < (m : Int) := by omega
              clear Hnx HF hbz
              go_wp2_with fail
              refine Hp.out.mono ?_
              rintro e w2 ⟨⟨A2, c2, rfl, _⟩, hb2⟩
              have Hb2 := Lib.hid (Hb.out.trans (hb2.mono Hb.out.size))
              clear hb2 Hp
              go_wp2_with fail
              go_roundw
              case rel => exact ⟨(h : Int), L, k', h + 1, rfl, rfl, by go_num, by omega, by omega, hLn, by omega, by omega, HF2, Hb2⟩
              case measure => simp only [intOf]; omega
            · have HF2 : Hid ((bestF kind l k' b m).1 = R) := by
                show _ = _
                rw [← HF.out, Hnx.out, if_neg (by rintro ⟨_, h | h⟩; exact hbz h; exact hlt h)]
              have hltI : ¬ (L : Int) < (m : Int) := by omega
              have hltd : decide (L < m) = false := decide_eq_false hlt
              clear Hnx HF hbz
              go_wp2_with fail
              refine Hp.out.mono ?_
              rintro e w2 ⟨⟨A2, c2, rfl, _⟩, hb2⟩
              have Hb2 := Lib.hid (Hb.out.trans (hb2.mono Hb.out.size))
              clear hb2 Hp
              go_wp2_with fail
              go_roundw
              case rel => exact ⟨b, m, k', h + 1, rfl, rfl, by go_num, by omega, by omega, hm, hb0, hb5, HF2, Hb2⟩
              case measure => simp only [intOf]; omega
        · have euh : (u == (h : Int)) = false := by rw [beq_eq_false_iff_ne]; exact huh
          have HF2 : Hid ((bestF kind l k' b m).1 = R) := by
            show _ = _
            rw [← HF.out, Hnx.out, if_neg (fun h => huh h.1)]
          clear Hnx HF huh
          go_wp2_with fail
          refine Hp.out.mono ?_
          rintro e w2 ⟨⟨A2, c2, rfl, _⟩, hb2⟩
          have Hb2 := Lib.hid (Hb.out.trans (hb2.mono Hb.out.size))
          clear hb2 Hp
          go_wp2_with fail
          go_roundw
          case rel => exact ⟨b, m, k', h + 1, rfl, rfl, by go_num, by omega, by omega, hm, hb0, hb5, HF2, Hb2⟩
          case measure => simp only [intOf]; omega
      · obtain rfl : k = 0 := by omega
        obtain rfl : h = 6 := by omega
        have hbR : Hid (b = R) := HF.out
        clear HF
        go_wp2_with fail
        go_ret2
        exact ⟨by rw [← hbR.out]; rfl, Hb.out⟩
  · have e : bestM kind l = (0, E) := by unfold bestM; rw [if_neg (by rw [hE]; exact h0), hE]
    rw [e]
    have HE := Lib.hid hE
    have hne : (E != 0) = true := by rw [bne_iff_ne]; exact h0
    clear e hE h0
    go_enter Try.func14, Try.ntmps14
    go_wp2_with fail
    go_loopw [6, 7, 8] (fun vb vl vh wr => vb = .int .u8 0 ∧ vl = .int .i64 0 ∧ vh = .int .u8 1 ∧ wr = w) (fun _ _ _ _ => 0)
    case atStart => exact ⟨rfl, rfl, rfl, rfl⟩
    case round =>
      obtain ⟨rfl, rfl, rfl, rfl⟩ := hrel
      have Hp := Lib.hid ((hput.out 1 (by omega) wr (Below.refl _ _)).mono fun _ _ h => CPutOK.uni h rfl rfl HE.out rfl)
      generalize (cputM kind 1 l).1.length = L at *
      generalize (cputM kind 1 l).2.1 = u at *
      go_wp2_with fail
      refine Hp.out.mono ?_
      rintro e w2 ⟨⟨A2, c2, rfl, _⟩, hb2⟩
      have Hb2 := Lib.hid hb2
      clear hb2 Hp
      go_wp2_with fail
      go_ret2
      exact ⟨rfl, Hb2.out⟩

set_option maxHeartbeats 16000000 in
set_option maxRecDepth 100000 in
theorem rbest_any (kind : Int) (l : RowM) (n c : Nat) (A : Option Addr) (w : World) (hl : l.length = n) (hr : Rd w A (rcells l)) (hn : n ≤ 4096) (hok : ∀ v ∈ l, v.ok) (hkb : 0 ≤ kind ∧ kind ≤ 255) :
    Calls Try.prog 15 #[.int .u8 kind, .slice A n c] w fun e w' => e = .returned (.tuple #[.int .u8 (bestM kind l).1, .int .i64 (bestM kind l).2]) ∧ Below w.heap.size w w' := by
  have hput := Lib.hid (fun (h : Int) (hh : 0 ≤ h ∧ h ≤ 255) w' (hb : Below w.heap.size w w') => rputc_any kind h l n c A w' hl (hr.below hb) hn hok hkb hh)
  have hlen := Lib.hid (fun h => cput_len kind l h (by omega) hok)
  have herr := Lib.hid (fun (h : Int) (hh : 1 ≤ h ∧ h ≤ 5) => cput_err kind l hh)
  obtain ⟨E, hE⟩ : ∃ E, (cputM kind 1 l).2.2 = E := ⟨_, rfl⟩
  rw [hE] at herr
  clear hl hr hok hkb
  by_cases h0 : E = 0
  · subst h0
    obtain ⟨R, hR⟩ : ∃ R, (bestF kind l 5 0 0).1 = R := ⟨_, rfl⟩
    have e : bestM kind l = (R, 0) := by unfold bestM; rw [if_pos hE, hR]
    rw [e]
    have HR := Lib.hid hR
    clear e hE hR
    go_enter Try.func15, Try.ntmps15
    go_wp2_with fail
    go_loopw [6, 7, 8] (fun vb vl vh wr => ∃ (b : Int) (m k h : Nat), vb = .int .u8 b ∧ vl = .int .i64 (m : Int) ∧ vh = .int .u8 (h : Int) ∧ h + k = 6 ∧ 1 ≤ h ∧ m ≤ 10000000 ∧ 0 ≤ b ∧ b ≤ 5 ∧ Hid ((bestF kind l k b m).1 = R) ∧ Hid (Below w.heap.size w wr)) (fun _ _ vh _ => 6 - (intOf vh).toNat)
    case atStart => exact ⟨0, 0, 5, 1, rfl, rfl, rfl, by omega, by omega, by omega, by omega, by omega, HR, Below.refl _ _⟩
    case round =>
      obtain ⟨b, m, k, h, rfl, rfl, rfl, hhk, h1, hm, hb0, hb5, HF, Hb⟩ := hrel
      by_cases hk : 0 < k
      · obtain ⟨k', rfl⟩ : ∃ k', k = k' + 1 := ⟨k - 1, by omega⟩
        have hh5 : (h : Int) ≤ 5 := by omega
        have Hnx := Lib.hid (best_next kind l k' b m (h : Int) (by omega))
        have hp := hput.out (h : Int) (by omega) wr Hb.out
        have hE := herr.out (h : Int) (by omega)
        have hus := cput_used kind l (h : Int)
        have hLn := hlen.out (h : Int)
        obtain ⟨B, hB⟩ : ∃ B, (cputM kind (h : Int) l).1 = B := ⟨_, rfl⟩
        obtain ⟨u, hu⟩ : ∃ u, (cputM kind (h : Int) l).2.1 = u := ⟨_, rfl⟩
        obtain ⟨L, hL⟩ : ∃ L, B.length = L := ⟨_, rfl⟩
        rw [hB, hL] at hLn
        rw [hu] at hus
        rw [hB, hu, hL] at Hnx
        have Hp := Lib.hid (hp.mono fun _ _ h => CPutOK.uni h hB hu hE hL)
        have hw8 : IntKind.u8.wrap ((h : Int) + 1) = (h : Int) + 1 := by rw [IntKind.wrap_u8]; omega
        clear hp hE hB hu hL
        by_cases huh : u = (h : Int)
        · subst huh
          by_cases hbz : b = 0
          · subst hbz
            have HF2 : Hid ((bestF kind l k' (h : Int) L).1 = R) := by
              show _ = _
              rw [← HF.out, Hnx.out, if_pos ⟨rfl, .inl rfl⟩]
            clear Hnx HF
            go_wp2_with fail
            refine Hp.out.mono ?_
            rintro e w2 ⟨⟨A2, c2, rfl, _⟩, hb2⟩
            have Hb2 := Lib.hid (Hb.out.trans (hb2.mono Hb.out.size))
            clear hb2 Hp
            go_wp2_with fail
            go_roundw
            case rel => exact ⟨(h : Int), L, k', h + 1, rfl, rfl, by go_num, by omega, by omega, hLn, by omega, by omega, HF2, Hb2⟩
            case measure => simp only [intOf]; omega
          · have ebz : (b == 0) = false := by rw [beq_eq_false_iff_ne]; exact hbz
            by_cases hlt : L < m
            · have HF2 : Hid ((bestF kind l k' (h : Int) L).1 = R) := by
                show _ = _
                rw [← HF.out, Hnx.out, if_pos ⟨rfl, .inr hlt⟩]
              have hltI : (L : Int) < (m : Int) := by omega
              clear Hnx HF hbz
              go_wp2_with fail
              refine Hp.out.mono ?_
              rintro e w2 ⟨⟨A2, c2, rfl, _⟩, hb2⟩
              have Hb2 := Lib.hid (Hb.out.trans (hb2.mono Hb.out.size))
              clear hb2 Hp
              go_wp2_with fail
              go_roundw
              case rel => exact ⟨(h : Int), L, k', h + 1, rfl, rfl, by go_num, by omega, by omega, hLn, by omega, by omega, HF2, Hb2⟩
              case measure => simp only [intOf]; omega
            · have HF2 : Hid ((bestF kind l k' b m).1 = R) := by
                show _ = _
                rw [← HF.out, Hnx.out, if_neg (by rintro ⟨_, h | h⟩; exact hbz h; exact hlt h)]
              have hltI : ¬ (L : Int) < (m : Int) := by omega
              have hltd : decide (L < m) = false := decide_eq_false hlt
              clear Hnx HF hbz
              go_wp2_with fail
              refine Hp.out.mono ?_
              rintro e w2 ⟨⟨A2, c2, rfl, _⟩, hb2⟩
              have Hb2 := Lib.hid (Hb.out.trans (hb2.mono Hb.out.size))
              clear hb2 Hp
              go_wp2_with fail
              go_roundw
              case rel => exact ⟨b, m, k', h + 1, rfl, rfl, by go_num, by omega, by omega, hm, hb0, hb5, HF2, Hb2⟩
              case measure => simp only [intOf]; omega
        · have euh : (u == (h : Int)) = false := by rw [beq_eq_false_iff_ne]; exact huh
          have HF2 : Hid ((bestF kind l k' b m).1 = R) := by
            show _ = _
            rw [← HF.out, Hnx.out, if_neg (fun h => huh h.1)]
          clear Hnx HF huh
          go_wp2_with fail
          refine Hp.out.mono ?_
          rintro e w2 ⟨⟨A2, c2, rfl, _⟩, hb2⟩
          have Hb2 := Lib.hid (Hb.out.trans (hb2.mono Hb.out.size))
          clear hb2 Hp
          go_wp2_with fail
          go_roundw
          case rel => exact ⟨b, m, k', h + 1, rfl, rfl, by go_num, by omega, by omega, hm, hb0, hb5, HF2, Hb2⟩
          case measure => simp only [intOf]; omega
      · obtain rfl : k = 0 := by omega
        obtain rfl : h = 6 := by omega
        have hbR : Hid (b = R) := HF.out
        clear HF
        go_wp2_with fail
        go_ret2
        exact ⟨by rw [← hbR.out]; rfl, Hb.out⟩
  · have e : bestM kind l = (0, E) := by unfold bestM; rw [if_neg (by rw [hE]; exact h0), hE]
    rw [e]
    have HE := Lib.hid hE
    have hne : (E != 0) = true := by rw [bne_iff_ne]; exact h0
    clear e hE h0
    go_enter Try.func15, Try.ntmps15
    go_wp2_with fail
    go_loopw [6, 7, 8] (fun vb vl vh wr => vb = .int .u8 0 ∧ vl = .int .i64 0 ∧ vh = .int .u8 1 ∧ wr = w) (fun _ _ _ _ => 0)
    case atStart => exact ⟨rfl, rfl, rfl, rfl⟩
    case round =>
      obtain ⟨rfl, rfl, rfl, rfl⟩ := hrel
      have Hp := Lib.hid ((hput.out 1 (by omega) wr (Below.refl _ _)).mono fun _ _ h => CPutOK.uni h rfl rfl HE.out rfl)
      generalize (cputM kind 1 l).1.length = L at *
      generalize (cputM kind 1 l).2.1 = u at *
      go_wp2_with fail
      refine Hp.out.mono ?_
      rintro e w2 ⟨⟨A2, c2, rfl, _⟩, hb2⟩
      have Hb2 := Lib.hid hb2
      clear hb2 Hp
      go_wp2_with fail
      go_ret2
      exact ⟨rfl, Hb2.out⟩

end Go.Proofs.Ytmlnjfdanlnccaa
