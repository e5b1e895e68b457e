/- Walks: a column's values as bytes: the reference's. -/
import Derived.Test.YtmlnjfdanlnccaaMColR
import Derived.Test.YtmlnjfdanlnccaaMDwG
namespace Go.Proofs.Ytmlnjfdanlnccaa
open Go.RowKit

attribute [local go_sem ↓] Go.wp_at_zero Go.wp_at_succ

/-- By an encoding; none: it can't be. -/
def byP (kind how : Int) (N : List Int) (X : List (List UInt8)) : Option (List UInt8) :=
  if how = 1 then some (plainR kind N X)
  else if ((decide (how = 3)) == (decide (kind = 3))) = false then none
  else if how = 2 then some (runsB N)
  else if how = 4 then some (frameB N)
  else if how = 5 then deltaB N
  else wordsB X
theorem plainR_lay (kind : Int) (l : RowM) : plainR kind (numsM l) (textsM l) = flatN (numsK kind l) ++ flatX (textsK kind l) := by
  unfold plainR numsK textsK
  by_cases h : kind = 3
  · simp only [if_pos h]
    rfl
  · simp only [if_neg h]
    rw [show flatX [] = [] from rfl, List.append_nil]
theorem by_lay (kind how : Int) (l : RowM) (hh : howOk how = true) :
    layP kind how (numsK kind l) (textsK kind l) = match byP kind how (numsM l) (textsM l) with | some b => (b, how) | none => (plainR kind (numsM l) (textsM l), 1) := by
  have hh2 := of_decide_eq_true hh
  rw [plainR_lay]
  unfold layP byP
  rw [plainR_lay]
  by_cases h1 : how = 1
  · subst h1
    rw [if_pos rfl]
    split
    · rfl
    · rfl
  · rw [if_neg h1]
    by_cases hm : ((decide (how = 3)) == (decide (kind = 3))) = false
    · rw [if_pos hm, if_pos hm]
    · rw [if_neg hm, if_neg hm]
      have he : (how = 3 ↔ kind = 3) := by
        simp only [Bool.not_eq_false, beq_iff_eq, decide_eq_decide] at hm
        exact hm
      have hc : how = 2 ∨ how = 4 ∨ how = 3 ∨ how = 5 := by omega
      rcases hc with rfl | rfl | rfl | rfl
      · have hk : kind ≠ 3 := fun e => by have := he.2 e; omega
        have e : numsK kind l = numsM l := by unfold numsK; rw [if_neg hk]
        rw [e]
        rfl
      · have hk : kind ≠ 3 := fun e => by have := he.2 e; omega
        have e : numsK kind l = numsM l := by unfold numsK; rw [if_neg hk]
        rw [e]
        rfl
      · have hk : kind = 3 := he.1 rfl
        have e : textsK kind l = textsM l := by unfold textsK; rw [if_pos hk]
        rw [e]
        rfl
      · have hk : kind ≠ 3 := fun e => by have := he.2 e; omega
        have e : numsK kind l = numsM l := by unfold numsK; rw [if_neg hk]
        rw [e]
        rfl

/-- How by ends. -/
def ByOK (x : Option (List UInt8)) (w : World) (e : Ending) (w' : World) : Prop :=
  ((x = none ∧ e = .returned (.tuple #[.slice none 0 0, .bool false])) ∨ ∃ b A c, x = some b ∧ e = .returned (.tuple #[.slice A b.length c, .bool true]) ∧ Own w' w.heap.size 5 1 A b.length c (Bs b)) ∧ Below w.heap.size w w'
theorem ByOK.of {x : Option (List UInt8)} {b : List UInt8} {w w' : World} {A : Option Addr} {n c : Nat} (h : x = some b) (ho : Own w' w.heap.size 5 1 A n c (Bs b)) (hn : b.length = n) (hb : Below w.heap.size w w') : ByOK x w (.returned (.tuple #[.slice A n c, .bool true])) w' := by
  subst hn
  exact ⟨.inr ⟨b, A, c, h, rfl, ho⟩, hb⟩

set_option maxHeartbeats 16000000 in
set_option maxRecDepth 100000 in
theorem by_1 (kind : Int) (N : List Int) (X : List (List UInt8)) (nn nc xc : Nat) (NA XA : Option Addr) (w : World) (hN : Rd w NA (icl N)) (hX : Rd w XA (wcl X)) (hnn : N.length = nn) (hxn : X.length = nn) (hn4 : nn ≤ 4096) (hNi : ∀ x ∈ N, -9223372036854775808 ≤ x ∧ x ≤ 9223372036854775807) (hXi : ∀ s ∈ X, s.length ≤ 1024) :
    Calls Try.prog 32 #[.int .u8 kind, .slice NA nn nc, .slice XA nn xc, .int .u8 1] w fun e w' => ByOK (some (plainR kind N X)) w e w' := by
  have hp := Lib.hid (rplain_any kind N X nn nc xc NA XA w hN hX hnn hxn hn4 hNi hXi)
  obtain ⟨P, hP⟩ : ∃ P, plainR kind N X = P := ⟨_, rfl⟩
  rw [hP] at hp ⊢
  clear hN hX hnn hxn hNi hXi hP
  go_enter Try.func32, Try.ntmps32
  go_wp2_with fail
  refine hp.out.mono ?_
  rintro e w1 ⟨⟨A, c, rfl, ho⟩, hb⟩
  have Ho := Lib.hid ho
  have Hb := Lib.hid hb
  obtain ⟨n, hn⟩ : ∃ n, P.length = n := ⟨_, rfl⟩
  rw [hn] at Ho ⊢
  have Hn := Lib.hid hn
  clear ho hb hn hp
  go_wp2_with fail
  go_ret2
  exact ByOK.of rfl Ho.out Hn.out Hb.out
set_option maxHeartbeats 16000000 in
set_option maxRecDepth 100000 in
theorem by_m1 (kind : Int) (hk : kind ≠ 3) (N : List Int) (X : List (List UInt8)) (nn nc xc : Nat) (NA XA : Option Addr) (w : World) (hN : Rd w NA (icl N)) (hX : Rd w XA (wcl X)) (hnn : N.length = nn) (hxn : X.length = nn) (hn4 : nn ≤ 4096) (hNi : ∀ x ∈ N, -9223372036854775808 ≤ x ∧ x ≤ 9223372036854775807) (hXi : ∀ s ∈ X, s.length ≤ 1024) :
    Calls Try.prog 32 #[.int .u8 kind, .slice NA nn nc, .slice XA nn xc, .int .u8 3] w fun e w' => ByOK (none) w e w' := by
  have e3 : (kind == 3) = false := by rw [beq_eq_false_iff_ne]; exact hk
  clear hN hX hnn hxn hNi hXi hk
  go_enter Try.func32, Try.ntmps32
  go_wp2_with fail
  go_ret2
  exact ⟨.inl ⟨rfl, rfl⟩, Below.refl _ _⟩
set_option maxHeartbeats 16000000 in
set_option maxRecDepth 100000 in
theorem by_m2 (how : Int) (h1 : how ≠ 1) (h3 : how ≠ 3) (N : List Int) (X : List (List UInt8)) (nn nc xc : Nat) (NA XA : Option Addr) (w : World) (hN : Rd w NA (icl N)) (hX : Rd w XA (wcl X)) (hnn : N.length = nn) (hxn : X.length = nn) (hn4 : nn ≤ 4096) (hNi : ∀ x ∈ N, -9223372036854775808 ≤ x ∧ x ≤ 9223372036854775807) (hXi : ∀ s ∈ X, s.length ≤ 1024) :
    Calls Try.prog 32 #[.int .u8 3, .slice NA nn nc, .slice XA nn xc, .int .u8 how] w fun e w' => ByOK (none) w e w' := by
  have e1 : (how == 1) = false := by rw [beq_eq_false_iff_ne]; exact h1
  have e3 : (how == 3) = false := by rw [beq_eq_false_iff_ne]; exact h3
  clear hN hX hnn hxn hNi hXi h1 h3
  go_enter Try.func32, Try.ntmps32
  go_wp2_with fail
  go_ret2
  exact ⟨.inl ⟨rfl, rfl⟩, Below.refl _ _⟩
set_option maxHeartbeats 16000000 in
set_option maxRecDepth 100000 in
theorem by_2 (kind : Int) (hk : kind ≠ 3) (N : List Int) (X : List (List UInt8)) (nn nc xc : Nat) (NA XA : Option Addr) (w : World) (hN : Rd w NA (icl N)) (hX : Rd w XA (wcl X)) (hnn : N.length = nn) (hxn : X.length = nn) (hn4 : nn ≤ 4096) (hNi : ∀ x ∈ N, -9223372036854775808 ≤ x ∧ x ≤ 9223372036854775807) (hXi : ∀ s ∈ X, s.length ≤ 1024) :
    Calls Try.prog 32 #[.int .u8 kind, .slice NA nn nc, .slice XA nn xc, .int .u8 2] w fun e w' => ByOK (some (runsB N)) w e w' := by
  have hc := Lib.hid (rrunsput_any N nn nc NA w hnn hN hn4 hNi)
  obtain ⟨P, hP⟩ : ∃ P, runsB N = P := ⟨_, rfl⟩
  rw [hP] at hc ⊢
  have e3 : (kind == 3) = false := by rw [beq_eq_false_iff_ne]; exact hk
  clear hN hX hnn hxn hNi hXi hP hk
  go_enter Try.func32, Try.ntmps32
  go_wp2_with fail
  refine hc.out.mono ?_
  rintro e w1 h1
  obtain ⟨n, hn⟩ : ∃ n, P.length = n := ⟨_, rfl⟩
  obtain ⟨⟨A, c, rfl, ho⟩, hb⟩ := h1.len hn
  have Ho := Lib.hid ho
  have Hb := Lib.hid hb
  have Hn := Lib.hid hn
  clear ho hb hn hc h1
  go_wp2_with fail
  go_ret2
  exact ByOK.of rfl Ho.out Hn.out Hb.out
set_option maxHeartbeats 16000000 in
set_option maxRecDepth 100000 in
theorem by_4 (kind : Int) (hk : kind ≠ 3) (N : List Int) (X : List (List UInt8)) (nn nc xc : Nat) (NA XA : Option Addr) (w : World) (hN : Rd w NA (icl N)) (hX : Rd w XA (wcl X)) (hnn : N.length = nn) (hxn : X.length = nn) (hn4 : nn ≤ 4096) (hNi : ∀ x ∈ N, -9223372036854775808 ≤ x ∧ x ≤ 9223372036854775807) (hXi : ∀ s ∈ X, s.length ≤ 1024) :
    Calls Try.prog 32 #[.int .u8 kind, .slice NA nn nc, .slice XA nn xc, .int .u8 4] w fun e w' => ByOK (some (frameB N)) w e w' := by
  have hc := Lib.hid (rframe_any N nn nc NA w hnn hN hn4 hNi)
  obtain ⟨P, hP⟩ : ∃ P, frameB N = P := ⟨_, rfl⟩
  rw [hP] at hc ⊢
  have e3 : (kind == 3) = false := by rw [beq_eq_false_iff_ne]; exact hk
  clear hN hX hnn hxn hNi hXi hP hk
  go_enter Try.func32, Try.ntmps32
  go_wp2_with fail
  refine hc.out.mono ?_
  rintro e w1 h1
  obtain ⟨n, hn⟩ : ∃ n, P.length = n := ⟨_, rfl⟩
  obtain ⟨⟨A, c, rfl, ho⟩, hb⟩ := h1.len hn
  have Ho := Lib.hid ho
  have Hb := Lib.hid hb
  have Hn := Lib.hid hn
  clear ho hb hn hc h1
  go_wp2_with fail
  go_ret2
  exact ByOK.of rfl Ho.out Hn.out Hb.out
set_option maxHeartbeats 16000000 in
set_option maxRecDepth 100000 in
theorem by_5 (kind : Int) (hk : kind ≠ 3) (N : List Int) (X : List (List UInt8)) (nn nc xc : Nat) (NA XA : Option Addr) (w : World) (hN : Rd w NA (icl N)) (hX : Rd w XA (wcl X)) (hnn : N.length = nn) (hxn : X.length = nn) (hn4 : nn ≤ 4096) (hNi : ∀ x ∈ N, -9223372036854775808 ≤ x ∧ x ≤ 9223372036854775807) (hXi : ∀ s ∈ X, s.length ≤ 1024) :
    Calls Try.prog 32 #[.int .u8 kind, .slice NA nn nc, .slice XA nn xc, .int .u8 5] w fun e w' => ByOK (deltaB N) w e w' := by
  have hc := Lib.hid (rdeltaput_any N nn nc NA w hnn hN hn4 hNi)
  obtain ⟨R, hR⟩ : ∃ R, deltaB N = R := ⟨_, rfl⟩
  rw [hR]
  have HR := Lib.hid hR
  have e3 : (kind == 3) = false := by rw [beq_eq_false_iff_ne]; exact hk
  clear hN hX hnn hxn hNi hXi hk hR
  go_enter Try.func32, Try.ntmps32
  go_wp2_with fail
  refine hc.out.mono ?_
  rintro e w1 h1
  rcases h1 with ⟨h2, rfl, hb⟩ | ⟨b, h2, h3⟩
  · have hf : Hid (R = none) := by show _ = _; rw [← HR.out, h2]
    have Hb := Lib.hid hb
    clear h2 hb hc
    go_wp2_with fail
    go_ret2
    exact ⟨.inl ⟨hf.out, rfl⟩, Hb.out⟩
  · have hf : Hid (R = some b) := by show _ = _; rw [← HR.out, h2]
    obtain ⟨n, hn⟩ : ∃ n, b.length = n := ⟨_, rfl⟩
    obtain ⟨⟨A, c, rfl, ho⟩, hb⟩ := h3.len hn
    have Ho := Lib.hid ho
    have Hb := Lib.hid hb
    have Hn := Lib.hid hn
    clear ho hb hn hc h2 h3
    go_wp2_with fail
    go_ret2
    exact ByOK.of hf.out Ho.out Hn.out Hb.out
set_option maxHeartbeats 16000000 in
set_option maxRecDepth 100000 in
theorem by_3 (N : List Int) (X : List (List UInt8)) (nn nc xc : Nat) (NA XA : Option Addr) (w : World) (hX : Rd w XA (wcl X)) (hxn : X.length = nn) (hn4 : nn ≤ 4096) :
    Calls Try.prog 32 #[.int .u8 3, .slice NA nn nc, .slice XA nn xc, .int .u8 3] w fun e w' => ByOK (wordsB X) w e w' := by
  have hof := Lib.hid (drof_any X nn xc XA w hxn hX hn4)
  obtain ⟨RR, hRR⟩ : ∃ RR, wordsB X = RR := ⟨_, rfl⟩
  rw [hRR]
  have HRR := Lib.hid hRR
  clear hRR
  cases ho : ofM X with
  | none =>
    have Ho := Lib.hid ho
    have Hf := Lib.hid (wordsB_none ho)
    clear ho hX hxn
    go_enter Try.func32, Try.ntmps32
    go_wp2_with fail
    refine hof.out.mono ?_
    intro e w1 h1
    obtain ⟨h1, hb1⟩ := h1
    rcases h1 with ⟨_, rfl⟩ | ⟨W, p, A, c, A2, c2, h2, _⟩
    · have Hb1 := Lib.hid hb1
      clear hb1 hof
      go_wp2_with fail
      go_ret2
      exact ⟨.inl ⟨by rw [← HRR.out, Hf.out], rfl⟩, Hb1.out⟩
    · rw [Ho.out] at h2
      cases h2
  | some Wp =>
    obtain ⟨W, p⟩ := Wp
    obtain ⟨hpl, hW, hrW, hpin⟩ := places_in ho
    obtain ⟨b, hb⟩ := putM_of ho
    have Hw := Lib.hid (wordsB_some ho hb)
    have Hb := Lib.hid hb
    have Ho := Lib.hid ho
    have Hpin := Lib.hid hpin
    rw [hxn] at hpl
    have Hpl := Lib.hid hpl
    obtain ⟨K, hK⟩ : ∃ K, W.length = K := ⟨_, rfl⟩
    rw [hK] at hW
    have HK := Lib.hid hK
    obtain ⟨B, hB⟩ : ∃ B, b.length = B := ⟨_, rfl⟩
    have HB := Lib.hid hB
    obtain ⟨Z, hZ⟩ : ∃ Z, frameB p = Z := ⟨_, rfl⟩
    have HZ := Lib.hid hZ
    obtain ⟨F, hF⟩ : ∃ F, Z.length = F := ⟨_, rfl⟩
    have HF := Lib.hid hF
    have hBF : B ≤ 300000 ∧ F ≤ 100000 := by
      refine ⟨?_, ?_⟩
      · rw [← hB]
        unfold putM at hb
        rw [if_pos hrW] at hb
        injection hb with hb
        rw [← hb, List.length_append]
        have h1 := numB_le9 (n := W.length) (by omega)
        have h2 := putF_len W [] (by simp) (fun x hx => (rightW_le hrW).1 x hx)
        have h3 : W.length * 1042 ≤ 200 * 1042 := Nat.mul_le_mul_right _ (by omega)
        omega
      · rw [← hF, ← hZ]
        unfold frameB
        rw [hpl]
        have h1 := numB_le9 (n := nn) (by omega)
        rw [List.length_append]
        split
        · simp only [List.length_nil]; omega
        · rename_i hne
          have h2 := numB_le9 (zigN_lt (hpin _ (least_mem hne)))
          have h3 := width_64 (moreM_lt hpin)
          have h4 := numB_le9 (n := widthM (moreM p)) (by omega)
          rw [List.length_append, List.length_append, packB_len, moreM_len, hpl]
          have h5 : nn * widthM (moreM p) ≤ 4096 * 64 := Nat.mul_le_mul hn4 h3
          unfold bytesN
          omega
    clear ho hX hxn hpl hb hpin hrW hK hB hZ hF
    go_enter Try.func32, Try.ntmps32
    go_wp2_with fail
    refine hof.out.mono ?_
    intro e w1 h1
    obtain ⟨h1, hb1⟩ := h1
    rcases h1 with ⟨h2, _⟩ | ⟨W', p', A, c, A2, c2, h2, rfl, hA, hA2⟩
    · rw [Ho.out] at h2
      cases h2
    · rw [Ho.out] at h2
      injection h2 with h2
      injection h2 with h2 h3
      subst h2
      subst h3
      rw [HK.out, Hpl.out]
      have Hb1 := Lib.hid hb1
      have HA := Lib.hid hA
      have HA2 := Lib.hid hA2
      clear hb1 hA hA2 hof
      go_wp2_with fail
      refine (drput_any W K c A w1 HK.out HA.out (by omega)).mono ?_
      intro e w2 h2
      obtain ⟨h2, hb2⟩ := h2
      rcases h2 with ⟨h3, _⟩ | ⟨b', B1, cb, h3, rfl, ho2⟩
      · rw [Hb.out] at h3
        cases h3
      · rw [Hb.out] at h3
        injection h3 with h3
        subst h3
        rw [HB.out] at ho2 ⊢
        have Hb2 := Lib.hid (Hb1.out.trans (hb2.mono Hb1.out.size))
        have Ho2 := Lib.hid (ho2.lower Hb1.out.size)
        have HA22 := Lib.hid (HA2.out.below hb2)
        clear ho2 hb2
        go_wp2_with fail
        refine (rframe_any p nn c2 A2 w2 Hpl.out HA22.out hn4 Hpin.out).mono ?_
        rintro e w3 h3
        rw [HZ.out] at h3
        obtain ⟨⟨A3, c3, rfl, ho3⟩, hb3⟩ := h3.len HF.out
        have Hb3 := Lib.hid (Hb2.out.trans (hb3.mono Hb2.out.size))
        have Ho23 := Lib.hid (Ho2.out.below hb3)
        have Hr3 := Lib.hid ho3.rd
        clear h3 ho3 hb3
        go_wp2_with (first | (at_builtin; refine hold ?_) | (at_make; refine hold ?_))
        (with_reducible refine unhold ?_)
        refine wpList_apd rfl _ _ _ rfl E8 w.heap.size _ B _ (Bs b) rfl Ho23.out _ F _ (Bs Z) rfl (by rw [Bs, List.length_map, HF.out, Nat.mul_one]) Hr3.out (Bs_one Z) (B + F) rfl (Bs (b ++ Z)) (by rw [Bs, Bs, ← List.map_append]) (by omega) (by omega) Hb3.out.size ?_
        intro A8 c8 w8 ho8 hg8 _
        have Hb8 := Lib.hid (Hb3.out.grown hg8 Hb3.out.size Ho23.out.row_ge)
        have Ho8 := Lib.hid ho8
        have HT : Hid ((b ++ Z).length = B + F) := by show _ = _; rw [List.length_append, HB.out, HF.out]
        clear ho8 hg8
        go_wp2_with fail
        go_ret2
        exact ByOK.of (by rw [← HRR.out, Hw.out, HZ.out]) Ho8.out HT.out Hb8.out

theorem by_any (kind how : Int) (hk : kindOk kind = true) (hh : howOk how = true) (N : List Int) (X : List (List UInt8)) (nn nc xc : Nat) (NA XA : Option Addr) (w : World) (hN : Rd w NA (icl N)) (hX : Rd w XA (wcl X)) (hnn : N.length = nn) (hxn : X.length = nn) (hn4 : nn ≤ 4096) (hNi : ∀ x ∈ N, -9223372036854775808 ≤ x ∧ x ≤ 9223372036854775807) (hXi : ∀ s ∈ X, s.length ≤ 1024) :
    Calls Try.prog 32 #[.int .u8 kind, .slice NA nn nc, .slice XA nn xc, .int .u8 how] w fun e w' => ByOK (byP kind how N X) w e w' := by
  have hh2 := of_decide_eq_true hh
  by_cases h1 : how = 1
  · subst h1
    have e : byP kind 1 N X = some (plainR kind N X) := by unfold byP; rw [if_pos rfl]
    rw [e]
    exact by_1 kind N X nn nc xc NA XA w hN hX hnn hxn hn4 hNi hXi
  · by_cases h3 : how = 3
    · subst h3
      by_cases hk3 : kind = 3
      · subst hk3
        have e : byP 3 3 N X = wordsB X := rfl
        rw [e]
        exact by_3 N X nn nc xc NA XA w hX hxn hn4
      · have e : byP kind 3 N X = none := by unfold byP; rw [if_neg (by decide), if_pos (by simp [hk3])]
        rw [e]
        exact by_m1 kind hk3 N X nn nc xc NA XA w hN hX hnn hxn hn4 hNi hXi
    · by_cases hk3 : kind = 3
      · subst hk3
        have e : byP 3 how N X = none := by unfold byP; rw [if_neg h1, if_pos (by simp [h3])]
        rw [e]
        exact by_m2 how h1 h3 N X nn nc xc NA XA w hN hX hnn hxn hn4 hNi hXi
      · have e0 : ¬ ((decide (how = 3)) == (decide (kind = 3))) = false := by simp [h3, hk3]
        have hc : how = 2 ∨ how = 4 ∨ how = 5 := by omega
        rcases hc with rfl | rfl | rfl
        · have e : byP kind 2 N X = some (runsB N) := by unfold byP; rw [if_neg h1, if_neg e0]; rfl
          rw [e]
          exact by_2 kind hk3 N X nn nc xc NA XA w hN hX hnn hxn hn4 hNi hXi
        · have e : byP kind 4 N X = some (frameB N) := by unfold byP; rw [if_neg h1, if_neg e0]; rfl
          rw [e]
          exact by_4 kind hk3 N X nn nc xc NA XA w hN hX hnn hxn hn4 hNi hXi
        · have e : byP kind 5 N X = deltaB N := by unfold byP; rw [if_neg h1, if_neg e0]; rfl
          rw [e]
          exact by_5 kind hk3 N X nn nc xc NA XA w hN hX hnn hxn hn4 hNi hXi

set_option maxRecDepth 100000 in
theorem rkind_any (k : Int) (w : World) : Calls Try.prog 30 #[.int .u8 k] w fun e w' => e = .returned (.bool (kindOk k)) ∧ w = w' := by
  by_cases h1 : 1 ≤ k
  · have e : kindOk k = decide (k ≤ 3) := by
      unfold kindOk
      by_cases h : k ≤ 3
      · rw [decide_eq_true h, decide_eq_true ⟨h1, h⟩]
      · rw [decide_eq_false h, decide_eq_false (fun h' => h h'.2)]
    rw [e]
    clear e
    go_enter Try.func30, Try.ntmps30
    go_wp2_with fail
    go_ret
    exact ⟨rfl, rfl⟩
  · have e : kindOk k = false := by unfold kindOk; exact decide_eq_false (fun h' => h1 h'.1)
    rw [e]
    clear e
    go_enter Try.func30, Try.ntmps30
    go_wp2_with fail
    go_ret
    exact ⟨rfl, rfl⟩
end Go.Proofs.Ytmlnjfdanlnccaa
