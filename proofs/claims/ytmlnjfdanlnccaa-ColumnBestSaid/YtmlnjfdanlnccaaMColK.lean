/- Walks: a column's texts by their words: the program's. -/
import Derived.Test.YtmlnjfdanlnccaaMColJ
import Derived.Test.YtmlnjfdanlnccaaMDwI
import Derived.Test.YtmlnjfdanlnccaaMDwF
import Derived.Test.YtmlnjfdanlnccaaMDiQF
namespace Go.Proofs.Ytmlnjfdanlnccaa
open Go.RowKit

attribute [local go_sem ↓] Go.wp_at_zero Go.wp_at_succ

def flatN (N : List Int) : List UInt8 := N.flatMap fun n => numB (zigN n)
def flatX (X : List (List UInt8)) : List UInt8 := X.flatMap fun s => numB s.length ++ s
/-- What lay tells of numbers and texts. -/
def layP (kind how : Int) (N : List Int) (X : List (List UInt8)) : List UInt8 × Int :=
  if ((decide (how = 3)) == (decide (kind = 3))) = false then (flatN N ++ flatX X, 1)
  else if how = 2 then (runsB N, 2)
  else if how = 4 then (frameB N, 4)
  else if how = 3 then match wordsB X with | some b => (b, 3) | none => (flatN N ++ flatX X, 1)
  else if how = 5 then match deltaB N with | some b => (b, 5) | none => (flatN N ++ flatX X, 1)
  else (flatN N ++ flatX X, 1)
theorem plain_parts (kind : Int) (l : RowM) : plainB kind l = flatN (numsK kind l) ++ flatX (textsK kind l) := by
  unfold plainB flatN flatX numsK textsK numsM textsM
  by_cases h : kind = 3
  · simp only [if_pos h]
    rw [List.flatMap_nil, List.nil_append, List.flatMap_map]
  · simp only [if_neg h]
    rw [List.flatMap_nil, List.append_nil, List.flatMap_map]
theorem lay_parts (kind how : Int) (l : RowM) : layM kind how l = layP kind how (numsK kind l) (textsK kind l) := by
  unfold layM layP
  rw [← plain_parts]
  by_cases h : ((decide (how = 3)) == (decide (kind = 3))) = false
  · rw [if_pos h, if_pos h]
  · rw [if_neg h, if_neg h]
    have he : (how = 3 ↔ kind = 3) := by
      simp only [Bool.not_eq_false, beq_iff_eq, decide_eq_decide] at h
      exact h
    by_cases hk : kind = 3
    · have hh := he.2 hk
      subst hh
      have e : textsK kind l = textsM l := by unfold textsK; rw [if_pos hk]
      rw [e]
      rfl
    · have hh : how ≠ 3 := fun e => hk (he.1 e)
      rw [if_neg hh, if_neg hh]
      have e : numsK kind l = numsM l := by unfold numsK; rw [if_neg hk]
      rw [e]
      rfl
theorem flatN_le {N : List Int} (h : ∀ x ∈ N, -9223372036854775808 ≤ x ∧ x ≤ 9223372036854775807) (hl : N.length ≤ 4096) (j : Nat) : (flatN (N.take j)).length ≤ 36864 := by
  have b := fmap_le (fun n => numB (zigN n)) 9 (N.take j) fun x hx => numB_le9 (zigN_lt (h x (List.mem_of_mem_take hx)))
  have c : (N.take j).length ≤ 4096 := by rw [List.length_take]; omega
  unfold flatN
  omega
theorem flatX_le {X : List (List UInt8)} (h : ∀ s ∈ X, s.length ≤ 1024) (hl : X.length ≤ 4096) (j : Nat) : (flatX (X.take j)).length ≤ 4231168 := by
  have b := fmap_le (fun s : List UInt8 => numB s.length ++ s) 1033 (X.take j) fun s hs => by
    have h1 := h s (List.mem_of_mem_take hs)
    have h2 := numB_le9 (n := s.length) (by omega)
    rw [List.length_append]
    omega
  have c : (X.take j).length ≤ 4096 := by rw [List.length_take]; omega
  unfold flatX
  omega
theorem flatN_snoc {N : List Int} {j : Nat} (hj : j < N.length) : flatN (N.take (j + 1)) = flatN (N.take j) ++ numB (zigN N[j]) := by
  unfold flatN
  rw [List.take_succ_eq_append_getElem hj, List.flatMap_append]
  simp
theorem flatX_snoc {X : List (List UInt8)} {j : Nat} (hj : j < X.length) (B : List UInt8) : B ++ flatX (X.take (j + 1)) = (B ++ flatX (X.take j)) ++ (numB X[j].length ++ X[j]) := by
  unfold flatX
  rw [List.take_succ_eq_append_getElem hj, List.flatMap_append]
  simp
theorem places_in {t W : List (List UInt8)} {p : List Int} (h : ofM t = some (W, p)) : p.length = t.length ∧ W.length ≤ 200 ∧ rightW W = true ∧ ∀ x ∈ p, -9223372036854775808 ≤ x ∧ x ≤ 9223372036854775807 := by
  obtain ⟨h1, _, h3, _⟩ := ofM_right h
  have h4 := rightW_le h1
  refine ⟨back_len h, h4.2, h1, fun x hx => ?_⟩
  rw [h3] at hx
  obtain ⟨s, _, rfl⟩ := List.mem_map.1 hx
  unfold placeM
  split
  · rename_i hm
    have := List.idxOf_lt_length_of_mem hm
    omega
  · omega
theorem wordsB_some {t W : List (List UInt8)} {p : List Int} {b : List UInt8} (h : ofM t = some (W, p)) (hb : putM W = some b) : wordsB t = some (b ++ frameB p) := by
  unfold wordsB
  rw [h, Option.bind_some, hb]
  rfl
theorem wordsB_none {t : List (List UInt8)} (h : ofM t = none) : wordsB t = none := by
  unfold wordsB
  rw [h]
  rfl

/-- How words ends. -/
def WordsOK (t : List (List UInt8)) (w : World) (e : Ending) (w' : World) : Prop :=
  ((wordsB t = none ∧ e = .returned (.tuple #[.slice none 0 0, .bool false])) ∨ ∃ b A c, wordsB t = some b ∧ e = .returned (.tuple #[.slice A b.length c, .bool true]) ∧ Own w' w.heap.size 5 1 A b.length c (Bs b)) ∧ Below w.heap.size w w'

set_option maxHeartbeats 8000000 in
set_option maxRecDepth 100000 in
theorem words_any (t : List (List UInt8)) (g xn xc : Nat) (k0 k1 k2 : Value) (X : Option Addr) (w : World) (hg : Blk w g 59 [k0, k1, k2, .slice X xn xc]) (hx : t.length = xn) (hX : Rd w X (wcl t)) (hn : xn ≤ 4096) :
    Calls Try.prog 53 #[.pointer (some ⟨g, 0, none⟩)] w fun e w' => WordsOK t w e w' := by
  have hof := Lib.hid (dof_any t xn xc X w hx hX hn)
  have y3 := hg.cell 3
  simp only [List.getElem?_cons_zero, List.getElem?_cons_succ] at y3
  cases ho : ofM t with
  | none =>
    have Ho := Lib.hid ho
    have Hf := Lib.hid (wordsB_none ho)
    clear ho hg hX hx
    go_enter Try.func53, Try.ntmps53
    go_wp2_with fail
    refine hof.out.mono ?_
    intro e w1 h1
    obtain ⟨h1, hb1⟩ := h1
    rcases h1 with ⟨_, rfl⟩ | ⟨W, p, A, c, A2, c2, h2, _⟩
    · have Hb1 := Lib.hid hb1
      clear hb1 hof
      go_wp2_with fail
      go_ret2
      exact ⟨.inl ⟨Hf.out, rfl⟩, Hb1.out⟩
    · rw [Ho.out] at h2
      cases h2
  | some Wp =>
    obtain ⟨W, p⟩ := Wp
    obtain ⟨hpl, hW, hrW, hpin⟩ := places_in ho
    obtain ⟨b, hb⟩ := putM_of ho
    have Hw := Lib.hid (wordsB_some ho hb)
    have Hb := Lib.hid hb
    have Ho := Lib.hid ho
    have Hpin := Lib.hid hpin
    rw [hx] at hpl
    have Hpl := Lib.hid hpl
    obtain ⟨K, hK⟩ : ∃ K, W.length = K := ⟨_, rfl⟩
    rw [hK] at hW
    have HK := Lib.hid hK
    obtain ⟨B, hB⟩ : ∃ B, b.length = B := ⟨_, rfl⟩
    have HB := Lib.hid hB
    obtain ⟨Z, hZ⟩ : ∃ Z, frameB p = Z := ⟨_, rfl⟩
    have HZ := Lib.hid hZ
    obtain ⟨F, hF⟩ : ∃ F, Z.length = F := ⟨_, rfl⟩
    have HF := Lib.hid hF
    have hBF : B ≤ 300000 ∧ F ≤ 100000 := by
      refine ⟨?_, ?_⟩
      · rw [← hB]
        unfold putM at hb
        rw [if_pos hrW] at hb
        injection hb with hb
        rw [← hb, List.length_append]
        have h1 := numB_le9 (n := W.length) (by omega)
        have h2 := putF_len W [] (by simp) (fun x hx => (rightW_le hrW).1 x hx)
        have h3 : W.length * 1042 ≤ 200 * 1042 := Nat.mul_le_mul_right _ (by omega)
        omega
      · rw [← hF, ← hZ]
        unfold frameB
        rw [hpl]
        have h1 := numB_le9 (n := xn) (by omega)
        rw [List.length_append]
        split
        · simp only [List.length_nil]; omega
        · rename_i hne
          have h2 := numB_le9 (zigN_lt (hpin _ (least_mem hne)))
          have h3 := width_64 (moreM_lt hpin)
          have h4 := numB_le9 (n := widthM (moreM p)) (by omega)
          rw [List.length_append, List.length_append, packB_len, moreM_len, hpl]
          have h5 : xn * widthM (moreM p) ≤ 4096 * 64 := Nat.mul_le_mul hn h3
          unfold bytesN
          omega
    clear ho hg hX hx hpl hb hpin hrW hK hB hZ hF
    go_enter Try.func53, Try.ntmps53
    go_wp2_with fail
    refine hof.out.mono ?_
    intro e w1 h1
    obtain ⟨h1, hb1⟩ := h1
    rcases h1 with ⟨h2, _⟩ | ⟨W', p', A, c, A2, c2, h2, rfl, hA, hA2⟩
    · rw [Ho.out] at h2
      cases h2
    · rw [Ho.out] at h2
      injection h2 with h2
      injection h2 with h2 h3
      subst h2
      subst h3
      rw [HK.out, Hpl.out]
      have Hb1 := Lib.hid hb1
      have HA := Lib.hid hA
      have HA2 := Lib.hid hA2
      clear hb1 hA hA2 hof
      go_wp2_with fail
      refine (dput_any W K c A w1 HK.out HA.out (by omega)).mono ?_
      intro e w2 h2
      obtain ⟨h2, hb2⟩ := h2
      rcases h2 with ⟨h3, _⟩ | ⟨b', B1, cb, h3, rfl, ho2⟩
      · rw [Hb.out] at h3
        cases h3
      · rw [Hb.out] at h3
        injection h3 with h3
        subst h3
        rw [HB.out] at ho2 ⊢
        have Hb2 := Lib.hid (Hb1.out.trans (hb2.mono Hb1.out.size))
        have Ho2 := Lib.hid (ho2.lower Hb1.out.size)
        have HA22 := Lib.hid (HA2.out.below hb2)
        clear ho2 hb2
        go_wp2_with fail
        refine (frame_any p xn c2 A2 w2 Hpl.out HA22.out hn Hpin.out).mono ?_
        rintro e w3 h3
        rw [HZ.out] at h3
        obtain ⟨⟨A3, c3, rfl, ho3⟩, hb3⟩ := h3.len HF.out
        have Hb3 := Lib.hid (Hb2.out.trans (hb3.mono Hb2.out.size))
        have Ho23 := Lib.hid (Ho2.out.below hb3)
        have Hr3 := Lib.hid ho3.rd
        clear h3 ho3 hb3
        go_wp2_with (first | (at_builtin; refine hold ?_) | (at_make; refine hold ?_))
        (with_reducible refine unhold ?_)
        refine wpList_apd rfl _ _ _ rfl E8 w.heap.size _ B _ (Bs b) rfl Ho23.out _ F _ (Bs Z) rfl (by rw [Bs, List.length_map, HF.out, Nat.mul_one]) Hr3.out (Bs_one Z) (B + F) rfl (Bs (b ++ Z)) (by rw [Bs, Bs, ← List.map_append]) (by omega) (by omega) Hb3.out.size ?_
        intro A8 c8 w8 ho8 hg8 _
        have Hb8 := Lib.hid (Hb3.out.grown hg8 Hb3.out.size Ho23.out.row_ge)
        have Ho8 := Lib.hid ho8
        have HT : Hid ((b ++ Z).length = B + F) := by show _ = _; rw [List.length_append, HB.out, HF.out]
        clear ho8 hg8
        go_wp2_with fail
        go_ret2
        refine ⟨.inr ⟨b ++ Z, A8, c8, by rw [Hw.out, HZ.out], ?_, ?_⟩, Hb8.out⟩
        · rw [HT.out]; rfl
        · rw [HT.out]; exact Ho8.out
end Go.Proofs.Ytmlnjfdanlnccaa
