/- The walks of a reader's Int and Text, and of cell.Take. Values and rows that bytes begin with: plain laws, with no program in sight. -/
import Derived.Test.YtcadjekcdokkjaaGreatMCuAN
import Derived.Test.YtcadjekcdokkjaaGreatMOcR
import Derived.Test.YtcadjekcdokkjaaGreatMStSt
import Derived.Laws.DeepNot64
import Derived.Test.YtcadjekcdokkjaaGreatMOcUV
namespace Go.Proofs.YtcadjekcdokkjaaGreat
set_option linter.unusedVariables false
set_option linter.unusedSimpArgs false
open Go.RowKit
attribute [local go_sem ↓] Go.wp_at_zero Go.wp_at_succ
theorem i64_xor_not (a : Nat) (ha : a < 9223372036854775808) : bits .xor .i64 (a : Int) (-1) = -1 - (a : Int) := by
 have h := i64_not a ha
 change IntKind.i64.wrap ((BitVec.ofInt 64 (-1) ^^^ BitVec.ofInt 64 (a : Int)).toNat : Int) = _ at h
 show IntKind.i64.wrap ((BitVec.ofInt 64 (a : Int) ^^^ BitVec.ofInt 64 (-1)).toNat : Int) = _
 rw [BitVec.xor_comm]
 exact h
theorem i64_xor_zero (a : Nat) (ha : a < 9223372036854775808) : bits .xor .i64 (a : Int) 0 = (a : Int) := by
 show IntKind.i64.wrap ((BitVec.ofInt 64 (a : Int) ^^^ BitVec.ofInt 64 0).toNat : Int) = _
 have h1 : BitVec.ofInt 64 0 = 0#64 := by decide
 rw [h1, BitVec.xor_zero, ofInt_u64 a (by omega), IntKind.wrap_i64]
 omega
def IntOK (p : Nat) (l : List UInt8) (bad : Bool) (w : World) (e : Ending) (w' : World) : Prop :=
 ((takeNum l = none ∧ e = .returned (.int .i64 0) ∧ RdrBad w' p) ∨ ∃ m u, takeNum l = some (m, u) ∧ e = .returned (.int .i64 (unzig m)) ∧ Rdr w' p u bad) ∧ Keeps RdT p w w'
theorem rdr_int (p : Nat) (l : List UInt8) (bad : Bool) (w : World) (h : Rdr w p l bad) : Calls Tryz.prog 143 #[.pointer (some ⟨p, 0, none⟩)] w fun e w' => IntOK p l bad w e w' := by
 have hn := Lib.hid (rdr_num p l bad w h)
 clear h
 go_enter Tryz.func143, Tryz.ntmps143
 go_wp2_with fail
 refine hn.out.mono ?_
 rintro e w1 ⟨⟨ht, rfl, hr⟩ | ⟨m, u, ht, rfl, hr⟩, hk⟩
 ·have Ht := Lib.hid ht
  have a1 : bits .and .u64 (0 : Int) 1 = 0 := by decide
  have a2 : bits .xor .i64 (0 : Int) 0 = 0 := by decide
  clear ht
  go_wp2_with fail
  go_ret
  exact ⟨.inl ⟨Ht.out, rfl, hr⟩, hk⟩
 ·have hm := (takeNum_lt ht).1
  have Ht := Lib.hid ht
  have a1 : bits .and .u64 ((m : Nat) : Int) 1 = ((m % 2 : Nat) : Int) := by
   have := bits_and_u64_nat m 1 hm (by omega)
   rw [Nat.and_one_is_mod] at this
   exact this
  have hu : Hid (unzig m = if m % 2 = 0 then ((m / 2 : Nat) : Int) else -((m / 2 : Nat) : Int) - 1) := rfl
  have d1 : (m : Int) / 2 = ((m / 2 : Nat) : Int) := by omega
  have d2 : IntKind.i64.wrap ((m / 2 : Nat) : Int) = ((m / 2 : Nat) : Int) := by rw [IntKind.wrap_i64]; omega
  by_cases h2 : m % 2 = 0
  ·have a3 : bits .xor .i64 ((m / 2 : Nat) : Int) 0 = ((m / 2 : Nat) : Int) := i64_xor_zero (m / 2) (by omega)
   have hu2 : Hid (unzig m = ((m / 2 : Nat) : Int)) := by show _ = _; rw [hu.out, if_pos h2]
   rw [h2] at a1
   generalize m / 2 = H at *
   clear ht hu h2
   go_wp2_with fail
   go_ret
   exact ⟨.inr ⟨m, u, Ht.out, by rw [hu2.out]; rfl, hr⟩, hk⟩
  ·have h1 : m % 2 = 1 := by omega
   have a3 : bits .xor .i64 ((m / 2 : Nat) : Int) (-1) = -1 - ((m / 2 : Nat) : Int) := i64_xor_not (m / 2) (by omega)
   have hu2 : Hid (unzig m = -1 - ((m / 2 : Nat) : Int)) := by show _ = _; rw [hu.out, if_neg h2]; omega
   rw [h1] at a1
   generalize m / 2 = H at *
   clear ht hu h2 h1
   go_wp2_with fail
   go_ret
   exact ⟨.inr ⟨m, u, Ht.out, by rw [hu2.out]; rfl, hr⟩, hk⟩
theorem rdTake8 {w : World} {A : Option Addr} {u : List UInt8} (h : Rd w A (Bs u)) (m : Nat) : Rd w A (Bs (u.take m)) := by
 intro hn
 obtain ⟨b, o, e, hr⟩ := h (fun h0 => hn (by have e : u = [] := (by simpa using h0); rw [e]; simp))
 have := Rd.part hr 0 m
 rw [List.drop_zero, Nat.add_zero, ← List.map_take] at this
 exact ⟨b, o, e, this⟩
def TextOK (p : Nat) (l : List UInt8) (bad : Bool) (w : World) (e : Ending) (w' : World) : Prop :=
 ((takeText l = none ∧ e = .returned (.string (St8 [])) ∧ RdrBad w' p) ∨ ∃ s u, takeText l = some (s, u) ∧ e = .returned (.string (St8 s)) ∧ Rdr w' p u bad) ∧ Keeps RdT p w w'
set_option maxHeartbeats 4000000 in
set_option maxRecDepth 100000 in
theorem rdr_text (p : Nat) (l : List UInt8) (bad : Bool) (w : World) (h : Rdr w p l bad) : Calls Tryz.prog 144 #[.pointer (some ⟨p, 0, none⟩)] w fun e w' => TextOK p l bad w e w' := by
 have hn := Lib.hid (rdr_num p l bad w h)
 clear h
 have htt : Hid (takeText l = match takeNum l with | none => none | some (m, u) => if 1024 < m ∨ u.length < m then none else some (u.take m, u.drop m)) := rfl
 go_enter Tryz.func144, Tryz.ntmps144
 go_wp2_with fail
 refine hn.out.mono ?_
 rintro e w1 ⟨⟨ht, rfl, hr⟩ | ⟨m, u, ht, rfl, hr⟩, hk⟩
 ·have Ht : Hid (takeText l = none) := by show _ = _; rw [htt.out, ht]
  have k0 := hr.cell 0
  have f0 := hr.frozen 0
  have h2 := hr.set_ 0 (.slice none 0 0)
  simp only [List.getElem?_cons_zero, List.set_cons_zero] at k0 h2
  have hk2 := hk.setCell hr (i := 0) (by simp) (Nat.le_refl _) (.slice none 0 0)
  have hcv := run_str w1 none [] 0 0 rfl (Rd.nil _ _)
  have H2 := Lib.hid h2
  have Hk2 := Lib.hid hk2
  clear ht hr h2 hk hk2 htt
  go_wp2_with fail
  go_ret
  exact ⟨.inl ⟨Ht.out, rfl, H2.out⟩, Hk2.out⟩
 ·have hm := (takeNum_lt ht).1
  have Hr := Lib.hid hr
  have Hk := Lib.hid hk
  obtain ⟨A, n, c, h1, h2, hl, hnc, hc, hA⟩ := hr
  have k0 := h1.cell 0
  have f0 := h1.frozen 0
  simp only [List.getElem?_cons_zero] at k0
  have hw : IntKind.u64.wrap (n : Int) = (n : Int) := by rw [IntKind.wrap_u64]; omega
  by_cases hbad : 1024 < m ∨ n < m
  ·have Ht : Hid (takeText l = none) := by show _ = _; rw [htt.out, ht]; dsimp only; rw [if_pos (by rw [hl]; exact hbad)]
   have hf := Lib.hid (rdr_fail p u bad w1 Hr.out)
   clear ht htt h1 h2 hl hk
   by_cases h10 : 1024 < m
   ·go_wp2_with fail
    refine hf.out.mono ?_
    rintro e w2 ⟨rfl, hr2, hk2⟩
    go_wp2_with fail
    go_ret
    exact ⟨.inl ⟨Ht.out, rfl, hr2⟩, Hk.out.trans hk2⟩
   ·have hnm : n < m := by omega
    clear hbad
    go_wp2_with fail
    refine hf.out.mono ?_
    rintro e w2 ⟨rfl, hr2, hk2⟩
    go_wp2_with fail
    go_ret
    exact ⟨.inl ⟨Ht.out, rfl, hr2⟩, Hk.out.trans hk2⟩
  ·have Ht : Hid (takeText l = some (u.take m, u.drop m)) := by show _ = _; rw [htt.out, ht]; dsimp only; rw [if_neg (by rw [hl]; exact hbad)]
   have hm1 : ¬ 1024 < m := by omega
   have hm2 : ¬ n < m := by omega
   have hmn : m ≤ n := by omega
   have hmc : m ≤ c := by omega
   have hml : (u.take m).length = m := by rw [List.length_take]; omega
   clear ht htt hbad
   rcases hA with ⟨rfl, rfl⟩ | ⟨b, o, rfl⟩
   ·obtain rfl : n = 0 := by omega
    obtain rfl : m = 0 := by omega
    have hu0 : u = [] := List.eq_nil_of_length_eq_zero hl
    subst hu0
    have hcv := run_str w1 none [] 0 0 rfl (Rd.nil _ _)
    have h3 := h1.set_ 0 (.slice none 0 0)
    simp only [List.set_cons_zero] at h3
    have hk3 := hk.setCell h1 (i := 0) (by simp) (Nat.le_refl _) (.slice none 0 0)
    have H3 := Lib.hid h3
    have Hk3 := Lib.hid hk3
    clear h1 h2 h3 hk hk3 hl
    go_wp2_with fail
    go_ret
    exact ⟨.inr ⟨[], [], Ht.out, rfl, ⟨none, 0, 0, H3.out, OwnX.nil _ _ _, rfl, Nat.le_refl _, by omega, .inl ⟨rfl, rfl⟩⟩⟩, Hk3.out⟩
   ·have hcv := run_str w1 (some ⟨b, o, none⟩) (u.take m) m c hml (by have := rdTake8 h2.rd m; exact this)
    by_cases hcm : m = c
    ·have hs := Rdr.skip h1 h2 hl hnc hc (k := m) hmn (some ⟨b, o, none⟩) (by rw [if_pos hcm])
     subst hcm
     obtain rfl : n = m := by omega
     rw [Nat.sub_self] at hs
     have Hs := Lib.hid hs
     clear h1 h2 hl hs hk
     go_wp2_with fail
     go_ret
     exact ⟨.inr ⟨_, _, Ht.out, rfl, Hs.out.1⟩, Hk.out.trans Hs.out.2⟩
    ·have hs := Rdr.skip h1 h2 hl hnc hc (k := m) hmn (some ⟨b, o + m, none⟩) (by rw [if_neg hcm])
     have Hs := Lib.hid hs
     clear h1 h2 hl hs hk
     go_wp2_with fail
     go_ret
     exact ⟨.inr ⟨_, _, Ht.out, rfl, Hs.out.1⟩, Hk.out.trans Hs.out.2⟩
end Go.Proofs.YtcadjekcdokkjaaGreat
namespace Go.Proofs.YtcadjekcdokkjaaGreat
set_option linter.unusedVariables false
set_option linter.unusedSimpArgs false
open Go.RowKit
def takeBody (k : UInt8) (t : List UInt8) : Option (Int × List UInt8 × List UInt8) :=
 if k = 1 ∨ k = 2 then (match takeNum t with | none => none | some (m, u) => some (unzig m, [], u))
 else if k = 3 then (match takeText t with | none => none | some (s, u) => some (0, s, u))
 else some (0, [], t)
def takeVal : List UInt8 → Option (Va × List UInt8)
 | [] => none
 | k :: t =>
  match takeBody k t with
  | none => none
  | some (n, s, u) => if rightV ⟨k.toNat, n, s⟩ = true then some (⟨k.toNat, n, s⟩, u) else none
theorem takeVal_of {k : UInt8} {t s u : List UInt8} {n : Int} (h : takeBody k t = some (n, s, u)) (hr : rightV ⟨k.toNat, n, s⟩ = true) : takeVal (k :: t) = some (⟨k.toNat, n, s⟩, u) := by
 rw [takeVal, h]
 dsimp only
 rw [if_pos hr]
theorem takeVal_no {k : UInt8} {t : List UInt8} (h : takeBody k t = none) : takeVal (k :: t) = none := by
 rw [takeVal, h]
theorem takeVal_put {v : Va} (hv : rightV v = true) (hok : v.ok) (U : List UInt8) : takeVal (vput v ++ U) = some (v, U) := by
 rcases right_kinds hv with rfl | ⟨t, rfl⟩ | ⟨n, rfl⟩ | ⟨s, rfl, hs⟩
 ·rw [vput_nil]
  exact takeVal_of (k := byteN 0) rfl rfl
 ·have h0 : -9223372036854775808 ≤ (if t = true then (1 : Int) else 0) ∧ (if t = true then (1 : Int) else 0) ≤ 9223372036854775807 := by split <;> omega
  rw [vput_bool, List.cons_append]
  refine takeVal_of (k := byteN 1) (n := if t = true then 1 else 0) (s := []) ?_ hv
  unfold takeBody
  rw [if_pos (.inl rfl), takeNum_put (zigN_lt h0)]
  dsimp only
  rw [unzig_zig]
 ·rw [vput_int, List.cons_append]
  refine takeVal_of (k := byteN 2) (n := n) (s := []) ?_ hv
  unfold takeBody
  rw [if_pos (.inr rfl), takeNum_put (zigN_lt hok.n)]
  dsimp only
  rw [unzig_zig]
 ·rw [vput_txt, List.cons_append]
  refine takeVal_of (k := byteN 3) (n := 0) (s := s) ?_ hv
  unfold takeBody
  rw [if_neg (by decide), if_pos (show byteN 3 = 3 from rfl), takeText_put hs]
theorem takeVal_short {v : Va} (hv : rightV v = true) (hok : v.ok) {j : Nat} (hj : j < (vput v).length) : takeVal ((vput v).take j) = none := by
 cases j with
 | zero => rfl
 | succ j =>
  rcases right_kinds hv with rfl | ⟨t, rfl⟩ | ⟨n, rfl⟩ | ⟨s, rfl, hs⟩
  ·rw [vput_nil] at hj
   simp at hj
  ·have h0 : -9223372036854775808 ≤ (if t = true then (1 : Int) else 0) ∧ (if t = true then (1 : Int) else 0) ≤ 9223372036854775807 := by split <;> omega
   rw [vput_bool, List.length_cons] at hj
   rw [vput_bool, List.take_succ_cons]
   refine takeVal_no ?_
   unfold takeBody
   rw [if_pos (.inl rfl), takeNum_short (zigN_lt h0) (by omega)]
  ·rw [vput_int, List.length_cons] at hj
   rw [vput_int, List.take_succ_cons]
   refine takeVal_no ?_
   unfold takeBody
   rw [if_pos (.inr rfl), takeNum_short (zigN_lt (n := n) hok.n) (by omega)]
  ·rw [vput_txt, List.length_cons] at hj
   rw [vput_txt, List.take_succ_cons]
   refine takeVal_no ?_
   unfold takeBody
   rw [if_neg (by decide), if_pos (show byteN 3 = 3 from rfl), takeText_short hs (by omega)]
def takeVals : Nat → RowM → List UInt8 → Option (RowM × List UInt8)
 | 0, a, p => some (a, p)
 | k + 1, a, p => match takeVal p with | none => none | some (v, u) => takeVals k (a ++ [v]) u
theorem takeVals_put : ∀ (r a : RowM) (U : List UInt8), (∀ v ∈ r, rightV v = true) → (∀ v ∈ r, v.ok) → takeVals r.length a (r.flatMap vput ++ U) = some (a ++ r, U)
 | [], a, U, _, _ => by simp [takeVals]
 | v :: r, a, U, h1, h2 => by
  rw [List.length_cons, takeVals, List.flatMap_cons, List.append_assoc, takeVal_put (h1 v (by simp)) (h2 v (by simp))]
  dsimp only
  rw [takeVals_put r (a ++ [v]) U (fun u hu => h1 u (by simp [hu])) (fun u hu => h2 u (by simp [hu]))]
  simp
theorem takeVals_short : ∀ (r a : RowM) (j : Nat), (∀ v ∈ r, rightV v = true) → (∀ v ∈ r, v.ok) → j < (r.flatMap vput).length → takeVals r.length a ((r.flatMap vput).take j) = none
 | [], a, j, _, _, hj => by simp at hj
 | v :: r, a, j, h1, h2, hj => by
  rw [List.length_cons, takeVals, List.flatMap_cons]
  rw [List.flatMap_cons, List.length_append] at hj
  by_cases h : j < (vput v).length
  ·rw [take_le _ _ (by omega), takeVal_short (h1 v (by simp)) (h2 v (by simp)) h]
  ·rw [take_more _ _ (by omega), takeVal_put (h1 v (by simp)) (h2 v (by simp))]
   dsimp only
   exact takeVals_short r (a ++ [v]) _ (fun u hu => h1 u (by simp [hu])) (fun u hu => h2 u (by simp [hu])) (by omega)
def takeRow (p : List UInt8) : Option (RowM × List UInt8) :=
 match takeNum p with
 | none => none
 | some (m, u) => if 32 < m then none else takeVals m [] u
theorem takeRow_put {r : RowM} (h32 : r.length ≤ 32) (h1 : ∀ v ∈ r, rightV v = true) (h2 : ∀ v ∈ r, v.ok) (U : List UInt8) : takeRow (numB r.length ++ r.flatMap vput ++ U) = some (r, U) := by
 unfold takeRow
 rw [List.append_assoc, takeNum_put (by omega)]
 dsimp only
 rw [if_neg (by omega), takeVals_put r [] U h1 h2, List.nil_append]
theorem takeRow_short {r : RowM} (h32 : r.length ≤ 32) (h1 : ∀ v ∈ r, rightV v = true) (h2 : ∀ v ∈ r, v.ok) {j : Nat} (hj : j < (numB r.length ++ r.flatMap vput).length) : takeRow ((numB r.length ++ r.flatMap vput).take j) = none := by
 unfold takeRow
 rw [List.length_append] at hj
 by_cases h : j < (numB r.length).length
 ·rw [take_le _ _ (by omega), takeNum_short (by omega) h]
 ·rw [take_more _ _ (by omega), takeNum_put (by omega)]
  dsimp only
  rw [if_neg (by omega)]
  exact takeVals_short r [] _ h1 h2 (by omega)
end Go.Proofs.YtcadjekcdokkjaaGreat
