/- Walks: a copy of numbers; why joins may not be: the program's. (Printed by gen_qys.py.) -/
import Derived.Test.YtheafcfbahdcfaaDoorMQyP
import Derived.Lib.SliceRun
namespace Go.Proofs.YtheafcfbahdcfaaDoor
set_option linter.unusedVariables false
set_option linter.unusedSimpArgs false
open Go.RowKit

attribute [local go_sem ↓] Go.wp_at_zero Go.wp_at_succ

set_option maxRecDepth 100000 in
theorem clone_int (l : List Int) (A : Option Addr) (n c : Nat) (w : World) (hl : l.length = n) (hA : Rd w A (icl l)) (hn : n ≤ 1000000) (h0 : A = none → n = 0 ∧ c = 0) :
    Calls Tryd.prog 43 #[.slice A n c] w fun e w' => (∃ A' c', e = .returned (.slice A' n c') ∧ Own w' w.heap.size 3 1 A' n c' (icl l)) ∧ Below w.heap.size w w' := by
  have q25 : ∀ (w : World) (a : Option Addr) (n c n' c' : Nat), (binOp .eql 25 (.slice a n c) (.slice none n' c')).run Tryd.prog w = .ok (.bool a.isNone) w := fun w a n c n' c' => Lib.run_eql_slice_nil w _ 3 a n c n' c' (by kernel_rfl)
  have Hl := Lib.hid hl
  cases A with
  | none =>
    obtain ⟨rfl, rfl⟩ := h0 rfl
    have HN : Hid (Own w w.heap.size 3 1 none 0 0 (icl l)) := by
      show Own _ _ _ _ _ _ _ _
      rw [List.eq_nil_of_length_eq_zero hl]
      exact Own.nil _ _ _ _
    clear hl hA h0
    go_enter Tryd.func43, Tryd.ntmps43
    go_wp2_with fail
    go_ret
    exact ⟨⟨none, 0, rfl, HN.out⟩, Below.refl _ _⟩
  | some ad =>
    have ho : Own (w.alloc (.cells #[] 3)) w.heap.size 3 1 (some ⟨w.heap.size, 0, none⟩) 0 0 [] := Own.lit w (Nat.le_refl _) 3 #[] 0 rfl (by decide)
    have hb : Below w.heap.size w (w.alloc (.cells #[] 3)) := (Below.refl _ _).alloc (Nat.le_refl _) _
    have hA1 := hA.below hb
    have hl1 : (icl l).length = n * 1 := by rw [icl_len, hl, Nat.mul_one]
    have hz := hb.size
    have h0n : 0 + n = n := by omega
    clear hl hA h0
    go_enter Tryd.func43, Tryd.ntmps43
    go_wp2_with (first | (at_builtin; refine hold ?_) | (at_make; refine hold ?_))
    (with_reducible refine unhold ?_)
    refine wpList_apd rfl _ _ _ rfl Eint' w.heap.size _ 0 _ [] rfl ho _ n _ (icl l) rfl hl1 hA1 (icl_one l) n h0n (icl l) rfl (by omega) (by omega) hz ?_
    intro A5 d5 w9 ho9 hg9 _
    have Hb9 := Lib.hid (hb.grown hg9 hz ho.row_ge)
    have Ho9 := Lib.hid ho9
    clear ho9 hg9 ho hA1
    go_wp2_with fail
    go_ret
    exact ⟨⟨A5, d5, rfl, Ho9.out⟩, Hb9.out⟩

/-! ### Where columns begin and end -/
theorem offs_get : ∀ (ks : List (List Int)) (a j : Nat), j < ks.length → (offs a ks)[j]? = some (a + (ks.take j).flatten.length)
  | k :: ks, a, 0, _ => by simp [offs]
  | k :: ks, a, j + 1, h => by
    rw [offs, List.getElem?_cons_succ, offs_get ks (a + k.length) j (by simpa using h), List.take_succ_cons, List.flatten_cons, List.length_append, Nat.add_assoc]
def endsL (ks : List (List Int)) : List Nat := (offs 0 ks).drop 1 ++ [ks.flatten.length]
def preL (ks : List (List Int)) (j : Nat) : Nat := (ks.take j).flatten.length
theorem preL_succ {ks : List (List Int)} {j : Nat} (h : j < ks.length) : preL ks (j + 1) = preL ks j + (ks[j]).length := by
  unfold preL
  rw [List.take_succ_eq_append_getElem h, List.flatten_append, List.length_append]
  simp
theorem preL_le (ks : List (List Int)) (j : Nat) : preL ks j ≤ ks.flatten.length := by
  unfold preL
  conv => rhs; rw [← List.take_append_drop j ks, List.flatten_append, List.length_append]
  omega
theorem endsL_len (ks : List (List Int)) (h : 0 < ks.length) : (endsL ks).length = ks.length := by
  unfold endsL
  rw [List.length_append, List.length_drop, offs_len]
  simp
  omega
theorem endsL_get (ks : List (List Int)) (j : Nat) (h : j < ks.length) : (endsL ks)[j]? = some (preL ks (j + 1)) := by
  unfold endsL preL
  by_cases e : j + 1 < ks.length
  · rw [List.getElem?_append_left (by rw [List.length_drop, offs_len]; omega), List.getElem?_drop, Nat.add_comm 1 j, offs_get ks 0 _ e, Nat.zero_add]
  · rw [List.getElem?_append_right (by rw [List.length_drop, offs_len]; omega), List.length_drop, offs_len, show j - (ks.length - 1) = 0 by omega, List.take_of_length_le (by omega)]
    rfl
theorem Rd.nat {w : World} {A : Option Addr} {l : List Nat} (h : Rd w A (icl (ints l))) {j v : Nat} (hj : l[j]? = some v) : ∃ b o, A = some ⟨b, o, none⟩ ∧ w.cell? ⟨b, o + j, none⟩ = some (.int .i64 (v : Int)) := by
  obtain ⟨hl, he⟩ := List.getElem?_eq_some_iff.1 hj
  obtain ⟨b, o, e, c⟩ := h.num (j := j) (by rw [ints_len]; exact hl)
  refine ⟨b, o, e, ?_⟩
  rw [c]
  unfold ints
  rw [List.getElem_map, he]
theorem joins_step (ks : List (List Int)) (js : List Jn) (kinds : List Int) (first a j : Nat) (st ch : Bool) (h : j + 1 < ks.length) (hj : j < js.length) :
    joinsF kinds first a (ks.drop j) (js.drop j) st ch = if (js[j]).left < 0 ∨ ((a + (ks[j]).length : Nat) : Int) ≤ (js[j]).left ∨ (js[j]).right < 0 ∨ ((ks[j + 1]).length : Int) ≤ (js[j]).right then 1
      else if kinds.getD (js[j]).left.toNat 0 ≠ kinds.getD (a + (ks[j]).length + (js[j]).right.toNat) 0 then 7
      else joinsF kinds first (a + (ks[j]).length) (ks.drop (j + 1)) (js.drop (j + 1)) (st && decide ((js[j]).left < (first : Int))) (ch && decide ((a : Int) ≤ (js[j]).left)) := by
  rw [List.drop_eq_getElem_cons (show j < ks.length by omega), List.drop_eq_getElem_cons h, List.drop_eq_getElem_cons hj]
  rfl
theorem joins_end (ks : List (List Int)) (js : List Jn) (kinds : List Int) (first a j : Nat) (st ch : Bool) (hj : js.length ≤ j) :
    joinsF kinds first a (ks.drop j) (js.drop j) st ch = if st || ch then 0 else 232 := by
  rw [List.drop_eq_nil_of_le hj]
  cases ks.drop j with
  | nil => rfl
  | cons x t => cases t <;> rfl

set_option maxHeartbeats 16000000 in
set_option maxRecDepth 100000 in
theorem joins_any (ks : List (List Int)) (K : Option Addr) (kn kc : Nat) (F : Option Addr) (fn fc : Nat) (q : Qy) (a1 : Option Addr) (n1 c1 : Nat) (a2 : Option Addr) (n2 c2 : Nat) (a3 : Option Addr) (n3 c3 : Nat) (a4 : Option Addr) (n4 c4 : Nat) (a5 : Option Addr) (n5 c5 : Nat) (a6 : Option Addr) (n6 c6 : Nat) (w : World) (hks : ks.length = n1 + 1) (hkn : ks.flatten.length = kn) (hkb : kn ≤ 1000) (hK : Rd w K (kcells ks.flatten)) (hfn : ks.length = fn) (hF : Rd w F (icl (ints (offs 0 ks)))) (hfc : fn ≤ fc ∧ fc ≤ maxLen) (hq : Qi w q a1 n1 a2 n2 a3 n3 a4 n4 a5 n5 a6 n6) (hqf : q.Few) :
    Calls Tryd.prog 21 #[.slice K kn kc, .slice F fn fc, .agg #[.string (St8 q.frm), .slice a1 n1 c1, .slice a2 n2 c2, .slice a3 n3 c3, .slice a4 n4 c4, .slice a5 n5 c5, .slice a6 n6 c6]] w fun e w' => e = .returned (.int .i64 (joinsM ks q)) ∧ Below w.heap.size w w' := by
  have Hks := Lib.hid hks
  have Hkn := Lib.hid hkn
  have HK := Lib.hid hK
  have HF := Lib.hid hF
  have Hq := Lib.hid hq
  have hn1 := hqf.joins
  rw [hq.l1] at hn1
  obtain ⟨R, hR⟩ : ∃ R, R = joinsM ks q := ⟨_, rfl⟩
  rw [← hR]
  have HR : Hid (R = joinsF ks.flatten (ks.headD []).length (preL ks 0) (ks.drop 0) (q.joins.drop 0) true true) := hR
  obtain ⟨fb, fo, hFe, -⟩ := hF.nat (offs_get ks 0 0 (by omega))
  subst hFe
  obtain rfl : fn = n1 + 1 := by omega
  have hdl : (ints ((offs 0 ks).drop 1)).length = n1 := by rw [ints_len, List.length_drop, offs_len]; omega
  have Hdl := Lib.hid hdl
  have Hdr : Hid (∀ w', Below w.heap.size w w' → Rd w' (some ⟨fb, fo + 1, none⟩) (icl (ints ((offs 0 ks).drop 1)))) := Lib.hid fun w' hw => by
    obtain ⟨b9, o9, e9, hr9⟩ := (hF.below hw) (by
      intro e
      have := congrArg List.length e
      rw [icl_len, ints_len, offs_len, hks, List.length_nil] at this
      omega)
    have h9 := Option.some.inj e9
    injection h9 with h91 h92
    subst h91
    subst h92
    have h8 := Rd.of_range (Rd.part hr9 1 n1)
    have h7 : ((icl (ints (offs 0 ks))).drop 1).take n1 = icl (ints ((offs 0 ks).drop 1)) := by
      unfold icl ints
      rw [← List.map_drop, ← List.map_drop, List.take_of_length_le (by rw [List.length_map, List.length_map, List.length_drop, offs_len]; omega)]
    rwa [h7] at h8
  obtain ⟨wb, hwb⟩ : ∃ x, x = w.alloc (.cells #[.string (St8 q.frm), .slice a1 n1 c1, .slice a2 n2 c2, .slice a3 n3 c3, .slice a4 n4 c4, .slice a5 n5 c5, .slice a6 n6 c6] 29) := ⟨_, rfl⟩
  have Hbx : Hid (Blk wb w.heap.size 29 (#[.string (St8 q.frm), .slice a1 n1 c1, .slice a2 n2 c2, .slice a3 n3 c3, .slice a4 n4 c4, .slice a5 n5 c5, .slice a6 n6 c6]).toList) := by
    show Blk _ _ _ _
    rw [hwb]
    exact Blk.new w _ _
  have Hbb : Hid (Below w.heap.size w wb) := by
    show Below _ _ _
    rw [hwb]
    exact (Below.refl _ _).alloc (Nat.le_refl _) _
  have h1c : 1 ≤ fc := by omega
  have hfm : fc ≤ maxLen := hfc.2
  clear hks hkn hK hF hq hqf hR hfn hdl
  by_cases hcc : fc = 1
  · subst hcc
    obtain rfl : 0 = n1 := by omega
    have hnil : (offs 0 ks).drop 1 = [] := List.eq_nil_of_length_eq_zero (by rw [← ints_len]; exact Hdl.out)
    have hcl := clone_int [] (some ⟨fb, fo, none⟩) 0 0 wb rfl (Rd.nil _ _) (by omega) (fun h => by cases h)
    rw [show icl [] = icl (ints ((offs 0 ks).drop 1)) by rw [hnil]; rfl] at hcl
    have Hcl := Lib.hid hcl
    clear hnil hcl
    go_enter Tryd.func21, Tryd.ntmps21
    go_wp2_with fail
    rw [← hwb]
    refine Hcl.out.mono ?_
    rintro e w1 ⟨⟨A', d', rfl, hoE⟩, hb1⟩
    have hoE1 := Own.below hoE (show Below w1.heap.size w1 (w1.alloc (.cells #[.int .i64 (kn : Int)] 3)) from (Below.refl _ _).alloc (Nat.le_refl _) _)
    have hb1a : Below wb.heap.size wb (w1.alloc (.cells #[.int .i64 (kn : Int)] 3)) := hb1.alloc hb1.size _
    have hnew := (Blk.new w1 3 #[.int .i64 (kn : Int)]).range
    have hz1 := hb1a.size
    have Hye : Hid (icl (ints ((offs 0 ks).drop 1)) ++ [.int .i64 (kn : Int)] = icl (ints (endsL ks))) := by
      show _ = _
      unfold endsL
      rw [ints_snoc, icl_append, Hkn.out]
      rfl
    clear hoE
    go_wp2_with (first | (at_builtin; refine hold ?_) | (at_make; refine hold ?_))
    (with_reducible refine unhold ?_)
    refine wpList_apd rfl _ _ _ rfl Eint' wb.heap.size _ 0 _ _ rfl hoE1 _ 1 _ [.int .i64 (kn : Int)] rfl rfl (fun _ => ⟨_, _, rfl, hnew⟩) (by simp [Value.oneCell']) (0 + 1) rfl _ Hye.out (by omega) (by omega) hz1 ?_
    intro A5 d5 w3 ho3 hg3 _
    have hb3 := hb1a.grown hg3 hz1 hoE1.row_ge
    have k1 := (Hbx.out.below hb3).cell 1
    simp only [List.getElem?_cons_succ, List.getElem?_cons_zero] at k1
    have HE := Lib.hid ho3.rd
    have HB3 := Lib.hid (Hbb.out.trans (hb3.mono Hbb.out.size))
    clear hoE1 hnew ho3 hg3 hb3 hb1a hz1 hb1
    go_wp2_with fail
    go_loopw [7, 8, 23] (fun vs vc vi wr => ∃ (j : Nat) (st ch : Bool), vs = .bool st ∧ vc = .bool ch ∧ vi = .int .i64 j ∧ j ≤ 0 ∧ Hid (R = joinsF ks.flatten (ks.headD []).length (preL ks j) (ks.drop j) (q.joins.drop j) st ch) ∧ Hid (Below w3.heap.size w3 wr)) (fun _ _ vi _ => 0 - (intOf vi).toNat)
    case atStart => exact ⟨0, true, true, rfl, rfl, rfl, by omega, HR, Below.refl _ _⟩
    case round =>
      obtain ⟨j, st, ch, rfl, rfl, rfl, hj, HJ, Hb⟩ := hrel
      by_cases hjn : j < 0
      · exact absurd hjn (by omega)
      · obtain rfl : 0 = j := by omega
        have HRE := HJ.out
        rw [joins_end ks q.joins _ _ _ 0 st ch (by rw [Hq.out.l1]; exact Nat.le_refl _)] at HRE
        have HRF := Lib.hid HRE
        have Hfin := Lib.hid (HB3.out.trans (Hb.out.mono HB3.out.size))
        clear HRE HJ
        cases st <;> cases ch
        all_goals
          go_wp2_with fail
          go_ret
          exact ⟨by rw [HRF.out]; rfl, Hfin.out⟩
  · have h1cc : ¬ (fc = 1) := hcc
    have Hcl := Lib.hid (clone_int (ints ((offs 0 ks).drop 1)) (some ⟨fb, fo + 1, none⟩) n1 (fc - 1) wb Hdl.out (Hdr.out wb Hbb.out) (by omega) (fun h => by cases h))
    go_enter Tryd.func21, Tryd.ntmps21
    go_wp2_with fail
    rw [← hwb]
    refine Hcl.out.mono ?_
    rintro e w1 ⟨⟨A', d', rfl, hoE⟩, hb1⟩
    have hoE1 := Own.below hoE (show Below w1.heap.size w1 (w1.alloc (.cells #[.int .i64 (kn : Int)] 3)) from (Below.refl _ _).alloc (Nat.le_refl _) _)
    have hb1a : Below wb.heap.size wb (w1.alloc (.cells #[.int .i64 (kn : Int)] 3)) := hb1.alloc hb1.size _
    have hnew := (Blk.new w1 3 #[.int .i64 (kn : Int)]).range
    have hz1 := hb1a.size
    have Hye : Hid (icl (ints ((offs 0 ks).drop 1)) ++ [.int .i64 (kn : Int)] = icl (ints (endsL ks))) := by
      show _ = _
      unfold endsL
      rw [ints_snoc, icl_append, Hkn.out]
      rfl
    clear hoE
    go_wp2_with (first | (at_builtin; refine hold ?_) | (at_make; refine hold ?_))
    (with_reducible refine unhold ?_)
    refine wpList_apd rfl _ _ _ rfl Eint' wb.heap.size _ n1 _ _ rfl hoE1 _ 1 _ [.int .i64 (kn : Int)] rfl rfl (fun _ => ⟨_, _, rfl, hnew⟩) (by simp [Value.oneCell']) (n1 + 1) rfl _ Hye.out (by omega) (by omega) hz1 ?_
    intro A5 d5 w3 ho3 hg3 _
    have hb3 := hb1a.grown hg3 hz1 hoE1.row_ge
    have k1 := (Hbx.out.below hb3).cell 1
    simp only [List.getElem?_cons_succ, List.getElem?_cons_zero] at k1
    have HE := Lib.hid ho3.rd
    have HB3 := Lib.hid (Hbb.out.trans (hb3.mono Hbb.out.size))
    clear hoE1 hnew ho3 hg3 hb3 hb1a hz1 hb1
    go_wp2_with fail
    go_loopw [7, 8, 23] (fun vs vc vi wr => ∃ (j : Nat) (st ch : Bool), vs = .bool st ∧ vc = .bool ch ∧ vi = .int .i64 j ∧ j ≤ n1 ∧ Hid (R = joinsF ks.flatten (ks.headD []).length (preL ks j) (ks.drop j) (q.joins.drop j) st ch) ∧ Hid (Below w3.heap.size w3 wr)) (fun _ _ vi _ => n1 - (intOf vi).toNat)
    case atStart => exact ⟨0, true, true, rfl, rfl, rfl, by omega, HR, Below.refl _ _⟩
    case round =>
      obtain ⟨j, st, ch, rfl, rfl, rfl, hj, HJ, Hb⟩ := hrel
      by_cases hjn : j < n1
      · have hjI : (j : Int) < (n1 : Int) := by omega
        have hjI0 : (0 : Int) ≤ (j : Int) := by omega
        have hjl : j < q.joins.length := by rw [Hq.out.l1]; exact hjn
        have hjk : j + 1 < ks.length := by rw [Hks.out]; omega
        have hB := HB3.out.trans (Hb.out.mono HB3.out.size)
        obtain ⟨b, o, ha1, c0, d1, d2⟩ := (Hq.out.below hB).r1.jn hjl
        have HS := HJ.out
        rw [joins_step ks q.joins _ _ _ j st ch hjk hjl] at HS
        subst ha1
        generalize q.joins[j] = x at *
        obtain ⟨tn, lf, rg⟩ := x
        dsimp only at c0 d1 d2 HS
        have hbx3 : Below w.heap.size w (wr.alloc (.cells #[.string (St8 tn), .int .i64 lf, .int .i64 rg] 46)) := hB.alloc hB.size _
        have Hbx3 := Lib.hid hbx3
        have hbx4 : Below w3.heap.size w3 (wr.alloc (.cells #[.string (St8 tn), .int .i64 lf, .int .i64 rg] 46)) := Hb.out.alloc Hb.out.size _
        have Hbx4 := Lib.hid hbx4
        obtain ⟨eb, eo, hAe, f0⟩ := (HE.out.below hbx4).nat (endsL_get ks j (by omega))
        obtain ⟨eb1, eo1, hAe1, f1⟩ := (HE.out.below hbx4).nat (endsL_get ks (j + 1) hjk)
        obtain ⟨eb2, eo2, hAe2, f2⟩ := (HE.out.below hbx4).nat (endsL_get ks 0 (by omega))
        subst hAe
        obtain ⟨rfl, rfl⟩ : eb = eb1 ∧ eo = eo1 := by
          have h9 := Option.some.inj hAe1
          injection h9 with h91 h92
          exact ⟨h91, h92⟩
        obtain ⟨rfl, rfl⟩ : eb = eb2 ∧ eo = eo2 := by
          have h9 := Option.some.inj hAe2
          injection h9 with h91 h92
          exact ⟨h91, h92⟩
        obtain ⟨fb1, fo1, hFe1, f3⟩ := (HF.out.below hbx3).nat (offs_get ks 0 j (by omega))
        obtain ⟨rfl, rfl⟩ : fb = fb1 ∧ fo = fo1 := by
          have h9 := Option.some.inj hFe1
          injection h9 with h91 h92
          exact ⟨h91, h92⟩
        rw [Nat.zero_add] at f3
        rw [Nat.add_zero] at f2
        have f3' : (wr.alloc (.cells #[.string (St8 tn), .int .i64 lf, .int .i64 rg] 46)).cell? ⟨fb, fo + j, none⟩ = some (.int .i64 (preL ks j : Int)) := f3
        have hs1 := preL_succ (ks := ks) (j := j) (by omega)
        have hs2 := preL_succ (ks := ks) (j := j + 1) hjk
        have hle1 := preL_le ks (j + 1)
        have hle2 := preL_le ks (j + 1 + 1)
        rw [Hkn.out] at hle1 hle2
        have Hkc := Lib.hid (fun i (hi : i < ks.flatten.length) => (HK.out.below hbx3).kind hi)
        have hfirst : (ks.headD []).length = preL ks (0 + 1) := by
          rw [preL_succ (ks := ks) (j := 0) (by omega)]
          cases ks with
          | nil => simp at hjk
          | cons x t => simp [preL]
        rw [hfirst, ← hs1] at HS
        generalize hp0 : preL ks j = p0 at *
        generalize hp1 : preL ks (j + 1) = p1 at *
        generalize hp2 : preL ks (j + 1 + 1) = p2 at *
        generalize preL ks (0 + 1) = pF at *
        generalize (ks[j]).length = lx at *
        have HP1 := Lib.hid hp1
        have HF1 := Lib.hid hfirst
        have hly : ((ks[j + 1]).length : Int) = (p2 : Int) - (p1 : Int) := by omega
        rw [hly] at HS
        have HS2 := Lib.hid HS
        have Hp1 : Hid (p1 = p0 + lx) := hs1
        clear HS hs1 hs2 hfirst hbx3 hbx4 hB hly hp0 hp1 hp2 f3 hjl hjk HJ hAe1 hAe2 hFe1
        have hw2 : IntKind.i64.wrap ((p2 : Int) - (p1 : Int)) = (p2 : Int) - (p1 : Int) := (by rw [IntKind.wrap_i64]; omega)
        have hji : IntKind.i64.wrap ((j : Int) + 1) = (j : Int) + 1 := (by rw [IntKind.wrap_i64]; omega)
        have hj1a : (j : Int) + 1 < (n1 : Int) + 1 := by omega
        have hj1b : (0 : Int) ≤ (j : Int) + 1 := by omega
        have hj1c : (j : Int) < (n1 : Int) + 1 := by omega
        have hn1p : (0 : Int) < (n1 : Int) + 1 := by omega
        by_cases h1 : lf < 0
        · have HRE : Hid (R = 1) := by
            show R = 1
            rw [HS2.out, if_pos (.inl h1)]
          have e1 : decide (lf < 0) = true := decide_eq_true h1
          clear HS2 Hkc HK Hp1
          obtain ⟨rt, hrt⟩ : ∃ rt, IntKind.i64.wrap ((p1 : Int) + rg) = rt := ⟨_, rfl⟩
          go_wp2_with fail
          go_quiet (fail)
          go_wp2_with fail
          go_quiet (fail)
          go_wp2_with fail
          go_ret
          exact ⟨by rw [HRE.out]; rfl, by first | exact Hbx3.out | exact below_drewN' Hbx3.out _ | exact below_drewN' (below_drewN' Hbx3.out _) _ | exact below_drewN' (below_drewN' (below_drewN' Hbx3.out _) _) _⟩
        · by_cases h2 : (p1 : Int) ≤ lf
          · have HRE : Hid (R = 1) := by
              show R = 1
              rw [HS2.out, if_pos (.inr (.inl h2))]
            have e1 : decide (lf < 0) = false := decide_eq_false h1
            have e2 : decide ((p1 : Int) ≤ lf) = true := decide_eq_true h2
            clear HS2 Hkc HK Hp1
            obtain ⟨rt, hrt⟩ : ∃ rt, IntKind.i64.wrap ((p1 : Int) + rg) = rt := ⟨_, rfl⟩
            go_wp2_with fail
            go_quiet (fail)
            go_wp2_with fail
            go_quiet (fail)
            go_wp2_with fail
            go_ret
            exact ⟨by rw [HRE.out]; rfl, by first | exact Hbx3.out | exact below_drewN' Hbx3.out _ | exact below_drewN' (below_drewN' Hbx3.out _) _ | exact below_drewN' (below_drewN' (below_drewN' Hbx3.out _) _) _⟩
          · by_cases h3 : rg < 0
            · have HRE : Hid (R = 1) := by
                show R = 1
                rw [HS2.out, if_pos (.inr (.inr (.inl h3)))]
              have e1 : decide (lf < 0) = false := decide_eq_false h1
              have e2 : decide ((p1 : Int) ≤ lf) = false := decide_eq_false h2
              have e3 : decide (rg < 0) = true := decide_eq_true h3
              clear HS2 Hkc HK Hp1
              obtain ⟨rt, hrt⟩ : ∃ rt, IntKind.i64.wrap ((p1 : Int) + rg) = rt := ⟨_, rfl⟩
              go_wp2_with fail
              go_quiet (fail)
              go_wp2_with fail
              go_quiet (fail)
              go_wp2_with fail
              go_ret
              exact ⟨by rw [HRE.out]; rfl, by first | exact Hbx3.out | exact below_drewN' Hbx3.out _ | exact below_drewN' (below_drewN' Hbx3.out _) _ | exact below_drewN' (below_drewN' (below_drewN' Hbx3.out _) _) _⟩
            · by_cases h4 : (p2 : Int) - (p1 : Int) ≤ rg
              · have HRE : Hid (R = 1) := by
                  show R = 1
                  rw [HS2.out, if_pos (.inr (.inr (.inr h4)))]
                have e1 : decide (lf < 0) = false := decide_eq_false h1
                have e2 : decide ((p1 : Int) ≤ lf) = false := decide_eq_false h2
                have e3 : decide (rg < 0) = false := decide_eq_false h3
                have e4 : decide ((p2 : Int) - (p1 : Int) ≤ rg) = true := decide_eq_true h4
                clear HS2 Hkc HK Hp1
                obtain ⟨rt, hrt⟩ : ∃ rt, IntKind.i64.wrap ((p1 : Int) + rg) = rt := ⟨_, rfl⟩
                go_wp2_with fail
                go_quiet (fail)
                go_wp2_with fail
                go_quiet (fail)
                go_wp2_with fail
                go_ret
                exact ⟨by rw [HRE.out]; rfl, by first | exact Hbx3.out | exact below_drewN' Hbx3.out _ | exact below_drewN' (below_drewN' Hbx3.out _) _ | exact below_drewN' (below_drewN' (below_drewN' Hbx3.out _) _) _⟩
              · have HS3 : Hid (R = if ks.flatten.getD lf.toNat 0 ≠ ks.flatten.getD (p1 + rg.toNat) 0 then 7
                    else joinsF ks.flatten pF p1 (ks.drop (j + 1)) (q.joins.drop (j + 1)) (st && decide (lf < (pF : Int))) (ch && decide ((p0 : Int) ≤ lf))) := by
                  show R = _
                  rw [HS2.out, if_neg (by omega)]
                obtain ⟨lN, rfl⟩ := Int.eq_ofNat_of_zero_le (show (0 : Int) ≤ lf by omega)
                obtain ⟨rN, rfl⟩ := Int.eq_ofNat_of_zero_le (show (0 : Int) ≤ rg by omega)
                have hlk : lN < ks.flatten.length := by rw [Hkn.out]; omega
                have hrk : p1 + rN < ks.flatten.length := by rw [Hkn.out]; omega
                obtain ⟨rt, hrt⟩ : ∃ rt, rt = p1 + rN := ⟨_, rfl⟩
                have hw1 : IntKind.i64.wrap ((p1 : Int) + (rN : Int)) = (rt : Int) := by rw [IntKind.wrap_i64, hrt]; omega
                obtain ⟨kb, ko, hKe, g0⟩ := Hkc.out lN hlk
                rw [← hrt] at hrk
                obtain ⟨kb1, ko1, hKe1, g1⟩ := Hkc.out rt hrk
                subst hKe
                obtain ⟨rfl, rfl⟩ : kb = kb1 ∧ ko = ko1 := by
                  have h9 := Option.some.inj hKe1
                  injection h9 with h91 h92
                  exact ⟨h91, h92⟩
                rw [Int.toNat_natCast, Int.toNat_natCast, ← hrt, List.getD_eq_getElem?_getD, List.getD_eq_getElem?_getD, List.getElem?_eq_getElem hlk, List.getElem?_eq_getElem hrk, Option.getD_some, Option.getD_some] at HS3
                have hrkn : rt < kn := by rw [← Hkn.out]; exact hrk
                have hlkn : lN < kn := by rw [← Hkn.out]; exact hlk
                generalize ks.flatten[lN] = kl at *
                generalize ks.flatten[rt] = kr at *
                have hrI : (rt : Int) < (kn : Int) := by omega
                have hrI0 : (0 : Int) ≤ (rt : Int) := by omega
                have hlI : (lN : Int) < (kn : Int) := by omega
                have hlI0 : (0 : Int) ≤ (lN : Int) := by omega
                have e1 : decide ((lN : Int) < 0) = false := decide_eq_false h1
                have e2 : decide ((p1 : Int) ≤ (lN : Int)) = false := decide_eq_false h2
                have e2' : decide (p1 ≤ lN) = false := decide_eq_false (by omega)
                have e3 : decide ((rN : Int) < 0) = false := decide_eq_false h3
                have e4 : decide ((p2 : Int) - (p1 : Int) ≤ (rN : Int)) = false := decide_eq_false h4
                have Hrt := Lib.hid hrt
                have h2' : ¬ p1 ≤ lN := by omega
                clear hrt hlk hrk hKe1 HS2 Hkc HK h2
                by_cases hkk : kl = kr
                · subst hkk
                  rw [if_neg (fun h => h rfl)] at HS3
                  cases st
                  · cases ch
                    · go_wp2_with fail
                      go_quiet (fail)
                      go_wp2_with fail
                      go_quiet (fail)
                      go_wp2_with fail
                      go_quiet (fail)
                      go_wp2_with fail
                      go_quiet (fail)
                      go_wp2_with fail
                      go_quiet (fail)
                      go_wp2_with fail
                      go_roundw
                      case rel => exact ⟨j + 1, _, _, rfl, rfl, by go_num, by omega, (by rw [HF1.out, HP1.out]; exact HS3), by first | exact Hbx4.out | exact below_drewN' Hbx4.out _ | exact below_drewN' (below_drewN' Hbx4.out _) _ | exact below_drewN' (below_drewN' (below_drewN' Hbx4.out _) _) _ | exact below_drewN' (below_drewN' (below_drewN' (below_drewN' Hbx4.out _) _) _) _ | exact below_drewN' (below_drewN' (below_drewN' (below_drewN' (below_drewN' Hbx4.out _) _) _) _) _⟩
                      case measure => simp [intOf]; omega
                    · by_cases h6 : p0 ≤ lN
                      · have e8 : decide ((p0 : Int) ≤ (lN : Int)) = true := decide_eq_true (by omega)
                        have e8' : decide (p0 ≤ lN) = true := decide_eq_true h6
                        rw [e8] at HS3
                        go_wp2_with fail
                        go_quiet (fail)
                        go_wp2_with fail
                        go_quiet (fail)
                        go_wp2_with fail
                        go_quiet (fail)
                        go_wp2_with fail
                        go_quiet (fail)
                        go_wp2_with fail
                        go_quiet (fail)
                        go_wp2_with fail
                        go_roundw
                        case rel => exact ⟨j + 1, _, _, rfl, rfl, by go_num, by omega, (by rw [HF1.out, HP1.out]; exact HS3), by first | exact Hbx4.out | exact below_drewN' Hbx4.out _ | exact below_drewN' (below_drewN' Hbx4.out _) _ | exact below_drewN' (below_drewN' (below_drewN' Hbx4.out _) _) _ | exact below_drewN' (below_drewN' (below_drewN' (below_drewN' Hbx4.out _) _) _) _ | exact below_drewN' (below_drewN' (below_drewN' (below_drewN' (below_drewN' Hbx4.out _) _) _) _) _⟩
                        case measure => simp [intOf]; omega
                      · have e8 : decide ((p0 : Int) ≤ (lN : Int)) = false := decide_eq_false (by omega)
                        have e8' : decide (p0 ≤ lN) = false := decide_eq_false h6
                        rw [e8] at HS3
                        go_wp2_with fail
                        go_quiet (fail)
                        go_wp2_with fail
                        go_quiet (fail)
                        go_wp2_with fail
                        go_quiet (fail)
                        go_wp2_with fail
                        go_quiet (fail)
                        go_wp2_with fail
                        go_quiet (fail)
                        go_wp2_with fail
                        go_roundw
                        case rel => exact ⟨j + 1, _, _, rfl, rfl, by go_num, by omega, (by rw [HF1.out, HP1.out]; exact HS3), by first | exact Hbx4.out | exact below_drewN' Hbx4.out _ | exact below_drewN' (below_drewN' Hbx4.out _) _ | exact below_drewN' (below_drewN' (below_drewN' Hbx4.out _) _) _ | exact below_drewN' (below_drewN' (below_drewN' (below_drewN' Hbx4.out _) _) _) _ | exact below_drewN' (below_drewN' (below_drewN' (below_drewN' (below_drewN' Hbx4.out _) _) _) _) _⟩
                        case measure => simp [intOf]; omega
                  · by_cases h5 : lN < pF
                    · have e7 : decide ((lN : Int) < (pF : Int)) = true := decide_eq_true (by omega)
                      have e7' : decide (lN < pF) = true := decide_eq_true h5
                      rw [e7] at HS3
                      cases ch
                      · go_wp2_with fail
                        go_quiet (fail)
                        go_wp2_with fail
                        go_quiet (fail)
                        go_wp2_with fail
                        go_quiet (fail)
                        go_wp2_with fail
                        go_quiet (fail)
                        go_wp2_with fail
                        go_quiet (fail)
                        go_wp2_with fail
                        go_roundw
                        case rel => exact ⟨j + 1, _, _, rfl, rfl, by go_num, by omega, (by rw [HF1.out, HP1.out]; exact HS3), by first | exact Hbx4.out | exact below_drewN' Hbx4.out _ | exact below_drewN' (below_drewN' Hbx4.out _) _ | exact below_drewN' (below_drewN' (below_drewN' Hbx4.out _) _) _ | exact below_drewN' (below_drewN' (below_drewN' (below_drewN' Hbx4.out _) _) _) _ | exact below_drewN' (below_drewN' (below_drewN' (below_drewN' (below_drewN' Hbx4.out _) _) _) _) _⟩
                        case measure => simp [intOf]; omega
                      · by_cases h6 : p0 ≤ lN
                        · have e8 : decide ((p0 : Int) ≤ (lN : Int)) = true := decide_eq_true (by omega)
                          have e8' : decide (p0 ≤ lN) = true := decide_eq_true h6
                          rw [e8] at HS3
                          go_wp2_with fail
                          go_quiet (fail)
                          go_wp2_with fail
                          go_quiet (fail)
                          go_wp2_with fail
                          go_quiet (fail)
                          go_wp2_with fail
                          go_quiet (fail)
                          go_wp2_with fail
                          go_quiet (fail)
                          go_wp2_with fail
                          go_roundw
                          case rel => exact ⟨j + 1, _, _, rfl, rfl, by go_num, by omega, (by rw [HF1.out, HP1.out]; exact HS3), by first | exact Hbx4.out | exact below_drewN' Hbx4.out _ | exact below_drewN' (below_drewN' Hbx4.out _) _ | exact below_drewN' (below_drewN' (below_drewN' Hbx4.out _) _) _ | exact below_drewN' (below_drewN' (below_drewN' (below_drewN' Hbx4.out _) _) _) _ | exact below_drewN' (below_drewN' (below_drewN' (below_drewN' (below_drewN' Hbx4.out _) _) _) _) _⟩
                          case measure => simp [intOf]; omega
                        · have e8 : decide ((p0 : Int) ≤ (lN : Int)) = false := decide_eq_false (by omega)
                          have e8' : decide (p0 ≤ lN) = false := decide_eq_false h6
                          rw [e8] at HS3
                          go_wp2_with fail
                          go_quiet (fail)
                          go_wp2_with fail
                          go_quiet (fail)
                          go_wp2_with fail
                          go_quiet (fail)
                          go_wp2_with fail
                          go_quiet (fail)
                          go_wp2_with fail
                          go_quiet (fail)
                          go_wp2_with fail
                          go_roundw
                          case rel => exact ⟨j + 1, _, _, rfl, rfl, by go_num, by omega, (by rw [HF1.out, HP1.out]; exact HS3), by first | exact Hbx4.out | exact below_drewN' Hbx4.out _ | exact below_drewN' (below_drewN' Hbx4.out _) _ | exact below_drewN' (below_drewN' (below_drewN' Hbx4.out _) _) _ | exact below_drewN' (below_drewN' (below_drewN' (below_drewN' Hbx4.out _) _) _) _ | exact below_drewN' (below_drewN' (below_drewN' (below_drewN' (below_drewN' Hbx4.out _) _) _) _) _⟩
                          case measure => simp [intOf]; omega
                    · have e7 : decide ((lN : Int) < (pF : Int)) = false := decide_eq_false (by omega)
                      have e7' : decide (lN < pF) = false := decide_eq_false h5
                      rw [e7] at HS3
                      cases ch
                      · go_wp2_with fail
                        go_quiet (fail)
                        go_wp2_with fail
                        go_quiet (fail)
                        go_wp2_with fail
                        go_quiet (fail)
                        go_wp2_with fail
                        go_quiet (fail)
                        go_wp2_with fail
                        go_quiet (fail)
                        go_wp2_with fail
                        go_roundw
                        case rel => exact ⟨j + 1, _, _, rfl, rfl, by go_num, by omega, (by rw [HF1.out, HP1.out]; exact HS3), by first | exact Hbx4.out | exact below_drewN' Hbx4.out _ | exact below_drewN' (below_drewN' Hbx4.out _) _ | exact below_drewN' (below_drewN' (below_drewN' Hbx4.out _) _) _ | exact below_drewN' (below_drewN' (below_drewN' (below_drewN' Hbx4.out _) _) _) _ | exact below_drewN' (below_drewN' (below_drewN' (below_drewN' (below_drewN' Hbx4.out _) _) _) _) _⟩
                        case measure => simp [intOf]; omega
                      · by_cases h6 : p0 ≤ lN
                        · have e8 : decide ((p0 : Int) ≤ (lN : Int)) = true := decide_eq_true (by omega)
                          have e8' : decide (p0 ≤ lN) = true := decide_eq_true h6
                          rw [e8] at HS3
                          go_wp2_with fail
                          go_quiet (fail)
                          go_wp2_with fail
                          go_quiet (fail)
                          go_wp2_with fail
                          go_quiet (fail)
                          go_wp2_with fail
                          go_quiet (fail)
                          go_wp2_with fail
                          go_quiet (fail)
                          go_wp2_with fail
                          go_roundw
                          case rel => exact ⟨j + 1, _, _, rfl, rfl, by go_num, by omega, (by rw [HF1.out, HP1.out]; exact HS3), by first | exact Hbx4.out | exact below_drewN' Hbx4.out _ | exact below_drewN' (below_drewN' Hbx4.out _) _ | exact below_drewN' (below_drewN' (below_drewN' Hbx4.out _) _) _ | exact below_drewN' (below_drewN' (below_drewN' (below_drewN' Hbx4.out _) _) _) _ | exact below_drewN' (below_drewN' (below_drewN' (below_drewN' (below_drewN' Hbx4.out _) _) _) _) _⟩
                          case measure => simp [intOf]; omega
                        · have e8 : decide ((p0 : Int) ≤ (lN : Int)) = false := decide_eq_false (by omega)
                          have e8' : decide (p0 ≤ lN) = false := decide_eq_false h6
                          rw [e8] at HS3
                          go_wp2_with fail
                          go_quiet (fail)
                          go_wp2_with fail
                          go_quiet (fail)
                          go_wp2_with fail
                          go_quiet (fail)
                          go_wp2_with fail
                          go_quiet (fail)
                          go_wp2_with fail
                          go_quiet (fail)
                          go_wp2_with fail
                          go_roundw
                          case rel => exact ⟨j + 1, _, _, rfl, rfl, by go_num, by omega, (by rw [HF1.out, HP1.out]; exact HS3), by first | exact Hbx4.out | exact below_drewN' Hbx4.out _ | exact below_drewN' (below_drewN' Hbx4.out _) _ | exact below_drewN' (below_drewN' (below_drewN' Hbx4.out _) _) _ | exact below_drewN' (below_drewN' (below_drewN' (below_drewN' Hbx4.out _) _) _) _ | exact below_drewN' (below_drewN' (below_drewN' (below_drewN' (below_drewN' Hbx4.out _) _) _) _) _⟩
                          case measure => simp [intOf]; omega
                · have e5 : (kl == kr) = false := by rw [beq_eq_false_iff_ne]; exact hkk
                  have e6 : (kl != kr) = true := by simpa using hkk
                  rw [if_pos hkk] at HS3
                  have HRE : Hid (R = 7) := HS3
                  clear HS3 hkk
                  go_wp2_with fail
                  go_quiet (fail)
                  go_wp2_with fail
                  go_quiet (fail)
                  go_wp2_with fail
                  go_quiet (fail)
                  go_wp2_with fail
                  go_ret
                  exact ⟨by rw [HRE.out]; rfl, by first | exact Hbx3.out | exact below_drewN' Hbx3.out _ | exact below_drewN' (below_drewN' Hbx3.out _) _ | exact below_drewN' (below_drewN' (below_drewN' Hbx3.out _) _) _⟩
      · obtain rfl : j = n1 := by omega
        have HRE := HJ.out
        rw [joins_end ks q.joins _ _ _ j st ch (by rw [Hq.out.l1]; exact Nat.le_refl _)] at HRE
        have HRF := Lib.hid HRE
        have Hfin := Lib.hid (HB3.out.trans (Hb.out.mono HB3.out.size))
        clear HRE HJ
        cases st <;> cases ch
        all_goals
          go_wp2_with fail
          go_ret
          exact ⟨by rw [HRF.out]; rfl, Hfin.out⟩
end Go.Proofs.YtheafcfbahdcfaaDoor
