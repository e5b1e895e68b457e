/- The walk of the reference's Take: by what would be put so. (Printed by gen_uah.py.) Walks: the reference's Words; ColumnTakes. (Printed by gen_uai.py.) -/
import Derived.Test.YtojppmnmhdgnnaaGreatMUFG
import Derived.Test.YtojppmnmhdgnnaaGreatMCoTW
import Derived.Test.YtojppmnmhdgnnaaGreatMTlEF
import Derived.Test.YtojppmnmhdgnnaaGreatMTkUW
import Derived.Test.YtojppmnmhdgnnaaGreatMTlG
import Derived.Test.YtojppmnmhdgnnaaGreatMDwK
import Derived.Test.YtojppmnmhdgnnaaGreatMJoMW
namespace Go.Proofs.YtojppmnmhdgnnaaGreat
set_option linter.unusedVariables false
set_option linter.unusedSimpArgs false
open Go.RowKit

attribute [local go_sem ↓] Go.wp_at_zero Go.wp_at_succ

theorem rtk_any (kind how : Int) (many : Nat) (b : List UInt8) (n c : Nat) (A : Option Addr) (w : World) (ho : OwnB w b A n c) (hm : many ≤ 4096) (hn : n ≤ 500000) :
    Calls Tryz.prog 23 #[.int .u8 kind, .int .u8 how, .slice A n c, .int .i64 (many : Int)] w fun e w' => RTkOK kind how many b w e w' := by
  by_cases h1 : how = 1
  · subst h1
    by_cases hk : kind = 3
    · exact rtk_texts kind many b n c A w hk ho hm
    · exact rtk_nums kind many b n c A w hk ho hm
  · by_cases h2 : how = 2
    · subst h2
      exact rtk_runs kind many b n c A w ho.1 ho.2.1.rd hn
    · by_cases h4 : how = 4
      · subst h4
        exact rtk_frame kind many b n c A w ho.1 ho.2.1.rd hn
      · by_cases h5 : how = 5
        · subst h5
          exact rtk_delta kind many b n c A w ho.1 ho.2.1.rd hn
        · exact rtk_dict kind how many b n c A w ⟨h1, h2, h4, h5⟩ ho.1 ho.2.1.rd hn ho.2.2.1 ho.2.2.2.1
theorem rvals_any (kind : Int) (t z : List Int) (x : List (List UInt8)) (tn tc zn zc xn xc : Nat) (T Z X : Option Addr) (w : World) (hkr : 0 ≤ kind ∧ kind ≤ 255) (htl : t.length = tn) (hzl : z.length = zn) (hxl : x.length = xn) (hrt : Rd w T (icl t)) (hrz : Rd w Z (icl z)) (hrx : Rd w X (wcl x)) (htn : tn ≤ 4096) (hzn : zn ≤ 4096) (hxn : xn ≤ 4096) :
    Calls Tryz.prog 24 #[.int .u8 kind, .slice T tn tc, .slice Z zn zc, .slice X xn xc] w fun e w' => JoinOK (joinF kind t z x) w e w' := by
  by_cases hk : kind = 3
  · exact rvals_texts kind t z x tn tc zn zc xn xc T Z X w hk hkr htl hzl hxl hrt hrz hrx htn hzn hxn
  · exact rvals_nums kind t z x tn tc zn zc xn xc T Z X w hk hkr htl hzl hxl hrt hrz hrx htn hzn hxn
/-- How many are there. -/
def cntM (l : List Int) : Nat := (l.filter fun t => decide (t ≠ 0)).length
theorem cnt_at {l : List Int} {j : Nat} (h : j < l.length) : cntM (l.take (j + 1)) = cntM (l.take j) + (if l[j] = 0 then 0 else 1) := by
  unfold cntM
  rw [List.take_succ_eq_append_getElem h, List.filter_append, List.length_append]
  congr 1
  rw [List.filter_cons]
  by_cases h0 : l[j] = 0
  · rw [h0]; rfl
  · rw [if_pos (decide_eq_true h0), if_neg h0]; rfl
theorem cnt_le (l : List Int) : cntM l ≤ l.length := List.length_filter_le _ _
theorem cnt_there : ∀ l : RowM, cntM (thereM l) = (someM l).length
  | [] => rfl
  | v :: l => by
    have ih := cnt_there l
    unfold cntM thereM someM at *
    rw [List.map_cons, List.filter_cons, List.filter_cons]
    by_cases h : v.k = 0
    · rw [if_pos h, if_neg (by simp), if_neg (by simp [h])]
      exact ih
    · rw [if_neg h, if_pos (by decide), if_pos (decide_eq_true h), List.length_cons, List.length_cons, ih]
theorem OwnX.room {w : World} {g o n c : Nat} {l : List UInt8} (hX : OwnX w 0 5 (some ⟨g, o, none⟩) n c (Bs l)) (hl : l.length = n) (hnc : n ≤ c) (hc : c ≤ 9223372036854775807) {k : Nat} (hk : k ≤ n) (q : Option Addr) (hq : if k = c then q = some ⟨g, o, none⟩ else q = some ⟨g, o + k, none⟩) :
    OwnB w (l.drop k) q (n - k) (c - k) := by
  refine ⟨by rw [List.length_drop, hl], ?_, by omega, by omega, .inr (by split at hq <;> exact ⟨_, _, hq⟩)⟩
  split at hq
  · rename_i hkc
    have hn : n = k := by omega
    subst hq
    have : l.drop k = [] := List.drop_eq_nil_of_le (by omega)
    have h4 := hX.dropAll
    have e1 : n - k = 0 := by omega
    have e2 : c - k = 0 := by omega
    rw [this, e1, e2]
    exact h4
  · subst hq
    have := hX.drop hk
    rw [← List.map_drop] at this
    exact this

set_option maxHeartbeats 32000000 in
set_option maxRecDepth 100000 in
theorem rctake_any (kind : Int) (b : List UInt8) (n c : Nat) (A : Option Addr) (w : World) (hk : 0 ≤ kind ∧ kind ≤ 255) (hl : b.length = n) (hr : Rd w A (Bs b)) (hn : n ≤ 500000) (hnc : n ≤ c) (hc : c ≤ 9223372036854775807) :
    Calls Tryz.prog 5 #[.int .u8 kind, .slice A n c] w fun e w' => CTakeOK kind b w e w' := by
  have hkd := Lib.hid (fun w' => rkind_any kind w')
  cases hko : kindOk kind
  · rw [hko] at hkd
    have Hko := Lib.hid hko
    clear hko hl hr
    go_enter Tryz.func5, Tryz.ntmps5
    go_wp2_with fail
    refine (hkd.out _).mono ?_
    rintro e w0 ⟨rfl, rfl⟩
    go_wp2_with fail
    go_ret3
    exact ⟨.inl ⟨Hko.out, rfl⟩, Below.refl _ _⟩
  · rw [hko] at hkd
    have Hko := Lib.hid hko
    clear hko
    cases b with
    | nil =>
      obtain rfl : 0 = n := hl
      have Hno : Hid (ctakeM kind [] = none) := rfl
      clear hr
      go_enter Tryz.func5, Tryz.ntmps5
      go_wp2_with fail
      refine (hkd.out _).mono ?_
      rintro e w0 ⟨rfl, rfl⟩
      go_wp2_with fail
      go_ret3
      exact ⟨.inr (.inl ⟨Hko.out, Hno.out, rfl⟩), Below.refl _ _⟩
    | cons f t =>
      obtain ⟨b', o, hAe, hr0⟩ := hr (by simp)
      subst hAe
      have c0 := hr0 0 _ (show (Bs (f :: t))[0]? = some (.int .u8 (f.toNat : Int)) from rfl)
      rw [Nat.add_zero] at c0
      have hf8 := f.toNat_lt
      have hn1 : 1 ≤ n := by rw [← hl]; simp
      have htl : t.length = n - 1 := by rw [← hl]; simp
      have hrt := Bs_end hr 1
      rw [List.drop_one, List.tail_cons] at hrt
      have hhow : howB (f :: t) = (f.toNat : Int) := rfl
      obtain ⟨how, hhw⟩ : ∃ how : Int, (f.toNat : Int) = how := ⟨_, rfl⟩
      rw [hhw] at c0 hhow
      have hh8 : 0 ≤ how ∧ how ≤ 255 := by omega
      -- what follows, if values were put so
      have Hcond : Hid (∀ l, ctakeM kind (f :: t) = some l → ∃ T X, takeNum t = some (T.length, T ++ X) ∧ runsB (thereM l) = T ∧ NumL (thereM l) ∧ ColC kind how (someM l).length X l ∧ cputM kind how l = (f :: t, how, 0)) := Lib.hid fun l h => by
        have hin := ctakeM_in hk h
        obtain ⟨-, hp, f', t', T, X, hb', htk, hT, hC⟩ := take_parts h hin
        rw [hhow] at hp hC
        injection hb' with _ hb'
        subst hb'
        exact ⟨T, X, htk, hT, thereL hin.1, hC, hp⟩
      have Hhow := Lib.hid hhow
      have Hl := Lib.hid hl
      have Hr := Lib.hid hr
      have Htl := Lib.hid htl
      have ho9 : Own (w.alloc (.cells #[] 5)) w.heap.size 5 1 (some ⟨w.heap.size, 0, none⟩) 0 0 [] := World.ownsRow_made w #[] 0 (Nat.le_refl _) (by unfold maxLen; omega) rfl
      have hb9 : Below w.heap.size w (w.alloc (.cells #[] 5)) := (Below.refl _ _).alloc (Nat.le_refl _) _
      have hrt9 := hrt.below hb9
      have c0' := Lib.hid (fun w' (hb : Below w.heap.size w w') => cell_keep hb c0)
      have hnI : ((n : Int) == 0) = false := by rw [beq_eq_false_iff_ne]; omega
      have h1c : (1 : Int) ≤ (c : Int) := by omega
      have h1n : (1 : Int) ≤ (n : Int) := by omega
      have hnw : (n : Int) - 1 = ((n - 1 : Nat) : Int) := by omega
      have hnn : n - 1 ≤ 500000 := by omega
      generalize hn' : n - 1 = n1 at *
      -- the tail, whatever room there is
      obtain ⟨q, hq, hrq⟩ : ∃ q : Option Addr, (if 1 = c then q = some ⟨b', o, none⟩ else q = some ⟨b', o + 1, none⟩) ∧ Rd (w.alloc (.cells #[] 5)) q (Bs t) := by
        by_cases hc1 : 1 = c
        · refine ⟨some ⟨b', o, none⟩, by rw [if_pos hc1], ?_⟩
          have : t = [] := List.eq_nil_of_length_eq_zero (by omega)
          rw [this]
          exact Rd.nil _ _
        · exact ⟨some ⟨b', o + 1, none⟩, by rw [if_neg hc1], hrt9⟩
      clear hl hr htl hrt hrt9 c0 hhow hhw hf8 hr0
      go_enter Tryz.func5, Tryz.ntmps5
      go_wp2_with fail
      refine (hkd.out _).mono ?_
      rintro e w0 ⟨rfl, rfl⟩
      clear hkd
      by_cases hc1 : 1 = c
      · rw [if_pos hc1] at hq
        subst hq
        subst hc1
        have ht0 : t = [] := List.eq_nil_of_length_eq_zero (by have := Htl.out; omega)
        subst ht0
        go_wp2_with (first | (at_builtin; refine hold ?_) | (at_make; refine hold ?_))
        (with_reducible refine unhold ?_)
        refine wpList_apd rfl _ _ _ rfl E8 w.heap.size _ 0 _ [] rfl ho9 _ n1 _ (Bs []) rfl (by rw [List.length_map, Htl.out, Nat.mul_one]) hrq (Bs_one []) n1 (Nat.zero_add _) (Bs []) rfl (by omega) (by omega) hb9.size ?_
        intro A1 c1 w1 ho1 hg1 _
        have hb1 : Below w.heap.size w w1 := hb9.grown hg1 hb9.size ho9.row_ge
        have hz1 := hb1.size
        have hrd1 := rrdr_made ho1 Htl.out
        have hbB : Below w1.heap.size w1 (w1.alloc (.cells #[.slice A1 n1 c1, .bool false] 51)) := (Below.refl _ _).alloc (Nat.le_refl _) _
        have Hb1 := Lib.hid (hb1.trans (hbB.mono hz1))
        have hpz := hrd1.lt
        have hnu := Lib.hid (rrdr_num w1.heap.size [] false _ hrd1)
        clear hb1 hbB hrd1 ho1 hb9 ho9 hg1 hrq
        go_wp2_with fail
        refine hnu.out.mono ?_
        clear hnu
        generalize (w1.alloc (.cells #[.slice A1 n1 c1, .bool false] 51)) = wn at *
        generalize w1.heap.size = p at *
        rintro e w2 ⟨⟨ht, rfl, hrd⟩ | ⟨m, u, ht, rfl, hrd⟩, hk'⟩
        · have Hno : Hid (ctakeM kind (f :: []) = none) := by
            show _ = _
            cases h : ctakeM kind (f :: []) with
            | none => rfl
            | some l =>
              exfalso
              obtain ⟨T, X, h1, -⟩ := Hcond.out l h
              rw [h1] at ht
              cases ht
          have f0 := hrd.cell 0
          have f1 := hrd.cell 1
          simp only [List.getElem?_cons_zero, List.getElem?_cons_succ] at f0 f1
          have Hb2 := Lib.hid (Hb1.out.trans (keeps_below hk' hz1 (Nat.le_of_lt hpz)))
          clear ht hrd hk' hpz
          go_wp2_with fail
          go_ret3
          exact ⟨.inr (.inl ⟨Hko.out, Hno.out, rfl⟩), by first | exact Hb2.out | exact below_drewN' Hb2.out _⟩
        · cases ht
      · rw [if_neg hc1] at hq
        subst hq
        have hc1I : ¬ (1 : Int) = (c : Int) := by omega
        go_wp2_with (first | (at_builtin; refine hold ?_) | (at_make; refine hold ?_))
        (with_reducible refine unhold ?_)
        refine wpList_apd rfl _ _ _ rfl E8 w.heap.size _ 0 _ [] rfl ho9 _ n1 _ (Bs t) rfl (by rw [List.length_map, Htl.out, Nat.mul_one]) hrq (Bs_one t) n1 (Nat.zero_add _) (Bs t) rfl (by omega) (by omega) hb9.size ?_
        intro A1 c1 w1 ho1 hg1 _
        have hb1 : Below w.heap.size w w1 := hb9.grown hg1 hb9.size ho9.row_ge
        have hz1 := hb1.size
        have hrd1 := rrdr_made ho1 Htl.out
        have hbB : Below w1.heap.size w1 (w1.alloc (.cells #[.slice A1 n1 c1, .bool false] 51)) := (Below.refl _ _).alloc (Nat.le_refl _) _
        have Hb1 := Lib.hid (hb1.trans (hbB.mono hz1))
        have hpz := hrd1.lt
        have hnu := Lib.hid (rrdr_num w1.heap.size t false _ hrd1)
        clear hb1 hbB hrd1 ho1 hb9 ho9 hg1 hrq
        go_wp2_with fail
        refine hnu.out.mono ?_
        clear hnu
        generalize (w1.alloc (.cells #[.slice A1 n1 c1, .bool false] 51)) = wn at *
        generalize w1.heap.size = p at *
        rintro e w2 ⟨⟨ht, rfl, hrd⟩ | ⟨m, u, ht, rfl, hrd⟩, hk'⟩
        · have Hno : Hid (ctakeM kind (f :: t) = none) := by
            show _ = _
            cases h : ctakeM kind (f :: t) with
            | none => rfl
            | some l =>
              exfalso
              obtain ⟨T, X, h1, -⟩ := Hcond.out l h
              rw [h1] at ht
              cases ht
          have f0 := hrd.cell 0
          have f1 := hrd.cell 1
          simp only [List.getElem?_cons_zero, List.getElem?_cons_succ] at f0 f1
          have Hb2 := Lib.hid (Hb1.out.trans (keeps_below hk' hz1 (Nat.le_of_lt hpz)))
          clear ht hrd hk' hpz
          go_wp2_with fail
          go_ret3
          exact ⟨.inr (.inl ⟨Hko.out, Hno.out, rfl⟩), by first | exact Hb2.out | exact below_drewN' Hb2.out _⟩
        · have hul := (takeNum_lt ht).2
          rw [Htl.out] at hul
          have hm64 := (takeNum_lt ht).1
          have Hb2 := Lib.hid (Hb1.out.trans (keeps_below hk' hz1 (Nat.le_of_lt hpz)))
          obtain ⟨At, nt, ct, hB, hX, hnt, hntc, hct, hAt⟩ := hrd
          have f0 := hB.cell 0
          have f1 := hB.cell 1
          simp only [List.getElem?_cons_zero, List.getElem?_cons_succ] at f0 f1
          have hu2 : ∀ l, ctakeM kind (f :: t) = some l → m ≤ nt ∧ runsB (thereM l) = u.take m ∧ NumL (thereM l) ∧ ColC kind how (someM l).length (u.drop m) l ∧ cputM kind how l = (f :: t, how, 0) := fun l h => by
            obtain ⟨T, X, h1, h2, h3, h4, h5⟩ := Hcond.out l h
            rw [ht] at h1
            injection h1 with h1
            injection h1 with h1 h6
            subst h6
            rw [List.length_append] at hnt
            refine ⟨by omega, ?_, h3, ?_, h5⟩
            · rw [h1, List.take_left, h2]
            · rw [h1, List.drop_left]
              exact h4
          have Hu2 := Lib.hid hu2
          clear hk' hpz ht hu2 Hcond
          by_cases hmu : nt < m
          · have Hno : Hid (ctakeM kind (f :: t) = none) := by
              show _ = _
              cases h : ctakeM kind (f :: t) with
              | none => rfl
              | some l =>
                exfalso
                have := (Hu2.out l h).1
                omega
            have hmI : (nt : Int) < (m : Int) := by omega
            have e1 : decide ((nt : Int) < (m : Int)) = true := decide_eq_true hmI
            clear hX hB hmu
            go_wp2_with fail
            go_ret3
            exact ⟨.inr (.inl ⟨Hko.out, Hno.out, rfl⟩), by first | exact Hb2.out | exact below_drewN' Hb2.out _⟩
          · have hmI : ¬ (nt : Int) < (m : Int) := by omega
            have e1 : decide ((nt : Int) < (m : Int)) = false := decide_eq_false hmI
            have hmc : (m : Int) ≤ (ct : Int) := by omega
            have hm0 : (0 : Int) ≤ (m : Int) := by omega
            have hmw : IntKind.i64.wrap (m : Int) = (m : Int) := by rw [IntKind.wrap_i64]; omega
            have htm : (u.take m).length = m := by rw [List.length_take]; omega
            have hro := Lib.hid (rruntake_any (u.take m) m ct At w2 htm (rdTake8 hX.rd m) (by omega))
            have HB := Lib.hid hB
            have HX := Lib.hid hX
            clear htm hB hX
            go_wp2_with fail
            refine hro.out.mono ?_
            rintro e w3 ⟨⟨hno, E, hE, rfl⟩ | ⟨TH, TA, td, hTN, hTe, rfl, hTR⟩, hb3⟩
            · have HnoR := Lib.hid hno
              have Hno : Hid (ctakeM kind (f :: t) = none) := by
                show _ = _
                cases h : ctakeM kind (f :: t) with
                | none => rfl
                | some l =>
                  exfalso
                  obtain ⟨-, h2, h3, -⟩ := Hu2.out l h
                  exact HnoR.out _ h3 (congrArg some h2)
              have hE1 : (E == 0) = false := by rw [beq_eq_false_iff_ne]; exact hE
              have hE2 : (E != 0) = true := by simpa using hE
              have Hb2' := Hb2
              have Hb3 := Lib.hid (Hb2.out.trans (hb3.mono Hb2.out.size))
              clear hro hno hb3
              go_wp2_with fail
              go_ret3
              exact ⟨.inr (.inl ⟨Hko.out, Hno.out, rfl⟩), Hb3.out⟩
            · have hTH : ∀ l, ctakeM kind (f :: t) = some l → TH = thereM l := fun l h => by
                obtain ⟨-, h2, h3, -⟩ := Hu2.out l h
                exact runs_inj hTN h3 (by rw [Option.some.inj hTe, h2])
              have HTH := Lib.hid hTH
              have Hb3 := Lib.hid (Hb2.out.trans (hb3.mono Hb2.out.size))
              have HB3 := Lib.hid (HB.out.below hb3)
              have HX3 := Lib.hid (HX.out.below hb3)
              have HTR := Lib.hid hTR
              have hT4 := hTN.1
              have Htin := Lib.hid hTN
              obtain ⟨tn, htn⟩ : ∃ tn, TH.length = tn := ⟨_, rfl⟩
              rw [htn] at hT4
              have Htn := Lib.hid htn
              rw [htn]
              clear hro hTH hTe hTN hb3 hTR htn HB HX f0 f1
              go_wp2_with fail
              go_loopw [11, 12] (fun vm vi wr => ∃ i : Nat, vm = .int .i64 ((cntM (TH.take i) : Nat) : Int) ∧ vi = .int .i64 i ∧ i ≤ tn ∧ Hid (wr = w3)) (fun _ vi _ => tn - (intOf vi).toNat)
              case atStart => exact ⟨0, rfl, rfl, by omega, by first | exact rfl | exact Lib.hid trivial⟩
              case round =>
                obtain ⟨i, rfl, rfl, hi, Hwr⟩ := hrel
                have hwr := Hwr.out
                subst hwr
                by_cases hin : i < tn
                · have hiI : (i : Int) < (tn : Int) := by omega
                  have hiI0 : (0 : Int) ≤ (i : Int) := by omega
                  have hil : i < TH.length := by rw [Htn.out]; exact hin
                  obtain ⟨tb, to_, hTe, x0⟩ := icl_get HTR.out hil
                  have hca := cnt_at hil
                  have hcl := cnt_le (TH.take i)
                  rw [List.length_take] at hcl
                  subst hTe
                  generalize TH[i] = tv at *
                  generalize cntM (TH.take i) = C at *
                  by_cases ht0 : tv = 0
                  · rw [if_pos ht0] at hca
                    have Hca : Hid (cntM (TH.take (i + 1)) = C) := hca
                    have z1 : (tv == 0) = true := by rw [ht0]; rfl
                    have z2 : (tv != 0) = false := by rw [ht0]; rfl
                    clear ht0 hca hil
                    go_wp2_with fail
                    go_roundw
                    case rel => exact ⟨i + 1, by rw [Hca.out], by go_num, by omega, by first | exact rfl | exact Lib.hid trivial⟩
                    case measure => simp only [intOf, Int.toNat_natCast]; omega
                  · rw [if_neg ht0] at hca
                    have Hca : Hid (cntM (TH.take (i + 1)) = C + 1) := hca
                    have z1 : (tv == 0) = false := by rw [beq_eq_false_iff_ne]; exact ht0
                    have z2 : (tv != 0) = true := by rw [bne_iff_ne]; exact ht0
                    clear ht0 hca hil
                    go_wp2_with fail
                    go_roundw
                    case rel => exact ⟨i + 1, by rw [Hca.out]; go_num, by go_num, by omega, by first | exact rfl | exact Lib.hid trivial⟩
                    case measure => simp only [intOf, Int.toNat_natCast]; omega
                · obtain rfl : i = tn := by omega
                  have hiI : ¬ (i : Int) < (i : Int) := by omega
                  have htk : TH.take i = TH := List.take_of_length_le (by rw [Htn.out]; exact Nat.le_refl _)
                  have hcl := cnt_le TH
                  rw [Htn.out] at hcl
                  have hcc : ∀ l, ctakeM kind (f :: t) = some l → cntM TH = (someM l).length := fun l h => by
                    rw [HTH.out l h, cnt_there]
                  have Hcc := Lib.hid hcc
                  rw [htk]
                  clear htk hcc
                  generalize cntM TH = C at *
                  have f0 := HB3.out.cell 0
                  simp only [List.getElem?_cons_zero, List.getElem?_cons_succ] at f0
                  have c0w := c0'.out wr Hb3.out
                  have hcn : (0 : Int) < (n : Int) := by omega
                  have hn0 : 0 < n := by omega
                  have hmnN : m ≤ nt := by omega
                  have Hcd : Hid (∀ l, ctakeM kind (f :: t) = some l → ColC kind how C (u.drop m) l) := Lib.hid fun l h => by
                    rw [Hcc.out l h]
                    exact (Hu2.out l h).2.2.2.1
                  -- the rest, whatever room there is
                  obtain ⟨q2, hq2, hoB⟩ : ∃ q2 : Option Addr, (if m = ct then q2 = At else ∃ g o, At = some ⟨g, o, none⟩ ∧ q2 = some ⟨g, o + m, none⟩) ∧ OwnB wr (u.drop m) q2 (nt - m) (ct - m) := by
                    rcases hAt with ⟨rfl, rfl⟩ | ⟨ga, oa, rfl⟩
                    · have hn0 : nt = 0 := by omega
                      have hm00 : m = 0 := by omega
                      have hu0 : u = [] := List.eq_nil_of_length_eq_zero (by omega)
                      subst hm00
                      subst hn0
                      refine ⟨none, by rw [if_pos rfl], ?_⟩
                      rw [hu0]
                      exact ⟨rfl, OwnX.nil _ _ _, Nat.le_refl _, by omega, .inl ⟨rfl, rfl⟩⟩
                    · by_cases hmc2 : m = ct
                      · exact ⟨_, by rw [if_pos hmc2], HX3.out.room hnt hntc hct (by omega) _ (by rw [if_pos hmc2])⟩
                      · exact ⟨some ⟨ga, oa + m, none⟩, by rw [if_neg hmc2]; exact ⟨_, _, rfl, rfl⟩, HX3.out.room hnt hntc hct (by omega) _ (by rw [if_neg hmc2])⟩
                  have htk2 := Lib.hid (rtk_any kind how C (u.drop m) (nt - m) (ct - m) q2 wr.drew hoB (by omega) (by omega))
                  have hmn : (m : Int) ≤ (nt : Int) := by omega
                  clear hoB HX3 HB3 hAt
                  by_cases hmc2 : m = ct
                  · rw [if_pos hmc2] at hq2
                    subst hq2
                    subst hmc2
                    have hz0 : nt - m = 0 := by omega
                    rw [hz0, Nat.sub_self] at htk2
                    go_wp2_with fail
                    refine wp_region_held_drew (S := fun w' => w'.cell? ⟨b', o, none⟩ = some (.int .u8 how) ∧ w'.cell? ⟨p, 0, none⟩ = some (.slice q2 nt m)) (by kernel_rfl) ⟨c0w, f0⟩ (fun hHeld => ?_)
                    (refine wpAnyH_take (i := 0) (oi := ?oi0_1) (v := ?vv0_1) ?hi0_1 (by kernel_rfl) (by kernel_rfl) (by kernel_rfl) ?hQ0_1 ?hy0_1 (by assumption) ?rest0_1; (case hi0_1 => ((simp only [List.getElem?_toArray, List.getElem?_cons_zero]); rfl)); (case hQ0_1 => exact (fun _ _ _ h => h)); (case hy0_1 => (refine Or.inl ⟨by rfl, ?_⟩; intro w hSw; (try dsimp only at hSw); go_simp; try (with_reducible rfl))); (try simp only [Act.put, List.setIfInBounds_toArray, List.set_cons_zero, List.set_cons_succ]))
                    (refine wpAnyH_take (i := 1) (oi := ?oi1_2) (v := ?vv1_2) ?hi1_2 (by kernel_rfl) (by kernel_rfl) (by kernel_rfl) ?hQ1_2 ?hy1_2 (by assumption) ?rest1_2; (case hi1_2 => ((simp only [List.getElem?_toArray, List.getElem?_cons_succ, List.getElem?_cons_zero]); rfl)); (case hQ1_2 => exact (fun _ _ _ h => h)); (case hy1_2 => (refine Or.inl ⟨by rfl, ?_⟩; intro w hSw; (try dsimp only at hSw); go_simp; try (with_reducible rfl))); (try simp only [Act.put, List.setIfInBounds_toArray, List.set_cons_zero, List.set_cons_succ]))
                    (refine wpAnyH_take (i := 2) (oi := ?oi2_3) (v := ?vv2_3) ?hi2_3 (by kernel_rfl) (by kernel_rfl) (by kernel_rfl) ?hQ2_3 ?hy2_3 (by assumption) ?rest2_3; (case hi2_3 => ((simp only [List.getElem?_toArray, List.getElem?_cons_succ, List.getElem?_cons_zero]); rfl)); (case hQ2_3 => exact (fun _ _ _ h => h)); (case hy2_3 => (refine Or.inl ⟨by rfl, ?_⟩; intro w hSw; (try dsimp only at hSw); go_simp; try (with_reducible rfl))); (try simp only [Act.put, List.setIfInBounds_toArray, List.set_cons_zero, List.set_cons_succ]))
                    (refine wpAnyH_take (i := 3) (oi := ?oi3_4) (v := ?vv3_4) ?hi3_4 (by kernel_rfl) (by kernel_rfl) (by kernel_rfl) ?hQ3_4 ?hy3_4 (by assumption) ?rest3_4; (case hi3_4 => ((simp only [List.getElem?_toArray, List.getElem?_cons_succ, List.getElem?_cons_zero]); rfl)); (case hQ3_4 => exact (fun _ _ _ h => h)); (case hy3_4 => (refine Or.inl ⟨by rfl, ?_⟩; intro w hSw; (try dsimp only at hSw); go_simp; try (with_reducible rfl))); (try simp only [Act.put, List.setIfInBounds_toArray, List.set_cons_zero, List.set_cons_succ]))
                    (refine wpAnyH_take (i := 4) (oi := ?oi4_5) (v := ?vv4_5) ?hi4_5 (by kernel_rfl) (by kernel_rfl) (by kernel_rfl) ?hQ4_5 ?hy4_5 (by assumption) ?rest4_5; (case hi4_5 => ((simp only [List.getElem?_toArray, List.getElem?_cons_succ, List.getElem?_cons_zero]); rfl)); (case hQ4_5 => exact (fun _ _ _ h => h)); (case hy4_5 => (refine Or.inl ⟨by rfl, ?_⟩; intro w hSw; (try dsimp only at hSw); go_simp; try (with_reducible rfl))); (try simp only [Act.put, List.setIfInBounds_toArray, List.set_cons_zero, List.set_cons_succ]))
                    (refine wpAnyH_take (i := 5) (oi := ?oi5_6) (v := ?vv5_6) ?hi5_6 (by kernel_rfl) (by kernel_rfl) (by kernel_rfl) ?hQ5_6 ?hy5_6 (by assumption) ?rest5_6; (case hi5_6 => ((simp only [List.getElem?_toArray, List.getElem?_cons_succ, List.getElem?_cons_zero]); rfl)); (case hQ5_6 => exact (fun _ _ _ h => h)); (case hy5_6 => (refine Or.inl ⟨by rfl, ?_⟩; intro w hSw; (try dsimp only at hSw); go_simp; try (with_reducible rfl))); (try simp only [Act.put, List.setIfInBounds_toArray, List.set_cons_zero, List.set_cons_succ]))
                    (refine wpAnyH_take (i := 6) (oi := ?oi6_7) (v := ?vv6_7) ?hi6_7 (by kernel_rfl) (by kernel_rfl) (by kernel_rfl) ?hQ6_7 ?hy6_7 (by assumption) ?rest6_7; (case hi6_7 => ((simp only [List.getElem?_toArray, List.getElem?_cons_succ, List.getElem?_cons_zero]); rfl)); (case hQ6_7 => exact (fun _ _ _ h => h)); (case hy6_7 => (refine Or.inl ⟨by rfl, ?_⟩; intro w hSw; (try dsimp only at hSw); go_simp; try (with_reducible rfl))); (try simp only [Act.put, List.setIfInBounds_toArray, List.set_cons_zero, List.set_cons_succ]))
                    (refine wpAnyH_take (i := 7) (oi := ?oi7_8) (v := ?vv7_8) ?hi7_8 (by kernel_rfl) (by kernel_rfl) (by kernel_rfl) ?hQ7_8 ?hy7_8 (by assumption) ?rest7_8; (case hi7_8 => ((simp only [List.getElem?_toArray, List.getElem?_cons_succ, List.getElem?_cons_zero]); rfl)); (case hQ7_8 => exact (fun _ _ _ h => h)); (case hy7_8 => (refine Or.inl ⟨by rfl, ?_⟩; intro w hSw; (try dsimp only at hSw); go_simp; try (with_reducible rfl))); (try simp only [Act.put, List.setIfInBounds_toArray, List.set_cons_zero, List.set_cons_succ]))
                    (refine wpAnyH_take (i := 8) (oi := ?oi8_9) (v := ?vv8_9) ?hi8_9 (by kernel_rfl) (by kernel_rfl) (by kernel_rfl) ?hQ8_9 ?hy8_9 (by assumption) ?rest8_9; (case hi8_9 => ((simp only [List.getElem?_toArray, List.getElem?_cons_succ, List.getElem?_cons_zero]); rfl)); (case hQ8_9 => exact (fun _ _ _ h => h)); (case hy8_9 => (refine Or.inl ⟨by rfl, ?_⟩; intro w hSw; (try dsimp only at hSw); go_simp; try (with_reducible rfl))); (try simp only [Act.put, List.setIfInBounds_toArray, List.set_cons_zero, List.set_cons_succ]))
                    (refine wpAnyH_take (i := 9) (oi := ?oi9_10) (v := ?vv9_10) ?hi9_10 (by kernel_rfl) (by kernel_rfl) (by kernel_rfl) ?hQ9_10 ?hy9_10 (by assumption) ?rest9_10; (case hi9_10 => ((simp only [List.getElem?_toArray, List.getElem?_cons_succ, List.getElem?_cons_zero]); rfl)); (case hQ9_10 => exact (fun _ _ _ h => h)); (case hy9_10 => (refine Or.inl ⟨by rfl, ?_⟩; intro w hSw; (try dsimp only at hSw); go_simp; try (with_reducible rfl))); (try simp only [Act.put, List.setIfInBounds_toArray, List.set_cons_zero, List.set_cons_succ]))
                    (refine wpAnyH_take (i := 10) (oi := ?oi10_11) (v := ?vv10_11) ?hi10_11 (by kernel_rfl) (by kernel_rfl) (by kernel_rfl) ?hQ10_11 ?hy10_11 (by assumption) ?rest10_11; (case hi10_11 => ((simp only [List.getElem?_toArray, List.getElem?_cons_succ, List.getElem?_cons_zero]); rfl)); (case hQ10_11 => exact (fun _ _ _ h => h)); (case hy10_11 => (refine Or.inl ⟨by rfl, ?_⟩; intro w hSw; (try dsimp only at hSw); go_simp; try (with_reducible rfl))); (try simp only [Act.put, List.setIfInBounds_toArray, List.set_cons_zero, List.set_cons_succ]))
                    (refine wpAnyH_ready (rs := [11]) (by kernel_rfl) (by simp) ?_; refine AllReadyH.cons (o := ?oc11_12) ?ho11_12 (fun K hK => ?_) AllReadyH.nil; (case ho11_12 => ((simp only [List.getElem?_toArray, List.getElem?_cons_succ, List.getElem?_cons_zero]); rfl)); go_simp)
                    refine htk2.out.mono ?_
                    rintro e w4 ⟨⟨N, X, A1', d1, A2', d2, ok, rfl, hRN, hRX, hNL, hXL, hcd⟩, hb4⟩
                    have hb4' : Below wr.drew.heap.size wr.drew w4 := hb4
                    have hb40 : Below wr.heap.size wr w4 := (show Below wr.heap.size wr wr.drew from (Below.refl _ _).drew).trans hb4'
                    have hS4 := And.intro (cell_keep hb40 c0w) (cell_keep hb40 f0)
                    have Hb4 := Lib.hid (Hb3.out.trans (hb40.mono Hb3.out.size))
                    clear hb4'
                    go_wp2_with fail
                    refine hK.out _ _ hS4 (fun hHeld2 => ?_)
                    clear hK
                    (try simp only [Act.put, List.setIfInBounds_toArray, List.set_cons_zero, List.set_cons_succ])
                    (refine wpAnyH_take (i := 12) (oi := ?oi12_13) (v := ?vv12_13) ?hi12_13 (by kernel_rfl) (by kernel_rfl) (by kernel_rfl) ?hQ12_13 ?hy12_13 (by assumption) ?rest12_13; (case hi12_13 => ((simp only [List.getElem?_toArray, List.getElem?_cons_succ, List.getElem?_cons_zero]); rfl)); (case hQ12_13 => exact (fun _ _ _ h => h)); (case hy12_13 => (refine Or.inl ⟨by rfl, ?_⟩; intro w hSw; (try dsimp only at hSw); go_simp; try (with_reducible rfl))); (try simp only [Act.put, List.setIfInBounds_toArray, List.set_cons_zero, List.set_cons_succ]))
                    (refine wpAnyH_take (i := 13) (oi := ?oi13_14) (v := ?vv13_14) ?hi13_14 (by kernel_rfl) (by kernel_rfl) (by kernel_rfl) ?hQ13_14 ?hy13_14 (by assumption) ?rest13_14; (case hi13_14 => ((simp only [List.getElem?_toArray, List.getElem?_cons_succ, List.getElem?_cons_zero]); rfl)); (case hQ13_14 => exact (fun _ _ _ h => h)); (case hy13_14 => (refine Or.inl ⟨by rfl, ?_⟩; intro w hSw; (try dsimp only at hSw); go_simp; try (with_reducible rfl))); (try simp only [Act.put, List.setIfInBounds_toArray, List.set_cons_zero, List.set_cons_succ]))
                    (refine wpAnyH_take (i := 14) (oi := ?oi14_15) (v := ?vv14_15) ?hi14_15 (by kernel_rfl) (by kernel_rfl) (by kernel_rfl) ?hQ14_15 ?hy14_15 (by assumption) ?rest14_15; (case hi14_15 => ((simp only [List.getElem?_toArray, List.getElem?_cons_succ, List.getElem?_cons_zero]); rfl)); (case hQ14_15 => exact (fun _ _ _ h => h)); (case hy14_15 => (refine Or.inl ⟨by rfl, ?_⟩; intro w hSw; (try dsimp only at hSw); go_simp; try (with_reducible rfl))); (try simp only [Act.put, List.setIfInBounds_toArray, List.set_cons_zero, List.set_cons_succ]))
                    (refine wpAnyH_take (i := 15) (oi := ?oi15_16) (v := ?vv15_16) ?hi15_16 (by kernel_rfl) (by kernel_rfl) (by kernel_rfl) ?hQ15_16 ?hy15_16 (by assumption) ?rest15_16; (case hi15_16 => ((simp only [List.getElem?_toArray, List.getElem?_cons_succ, List.getElem?_cons_zero]); rfl)); (case hQ15_16 => exact (fun _ _ _ h => h)); (case hy15_16 => (refine Or.inl ⟨by rfl, ?_⟩; intro w hSw; (try dsimp only at hSw); go_simp; try (with_reducible rfl))); (try simp only [Act.put, List.setIfInBounds_toArray, List.set_cons_zero, List.set_cons_succ]))
                    (refine wpAnyH_take (i := 16) (oi := ?oi16_17) (v := ?vv16_17) ?hi16_17 (by kernel_rfl) (by kernel_rfl) (by kernel_rfl) ?hQ16_17 ?hy16_17 (by assumption) ?rest16_17; (case hi16_17 => ((simp only [List.getElem?_toArray, List.getElem?_cons_succ, List.getElem?_cons_zero]); rfl)); (case hQ16_17 => exact (fun _ _ _ h => h)); (case hy16_17 => (refine Or.inl ⟨by rfl, ?_⟩; intro w hSw; (try dsimp only at hSw); go_simp; try (with_reducible rfl))); (try simp only [Act.put, List.setIfInBounds_toArray, List.set_cons_zero, List.set_cons_succ]))
                    (refine wpAnyH_take (i := 17) (oi := ?oi17_18) (v := ?vv17_18) ?hi17_18 (by kernel_rfl) (by kernel_rfl) (by kernel_rfl) ?hQ17_18 ?hy17_18 (by assumption) ?rest17_18; (case hi17_18 => ((simp only [List.getElem?_toArray, List.getElem?_cons_succ, List.getElem?_cons_zero]); rfl)); (case hQ17_18 => exact (fun _ _ _ h => h)); (case hy17_18 => (refine Or.inl ⟨by rfl, ?_⟩; intro w hSw; (try dsimp only at hSw); go_simp; try (with_reducible rfl))); (try simp only [Act.put, List.setIfInBounds_toArray, List.set_cons_zero, List.set_cons_succ]))
                    (refine wpAnyH_take (i := 18) (oi := ?oi18_19) (v := ?vv18_19) ?hi18_19 (by kernel_rfl) (by kernel_rfl) (by kernel_rfl) ?hQ18_19 ?hy18_19 (by assumption) ?rest18_19; (case hi18_19 => ((simp only [List.getElem?_toArray, List.getElem?_cons_succ, List.getElem?_cons_zero]); rfl)); (case hQ18_19 => exact (fun _ _ _ h => h)); (case hy18_19 => (refine Or.inl ⟨by rfl, ?_⟩; intro w hSw; (try dsimp only at hSw); go_simp; try (with_reducible rfl))); (try simp only [Act.put, List.setIfInBounds_toArray, List.set_cons_zero, List.set_cons_succ]))
                    refine wpAnyH_done (by kernel_rfl) ?_ _
                    clear hHeld hHeld2 hS4
                    cases ok
                    · have Hno : Hid (ctakeM kind (f :: t) = none) := by
                        show _ = _
                        cases h : ctakeM kind (f :: t) with
                        | none => rfl
                        | some l =>
                          exfalso
                          have h9 := (hcd l (Hcd.out l h)).1
                          cases h9
                      clear htk2 hRN hRX hcd hb4 hb40
                      go_wp2_with fail
                      go_ret3
                      exact ⟨.inr (.inl ⟨Hko.out, Hno.out, rfl⟩), Hb4.out⟩
                    · have Hnt : Hid (∀ l, ctakeM kind (f :: t) = some l → joinF kind TH N X = some l) := Lib.hid fun l h => by
                        obtain ⟨-, h1, h2⟩ := hcd l (Hcd.out l h)
                        have h3 := join_round (kind := kind) (by intro h0; rw [h0] at Hko; exact absurd Hko.out (by decide)) l (Hcd.out l h).all
                        rw [HTH.out l h, h1, h2]
                        unfold NT
                        by_cases hk3 : kind = 3
                        · rw [if_pos hk3] at h3 ⊢
                          rw [if_pos hk3] at h3
                          exact h3
                        · rw [if_neg hk3] at h3 ⊢
                          rw [if_neg hk3] at h3
                          exact h3
                      obtain ⟨nn, hnn2⟩ : ∃ nn, N.length = nn := ⟨_, rfl⟩
                      obtain ⟨xn, hxn⟩ : ∃ xn, X.length = xn := ⟨_, rfl⟩
                      have hva := Lib.hid (rvals_any kind TH N X i td nn d1 xn d2 TA A1' A2' w4 hk Htn.out hnn2 hxn (HTR.out.below hb40) hRN hRX hT4 (by rw [← hnn2]; exact hNL.1) (by rw [← hxn]; exact hXL.1))
                      have Hin : Hid (∀ L, joinF kind TH N X = some L → L.length = TH.length ∧ ∀ v ∈ L, v.ok) := Lib.hid fun L h => joinF_in kind hk TH N X L h hNL.2 hXL.2
                      rw [hnn2, hxn]
                      clear htk2 hRN hRX hcd hNL hXL hb4 hb40 hnn2 hxn
                      go_wp2_with fail
                      refine hva.out.mono ?_
                      rintro e w5 ⟨⟨hM, rfl⟩ | ⟨L, LA, d, hM, rfl, hLR⟩, hb5⟩
                      · have HM := Lib.hid hM
                        have Hno : Hid (ctakeM kind (f :: t) = none) := by
                          show _ = _
                          cases h : ctakeM kind (f :: t) with
                          | none => rfl
                          | some l =>
                            exfalso
                            have h9 := Hnt.out l h
                            rw [HM.out] at h9
                            cases h9
                        have Hb5 := Lib.hid (Hb4.out.trans (hb5.mono Hb4.out.size))
                        clear hva hM hb5
                        go_wp2_with fail
                        go_ret3
                        exact ⟨.inr (.inl ⟨Hko.out, Hno.out, rfl⟩), Hb5.out⟩
                      · obtain ⟨hLl, hLok⟩ := Hin.out L hM
                        rw [Htn.out] at hLl
                        have HM := Lib.hid hM
                        have HLl := Lib.hid hLl
                        have HLok := Lib.hid hLok
                        have HLR := Lib.hid hLR
                        have Hb5 := Lib.hid (Hb4.out.trans (hb5.mono Hb4.out.size))
                        have c0x := c0'.out w5 Hb5.out
                        have hpu := Lib.hid (rputc_any kind how L i d LA w5 hLl hLR hT4 hLok hk hh8)
                        obtain ⟨P, hP⟩ : ∃ P, cputM kind how L = P := ⟨_, rfl⟩
                        have HP := Lib.hid hP
                        unfold CPutOK at hpu
                        rw [hP] at hpu
                        obtain ⟨PB, PU, PE⟩ := P
                        dsimp only at hpu
                        obtain ⟨pl, hpl⟩ : ∃ pl, PB.length = pl := ⟨_, rfl⟩
                        rw [hpl] at hpu
                        rw [hLl]
                        clear hva hM hb5 hLl hLok hLR hP
                        go_wp2_with fail
                        refine hpu.out.mono ?_
                        rintro e w6 ⟨⟨CA, cc, rfl, hoC⟩, hb6⟩
                        have hb6' := Hb5.out.trans (hb6.mono Hb5.out.size)
                        have Hb6 := Lib.hid hb6'
                        have HLR6 := Lib.hid (HLR.out.below hb6)
                        have c0y := c0'.out w6 hb6'
                        have hcv1 := fun dd => run_str (w6.drewN dd) CA PB pl cc hpl (hoC.rd.drewN dd)
                        have hcv1' := run_str w6 CA PB pl cc hpl hoC.rd
                        have hcv2 := fun dd => run_str (w6.drewN dd) (some ⟨b', o, none⟩) (f :: t) n c Hl.out ((Hr.out.below hb6').drewN dd)
                        have hcv2' := run_str w6 (some ⟨b', o, none⟩) (f :: t) n c Hl.out (Hr.out.below hb6')
                        have hcq := St8_cmp PB (f :: t)
                        clear hpu hoC hb6 hb6' hpl
                        by_cases hE : PE = 0
                        · have z1 : (PE == 0) = true := by rw [hE]; rfl
                          have z2 : (PE != 0) = false := by rw [hE]; rfl
                          by_cases hU : PU = how
                          · have z3 : (PU == how) = true := by rw [hU]; exact beq_self_eq_true _
                            have z4 : (PU != how) = false := by rw [hU]; simp
                            by_cases hBB : PB = f :: t
                            · rw [decide_eq_true hBB] at hcq
                              have Hyes : Hid (ctakeM kind (f :: t) = some L) := by
                                show _ = _
                                refine (take_of_put (b := f :: t) ?_ (nums_ok HLok.out) (by rw [HLl.out]; exact hT4)).2
                                rw [Hhow.out, HP.out, hE, hU, hBB]
                              have HU := Lib.hid hU
                              clear hE hU hBB
                              go_wp2_with fail
                              try (go_quiet (fail); go_wp2_with fail)
                              go_ret3
                              exact ⟨.inr (.inr ⟨L, LA, d, Hko.out, Hyes.out, by rw [HLl.out, Hhow.out, ← HU.out]; rfl, (by first | exact HLR6.out | exact HLR6.out.drewN _)⟩), (by first | exact Hb6.out | exact below_drewN' Hb6.out _)⟩
                            · rw [decide_eq_false hBB] at hcq
                              have hcn1 : (!((St8 PB).toList == (St8 (f :: t)).toList)) = true := by rw [hcq]; rfl
                              have hcn2 : ((St8 PB).toList != (St8 (f :: t)).toList) = true := by rw [bne, hcq]; rfl
                              have Hno : Hid (ctakeM kind (f :: t) = none) := by
                                show _ = _
                                cases h : ctakeM kind (f :: t) with
                                | none => rfl
                                | some l =>
                                  exfalso
                                  obtain ⟨-, -, -, -, h9⟩ := Hu2.out l h
                                  have h8 := Hnt.out l h
                                  rw [HM.out] at h8
                                  obtain rfl := Option.some.inj h8
                                  rw [HP.out] at h9
                                  injection h9 with h91 h92
                                  injection h92 with h92 h93
                                  exact hBB h91
                              clear hE hU hBB
                              go_wp2_with fail
                              try (go_quiet (fail); go_wp2_with fail)
                              go_ret3
                              exact ⟨.inr (.inl ⟨Hko.out, Hno.out, rfl⟩), Hb6.out⟩
                          · have z3 : (PU == how) = false := by rw [beq_eq_false_iff_ne]; exact hU
                            have z4 : (PU != how) = true := by rw [bne_iff_ne]; exact hU
                            have Hno : Hid (ctakeM kind (f :: t) = none) := by
                              show _ = _
                              cases h : ctakeM kind (f :: t) with
                              | none => rfl
                              | some l =>
                                exfalso
                                obtain ⟨-, -, -, -, h9⟩ := Hu2.out l h
                                have h8 := Hnt.out l h
                                rw [HM.out] at h8
                                obtain rfl := Option.some.inj h8
                                rw [HP.out] at h9
                                injection h9 with h91 h92
                                injection h92 with h92 h93
                                exact hU h92
                            clear hE hU
                            go_wp2_with fail
                            try (go_quiet (fail); go_wp2_with fail)
                            go_ret3
                            exact ⟨.inr (.inl ⟨Hko.out, Hno.out, rfl⟩), Hb6.out⟩
                        · have z1 : (PE == 0) = false := by rw [beq_eq_false_iff_ne]; exact hE
                          have z2 : (PE != 0) = true := by rw [bne_iff_ne]; exact hE
                          have Hno : Hid (ctakeM kind (f :: t) = none) := by
                            show _ = _
                            cases h : ctakeM kind (f :: t) with
                            | none => rfl
                            | some l =>
                              exfalso
                              obtain ⟨-, -, -, -, h9⟩ := Hu2.out l h
                              have h8 := Hnt.out l h
                              rw [HM.out] at h8
                              obtain rfl := Option.some.inj h8
                              rw [HP.out] at h9
                              injection h9 with h91 h92
                              injection h92 with h92 h93
                              exact hE h93
                          clear hE
                          go_wp2_with fail
                          try (go_quiet (fail); go_wp2_with fail)
                          go_ret3
                          exact ⟨.inr (.inl ⟨Hko.out, Hno.out, rfl⟩), Hb6.out⟩
                  · rw [if_neg hmc2] at hq2
                    obtain ⟨ga, oa, rfl, rfl⟩ := hq2
                    have hmcI : ¬ (m : Int) = (ct : Int) := by omega
                    have hmc3 : ¬ ct = m := fun h => hmc2 h.symm
                    go_wp2_with fail
                    refine wp_region_held_drew (S := fun w' => w'.cell? ⟨b', o, none⟩ = some (.int .u8 how) ∧ w'.cell? ⟨p, 0, none⟩ = some (.slice (some ⟨ga, oa, none⟩) nt ct)) (by kernel_rfl) ⟨c0w, f0⟩ (fun hHeld => ?_)
                    (refine wpAnyH_take (i := 0) (oi := ?oi0_20) (v := ?vv0_20) ?hi0_20 (by kernel_rfl) (by kernel_rfl) (by kernel_rfl) ?hQ0_20 ?hy0_20 (by assumption) ?rest0_20; (case hi0_20 => ((simp only [List.getElem?_toArray, List.getElem?_cons_zero]); rfl)); (case hQ0_20 => exact (fun _ _ _ h => h)); (case hy0_20 => (refine Or.inl ⟨by rfl, ?_⟩; intro w hSw; (try dsimp only at hSw); go_simp; try (with_reducible rfl))); (try simp only [Act.put, List.setIfInBounds_toArray, List.set_cons_zero, List.set_cons_succ]))
                    (refine wpAnyH_take (i := 1) (oi := ?oi1_21) (v := ?vv1_21) ?hi1_21 (by kernel_rfl) (by kernel_rfl) (by kernel_rfl) ?hQ1_21 ?hy1_21 (by assumption) ?rest1_21; (case hi1_21 => ((simp only [List.getElem?_toArray, List.getElem?_cons_succ, List.getElem?_cons_zero]); rfl)); (case hQ1_21 => exact (fun _ _ _ h => h)); (case hy1_21 => (refine Or.inl ⟨by rfl, ?_⟩; intro w hSw; (try dsimp only at hSw); go_simp; try (with_reducible rfl))); (try simp only [Act.put, List.setIfInBounds_toArray, List.set_cons_zero, List.set_cons_succ]))
                    (refine wpAnyH_take (i := 2) (oi := ?oi2_22) (v := ?vv2_22) ?hi2_22 (by kernel_rfl) (by kernel_rfl) (by kernel_rfl) ?hQ2_22 ?hy2_22 (by assumption) ?rest2_22; (case hi2_22 => ((simp only [List.getElem?_toArray, List.getElem?_cons_succ, List.getElem?_cons_zero]); rfl)); (case hQ2_22 => exact (fun _ _ _ h => h)); (case hy2_22 => (refine Or.inl ⟨by rfl, ?_⟩; intro w hSw; (try dsimp only at hSw); go_simp; try (with_reducible rfl))); (try simp only [Act.put, List.setIfInBounds_toArray, List.set_cons_zero, List.set_cons_succ]))
                    (refine wpAnyH_take (i := 3) (oi := ?oi3_23) (v := ?vv3_23) ?hi3_23 (by kernel_rfl) (by kernel_rfl) (by kernel_rfl) ?hQ3_23 ?hy3_23 (by assumption) ?rest3_23; (case hi3_23 => ((simp only [List.getElem?_toArray, List.getElem?_cons_succ, List.getElem?_cons_zero]); rfl)); (case hQ3_23 => exact (fun _ _ _ h => h)); (case hy3_23 => (refine Or.inl ⟨by rfl, ?_⟩; intro w hSw; (try dsimp only at hSw); go_simp; try (with_reducible rfl))); (try simp only [Act.put, List.setIfInBounds_toArray, List.set_cons_zero, List.set_cons_succ]))
                    (refine wpAnyH_take (i := 4) (oi := ?oi4_24) (v := ?vv4_24) ?hi4_24 (by kernel_rfl) (by kernel_rfl) (by kernel_rfl) ?hQ4_24 ?hy4_24 (by assumption) ?rest4_24; (case hi4_24 => ((simp only [List.getElem?_toArray, List.getElem?_cons_succ, List.getElem?_cons_zero]); rfl)); (case hQ4_24 => exact (fun _ _ _ h => h)); (case hy4_24 => (refine Or.inl ⟨by rfl, ?_⟩; intro w hSw; (try dsimp only at hSw); go_simp; try (with_reducible rfl))); (try simp only [Act.put, List.setIfInBounds_toArray, List.set_cons_zero, List.set_cons_succ]))
                    (refine wpAnyH_take (i := 5) (oi := ?oi5_25) (v := ?vv5_25) ?hi5_25 (by kernel_rfl) (by kernel_rfl) (by kernel_rfl) ?hQ5_25 ?hy5_25 (by assumption) ?rest5_25; (case hi5_25 => ((simp only [List.getElem?_toArray, List.getElem?_cons_succ, List.getElem?_cons_zero]); rfl)); (case hQ5_25 => exact (fun _ _ _ h => h)); (case hy5_25 => (refine Or.inl ⟨by rfl, ?_⟩; intro w hSw; (try dsimp only at hSw); go_simp; try (with_reducible rfl))); (try simp only [Act.put, List.setIfInBounds_toArray, List.set_cons_zero, List.set_cons_succ]))
                    (refine wpAnyH_take (i := 6) (oi := ?oi6_26) (v := ?vv6_26) ?hi6_26 (by kernel_rfl) (by kernel_rfl) (by kernel_rfl) ?hQ6_26 ?hy6_26 (by assumption) ?rest6_26; (case hi6_26 => ((simp only [List.getElem?_toArray, List.getElem?_cons_succ, List.getElem?_cons_zero]); rfl)); (case hQ6_26 => exact (fun _ _ _ h => h)); (case hy6_26 => (refine Or.inl ⟨by rfl, ?_⟩; intro w hSw; (try dsimp only at hSw); go_simp; try (with_reducible rfl))); (try simp only [Act.put, List.setIfInBounds_toArray, List.set_cons_zero, List.set_cons_succ]))
                    (refine wpAnyH_take (i := 7) (oi := ?oi7_27) (v := ?vv7_27) ?hi7_27 (by kernel_rfl) (by kernel_rfl) (by kernel_rfl) ?hQ7_27 ?hy7_27 (by assumption) ?rest7_27; (case hi7_27 => ((simp only [List.getElem?_toArray, List.getElem?_cons_succ, List.getElem?_cons_zero]); rfl)); (case hQ7_27 => exact (fun _ _ _ h => h)); (case hy7_27 => (refine Or.inl ⟨by rfl, ?_⟩; intro w hSw; (try dsimp only at hSw); go_simp; try (with_reducible rfl))); (try simp only [Act.put, List.setIfInBounds_toArray, List.set_cons_zero, List.set_cons_succ]))
                    (refine wpAnyH_take (i := 8) (oi := ?oi8_28) (v := ?vv8_28) ?hi8_28 (by kernel_rfl) (by kernel_rfl) (by kernel_rfl) ?hQ8_28 ?hy8_28 (by assumption) ?rest8_28; (case hi8_28 => ((simp only [List.getElem?_toArray, List.getElem?_cons_succ, List.getElem?_cons_zero]); rfl)); (case hQ8_28 => exact (fun _ _ _ h => h)); (case hy8_28 => (refine Or.inl ⟨by rfl, ?_⟩; intro w hSw; (try dsimp only at hSw); go_simp; try (with_reducible rfl))); (try simp only [Act.put, List.setIfInBounds_toArray, List.set_cons_zero, List.set_cons_succ]))
                    (refine wpAnyH_take (i := 9) (oi := ?oi9_29) (v := ?vv9_29) ?hi9_29 (by kernel_rfl) (by kernel_rfl) (by kernel_rfl) ?hQ9_29 ?hy9_29 (by assumption) ?rest9_29; (case hi9_29 => ((simp only [List.getElem?_toArray, List.getElem?_cons_succ, List.getElem?_cons_zero]); rfl)); (case hQ9_29 => exact (fun _ _ _ h => h)); (case hy9_29 => (refine Or.inl ⟨by rfl, ?_⟩; intro w hSw; (try dsimp only at hSw); go_simp; try (with_reducible rfl))); (try simp only [Act.put, List.setIfInBounds_toArray, List.set_cons_zero, List.set_cons_succ]))
                    (refine wpAnyH_take (i := 10) (oi := ?oi10_30) (v := ?vv10_30) ?hi10_30 (by kernel_rfl) (by kernel_rfl) (by kernel_rfl) ?hQ10_30 ?hy10_30 (by assumption) ?rest10_30; (case hi10_30 => ((simp only [List.getElem?_toArray, List.getElem?_cons_succ, List.getElem?_cons_zero]); rfl)); (case hQ10_30 => exact (fun _ _ _ h => h)); (case hy10_30 => (refine Or.inl ⟨by rfl, ?_⟩; intro w hSw; (try dsimp only at hSw); go_simp; try (with_reducible rfl))); (try simp only [Act.put, List.setIfInBounds_toArray, List.set_cons_zero, List.set_cons_succ]))
                    (refine wpAnyH_ready (rs := [11]) (by kernel_rfl) (by simp) ?_; refine AllReadyH.cons (o := ?oc11_31) ?ho11_31 (fun K hK => ?_) AllReadyH.nil; (case ho11_31 => ((simp only [List.getElem?_toArray, List.getElem?_cons_succ, List.getElem?_cons_zero]); rfl)); go_simp)
                    refine htk2.out.mono ?_
                    rintro e w4 ⟨⟨N, X, A1', d1, A2', d2, ok, rfl, hRN, hRX, hNL, hXL, hcd⟩, hb4⟩
                    have hb4' : Below wr.drew.heap.size wr.drew w4 := hb4
                    have hb40 : Below wr.heap.size wr w4 := (show Below wr.heap.size wr wr.drew from (Below.refl _ _).drew).trans hb4'
                    have hS4 := And.intro (cell_keep hb40 c0w) (cell_keep hb40 f0)
                    have Hb4 := Lib.hid (Hb3.out.trans (hb40.mono Hb3.out.size))
                    clear hb4'
                    go_wp2_with fail
                    refine hK.out _ _ hS4 (fun hHeld2 => ?_)
                    clear hK
                    (try simp only [Act.put, List.setIfInBounds_toArray, List.set_cons_zero, List.set_cons_succ])
                    (refine wpAnyH_take (i := 12) (oi := ?oi12_32) (v := ?vv12_32) ?hi12_32 (by kernel_rfl) (by kernel_rfl) (by kernel_rfl) ?hQ12_32 ?hy12_32 (by assumption) ?rest12_32; (case hi12_32 => ((simp only [List.getElem?_toArray, List.getElem?_cons_succ, List.getElem?_cons_zero]); rfl)); (case hQ12_32 => exact (fun _ _ _ h => h)); (case hy12_32 => (refine Or.inl ⟨by rfl, ?_⟩; intro w hSw; (try dsimp only at hSw); go_simp; try (with_reducible rfl))); (try simp only [Act.put, List.setIfInBounds_toArray, List.set_cons_zero, List.set_cons_succ]))
                    (refine wpAnyH_take (i := 13) (oi := ?oi13_33) (v := ?vv13_33) ?hi13_33 (by kernel_rfl) (by kernel_rfl) (by kernel_rfl) ?hQ13_33 ?hy13_33 (by assumption) ?rest13_33; (case hi13_33 => ((simp only [List.getElem?_toArray, List.getElem?_cons_succ, List.getElem?_cons_zero]); rfl)); (case hQ13_33 => exact (fun _ _ _ h => h)); (case hy13_33 => (refine Or.inl ⟨by rfl, ?_⟩; intro w hSw; (try dsimp only at hSw); go_simp; try (with_reducible rfl))); (try simp only [Act.put, List.setIfInBounds_toArray, List.set_cons_zero, List.set_cons_succ]))
                    (refine wpAnyH_take (i := 14) (oi := ?oi14_34) (v := ?vv14_34) ?hi14_34 (by kernel_rfl) (by kernel_rfl) (by kernel_rfl) ?hQ14_34 ?hy14_34 (by assumption) ?rest14_34; (case hi14_34 => ((simp only [List.getElem?_toArray, List.getElem?_cons_succ, List.getElem?_cons_zero]); rfl)); (case hQ14_34 => exact (fun _ _ _ h => h)); (case hy14_34 => (refine Or.inl ⟨by rfl, ?_⟩; intro w hSw; (try dsimp only at hSw); go_simp; try (with_reducible rfl))); (try simp only [Act.put, List.setIfInBounds_toArray, List.set_cons_zero, List.set_cons_succ]))
                    (refine wpAnyH_take (i := 15) (oi := ?oi15_35) (v := ?vv15_35) ?hi15_35 (by kernel_rfl) (by kernel_rfl) (by kernel_rfl) ?hQ15_35 ?hy15_35 (by assumption) ?rest15_35; (case hi15_35 => ((simp only [List.getElem?_toArray, List.getElem?_cons_succ, List.getElem?_cons_zero]); rfl)); (case hQ15_35 => exact (fun _ _ _ h => h)); (case hy15_35 => (refine Or.inl ⟨by rfl, ?_⟩; intro w hSw; (try dsimp only at hSw); go_simp; try (with_reducible rfl))); (try simp only [Act.put, List.setIfInBounds_toArray, List.set_cons_zero, List.set_cons_succ]))
                    (refine wpAnyH_take (i := 16) (oi := ?oi16_36) (v := ?vv16_36) ?hi16_36 (by kernel_rfl) (by kernel_rfl) (by kernel_rfl) ?hQ16_36 ?hy16_36 (by assumption) ?rest16_36; (case hi16_36 => ((simp only [List.getElem?_toArray, List.getElem?_cons_succ, List.getElem?_cons_zero]); rfl)); (case hQ16_36 => exact (fun _ _ _ h => h)); (case hy16_36 => (refine Or.inl ⟨by rfl, ?_⟩; intro w hSw; (try dsimp only at hSw); go_simp; try (with_reducible rfl))); (try simp only [Act.put, List.setIfInBounds_toArray, List.set_cons_zero, List.set_cons_succ]))
                    (refine wpAnyH_take (i := 17) (oi := ?oi17_37) (v := ?vv17_37) ?hi17_37 (by kernel_rfl) (by kernel_rfl) (by kernel_rfl) ?hQ17_37 ?hy17_37 (by assumption) ?rest17_37; (case hi17_37 => ((simp only [List.getElem?_toArray, List.getElem?_cons_succ, List.getElem?_cons_zero]); rfl)); (case hQ17_37 => exact (fun _ _ _ h => h)); (case hy17_37 => (refine Or.inl ⟨by rfl, ?_⟩; intro w hSw; (try dsimp only at hSw); go_simp; try (with_reducible rfl))); (try simp only [Act.put, List.setIfInBounds_toArray, List.set_cons_zero, List.set_cons_succ]))
                    (refine wpAnyH_take (i := 18) (oi := ?oi18_38) (v := ?vv18_38) ?hi18_38 (by kernel_rfl) (by kernel_rfl) (by kernel_rfl) ?hQ18_38 ?hy18_38 (by assumption) ?rest18_38; (case hi18_38 => ((simp only [List.getElem?_toArray, List.getElem?_cons_succ, List.getElem?_cons_zero]); rfl)); (case hQ18_38 => exact (fun _ _ _ h => h)); (case hy18_38 => (refine Or.inl ⟨by rfl, ?_⟩; intro w hSw; (try dsimp only at hSw); go_simp; try (with_reducible rfl))); (try simp only [Act.put, List.setIfInBounds_toArray, List.set_cons_zero, List.set_cons_succ]))
                    refine wpAnyH_done (by kernel_rfl) ?_ _
                    clear hHeld hHeld2 hS4
                    cases ok
                    · have Hno : Hid (ctakeM kind (f :: t) = none) := by
                        show _ = _
                        cases h : ctakeM kind (f :: t) with
                        | none => rfl
                        | some l =>
                          exfalso
                          have h9 := (hcd l (Hcd.out l h)).1
                          cases h9
                      clear htk2 hRN hRX hcd hb4 hb40
                      go_wp2_with fail
                      go_ret3
                      exact ⟨.inr (.inl ⟨Hko.out, Hno.out, rfl⟩), Hb4.out⟩
                    · have Hnt : Hid (∀ l, ctakeM kind (f :: t) = some l → joinF kind TH N X = some l) := Lib.hid fun l h => by
                        obtain ⟨-, h1, h2⟩ := hcd l (Hcd.out l h)
                        have h3 := join_round (kind := kind) (by intro h0; rw [h0] at Hko; exact absurd Hko.out (by decide)) l (Hcd.out l h).all
                        rw [HTH.out l h, h1, h2]
                        unfold NT
                        by_cases hk3 : kind = 3
                        · rw [if_pos hk3] at h3 ⊢
                          rw [if_pos hk3] at h3
                          exact h3
                        · rw [if_neg hk3] at h3 ⊢
                          rw [if_neg hk3] at h3
                          exact h3
                      obtain ⟨nn, hnn2⟩ : ∃ nn, N.length = nn := ⟨_, rfl⟩
                      obtain ⟨xn, hxn⟩ : ∃ xn, X.length = xn := ⟨_, rfl⟩
                      have hva := Lib.hid (rvals_any kind TH N X i td nn d1 xn d2 TA A1' A2' w4 hk Htn.out hnn2 hxn (HTR.out.below hb40) hRN hRX hT4 (by rw [← hnn2]; exact hNL.1) (by rw [← hxn]; exact hXL.1))
                      have Hin : Hid (∀ L, joinF kind TH N X = some L → L.length = TH.length ∧ ∀ v ∈ L, v.ok) := Lib.hid fun L h => joinF_in kind hk TH N X L h hNL.2 hXL.2
                      rw [hnn2, hxn]
                      clear htk2 hRN hRX hcd hNL hXL hb4 hb40 hnn2 hxn
                      go_wp2_with fail
                      refine hva.out.mono ?_
                      rintro e w5 ⟨⟨hM, rfl⟩ | ⟨L, LA, d, hM, rfl, hLR⟩, hb5⟩
                      · have HM := Lib.hid hM
                        have Hno : Hid (ctakeM kind (f :: t) = none) := by
                          show _ = _
                          cases h : ctakeM kind (f :: t) with
                          | none => rfl
                          | some l =>
                            exfalso
                            have h9 := Hnt.out l h
                            rw [HM.out] at h9
                            cases h9
                        have Hb5 := Lib.hid (Hb4.out.trans (hb5.mono Hb4.out.size))
                        clear hva hM hb5
                        go_wp2_with fail
                        go_ret3
                        exact ⟨.inr (.inl ⟨Hko.out, Hno.out, rfl⟩), Hb5.out⟩
                      · obtain ⟨hLl, hLok⟩ := Hin.out L hM
                        rw [Htn.out] at hLl
                        have HM := Lib.hid hM
                        have HLl := Lib.hid hLl
                        have HLok := Lib.hid hLok
                        have HLR := Lib.hid hLR
                        have Hb5 := Lib.hid (Hb4.out.trans (hb5.mono Hb4.out.size))
                        have c0x := c0'.out w5 Hb5.out
                        have hpu := Lib.hid (rputc_any kind how L i d LA w5 hLl hLR hT4 hLok hk hh8)
                        obtain ⟨P, hP⟩ : ∃ P, cputM kind how L = P := ⟨_, rfl⟩
                        have HP := Lib.hid hP
                        unfold CPutOK at hpu
                        rw [hP] at hpu
                        obtain ⟨PB, PU, PE⟩ := P
                        dsimp only at hpu
                        obtain ⟨pl, hpl⟩ : ∃ pl, PB.length = pl := ⟨_, rfl⟩
                        rw [hpl] at hpu
                        rw [hLl]
                        clear hva hM hb5 hLl hLok hLR hP
                        go_wp2_with fail
                        refine hpu.out.mono ?_
                        rintro e w6 ⟨⟨CA, cc, rfl, hoC⟩, hb6⟩
                        have hb6' := Hb5.out.trans (hb6.mono Hb5.out.size)
                        have Hb6 := Lib.hid hb6'
                        have HLR6 := Lib.hid (HLR.out.below hb6)
                        have c0y := c0'.out w6 hb6'
                        have hcv1 := fun dd => run_str (w6.drewN dd) CA PB pl cc hpl (hoC.rd.drewN dd)
                        have hcv1' := run_str w6 CA PB pl cc hpl hoC.rd
                        have hcv2 := fun dd => run_str (w6.drewN dd) (some ⟨b', o, none⟩) (f :: t) n c Hl.out ((Hr.out.below hb6').drewN dd)
                        have hcv2' := run_str w6 (some ⟨b', o, none⟩) (f :: t) n c Hl.out (Hr.out.below hb6')
                        have hcq := St8_cmp PB (f :: t)
                        clear hpu hoC hb6 hb6' hpl
                        by_cases hE : PE = 0
                        · have z1 : (PE == 0) = true := by rw [hE]; rfl
                          have z2 : (PE != 0) = false := by rw [hE]; rfl
                          by_cases hU : PU = how
                          · have z3 : (PU == how) = true := by rw [hU]; exact beq_self_eq_true _
                            have z4 : (PU != how) = false := by rw [hU]; simp
                            by_cases hBB : PB = f :: t
                            · rw [decide_eq_true hBB] at hcq
                              have Hyes : Hid (ctakeM kind (f :: t) = some L) := by
                                show _ = _
                                refine (take_of_put (b := f :: t) ?_ (nums_ok HLok.out) (by rw [HLl.out]; exact hT4)).2
                                rw [Hhow.out, HP.out, hE, hU, hBB]
                              have HU := Lib.hid hU
                              clear hE hU hBB
                              go_wp2_with fail
                              try (go_quiet (fail); go_wp2_with fail)
                              go_ret3
                              exact ⟨.inr (.inr ⟨L, LA, d, Hko.out, Hyes.out, by rw [HLl.out, Hhow.out, ← HU.out]; rfl, (by first | exact HLR6.out | exact HLR6.out.drewN _)⟩), (by first | exact Hb6.out | exact below_drewN' Hb6.out _)⟩
                            · rw [decide_eq_false hBB] at hcq
                              have hcn1 : (!((St8 PB).toList == (St8 (f :: t)).toList)) = true := by rw [hcq]; rfl
                              have hcn2 : ((St8 PB).toList != (St8 (f :: t)).toList) = true := by rw [bne, hcq]; rfl
                              have Hno : Hid (ctakeM kind (f :: t) = none) := by
                                show _ = _
                                cases h : ctakeM kind (f :: t) with
                                | none => rfl
                                | some l =>
                                  exfalso
                                  obtain ⟨-, -, -, -, h9⟩ := Hu2.out l h
                                  have h8 := Hnt.out l h
                                  rw [HM.out] at h8
                                  obtain rfl := Option.some.inj h8
                                  rw [HP.out] at h9
                                  injection h9 with h91 h92
                                  injection h92 with h92 h93
                                  exact hBB h91
                              clear hE hU hBB
                              go_wp2_with fail
                              try (go_quiet (fail); go_wp2_with fail)
                              go_ret3
                              exact ⟨.inr (.inl ⟨Hko.out, Hno.out, rfl⟩), Hb6.out⟩
                          · have z3 : (PU == how) = false := by rw [beq_eq_false_iff_ne]; exact hU
                            have z4 : (PU != how) = true := by rw [bne_iff_ne]; exact hU
                            have Hno : Hid (ctakeM kind (f :: t) = none) := by
                              show _ = _
                              cases h : ctakeM kind (f :: t) with
                              | none => rfl
                              | some l =>
                                exfalso
                                obtain ⟨-, -, -, -, h9⟩ := Hu2.out l h
                                have h8 := Hnt.out l h
                                rw [HM.out] at h8
                                obtain rfl := Option.some.inj h8
                                rw [HP.out] at h9
                                injection h9 with h91 h92
                                injection h92 with h92 h93
                                exact hU h92
                            clear hE hU
                            go_wp2_with fail
                            try (go_quiet (fail); go_wp2_with fail)
                            go_ret3
                            exact ⟨.inr (.inl ⟨Hko.out, Hno.out, rfl⟩), Hb6.out⟩
                        · have z1 : (PE == 0) = false := by rw [beq_eq_false_iff_ne]; exact hE
                          have z2 : (PE != 0) = true := by rw [bne_iff_ne]; exact hE
                          have Hno : Hid (ctakeM kind (f :: t) = none) := by
                            show _ = _
                            cases h : ctakeM kind (f :: t) with
                            | none => rfl
                            | some l =>
                              exfalso
                              obtain ⟨-, -, -, -, h9⟩ := Hu2.out l h
                              have h8 := Hnt.out l h
                              rw [HM.out] at h8
                              obtain rfl := Option.some.inj h8
                              rw [HP.out] at h9
                              injection h9 with h91 h92
                              injection h92 with h92 h93
                              exact hE h93
                          clear hE
                          go_wp2_with fail
                          try (go_quiet (fail); go_wp2_with fail)
                          go_ret3
                          exact ⟨.inr (.inl ⟨Hko.out, Hno.out, rfl⟩), Hb6.out⟩
end Go.Proofs.YtojppmnmhdgnnaaGreat
namespace Go.Proofs.YtojppmnmhdgnnaaGreat
set_option linter.unusedVariables false
set_option linter.unusedSimpArgs false
open Go.RowKit

attribute [local go_sem ↓] Go.wp_at_zero Go.wp_at_succ

theorem split_parts {b : List UInt8} {th : List Int} {rest : List UInt8} (h : splitM b = some (th, rest)) : ∃ f t m u, b = f :: t ∧ takeNum t = some (m, u) ∧ m ≤ u.length ∧ rest = u.drop m := by
  cases b with
  | nil => cases h
  | cons f t =>
    obtain ⟨⟨m, u⟩, h1, h2⟩ := Option.bind_eq_some_iff.1 (show (takeNum t).bind (fun x => if x.2.length < x.1 then none else (runsTakeM (x.2.take x.1)).map fun l => (l, x.2.drop x.1)) = some (th, rest) from h)
    dsimp only at h2
    split at h2
    · cases h2
    · obtain ⟨l, -, h3⟩ := Option.map_eq_some_iff.1 h2
      injection h3 with _ h3
      exact ⟨f, t, m, u, rfl, h1, by omega, h3.symm⟩

set_option maxHeartbeats 16000000 in
set_option maxRecDepth 100000 in
theorem rcwords_any (b : List UInt8) (n c : Nat) (A : Option Addr) (w : World) (hl : b.length = n) (hr : Rd w A (Bs b)) (hn : n ≤ 500000) (hnc : n ≤ c) (hc : c ≤ 9223372036854775807) :
    Calls Tryz.prog 7 #[.slice A n c] w fun e w' => CWordsOK2 b w e w' := by
  have htk := Lib.hid (rctake_any 3 b n c A w ⟨by decide, by decide⟩ hl hr hn hnc hc)
  have Hl := Lib.hid hl
  have Hr := Lib.hid hr
  clear hl hr
  go_enter Tryz.func7, Tryz.ntmps7
  go_wp2_with fail
  refine htk.out.mono ?_
  rintro e w1 ⟨⟨h9, -⟩ | ⟨-, hno, rfl⟩ | ⟨l, LA, d, -, hyes, rfl, -⟩, hb1⟩
  · exact absurd h9 (by decide)
  · have Hno : Hid (¬ ((∃ l, ctakeM 3 b = some l) ∧ howB b = 3)) := Lib.hid fun h => by
      obtain ⟨⟨l, h1⟩, -⟩ := h
      rw [hno] at h1
      cases h1
    have Hb1 := Lib.hid hb1
    clear htk hno hb1
    go_wp2_with fail
    go_ret2
    exact ⟨.inl ⟨Hno.out, rfl⟩, by first | exact Hb1.out | exact (by first | exact Hb1.out | exact below_drewN' Hb1.out _)⟩
  · have Hb1 := Lib.hid hb1
    by_cases h3 : howB b = 3
    · obtain ⟨th, rest, W, r, hs, ht⟩ := ctake_named hyes h3
      obtain ⟨f, t, m, u, hbt, htn, hmu, hrest⟩ := split_parts hs
      have Hyes := Lib.hid (show ∃ l, ctakeM 3 b = some l from ⟨_, hyes⟩)
      have Hs := Lib.hid hs
      have Ht := Lib.hid ht
      have H3 := Lib.hid h3
      rw [h3]
      have hr1 := Hr.out.below hb1
      have hl1 := Hl.out
      rw [hbt] at hr1 hl1
      obtain ⟨b', o, hAe, -⟩ := hr1 (by simp)
      subst hAe
      have hrt := Bs_end hr1 1
      rw [List.drop_one, List.tail_cons] at hrt
      have hn1 : 1 ≤ n := by rw [← hl1]; simp
      have htl : t.length = n - 1 := by rw [← hl1]; simp
      have Htl := Lib.hid htl
      have Htn := Lib.hid htn
      have Hrest := Lib.hid hrest
      have ho9 : Own (w1.alloc (.cells #[] 5)) w1.heap.size 5 1 (some ⟨w1.heap.size, 0, none⟩) 0 0 [] := World.ownsRow_made w1 #[] 0 (Nat.le_refl _) (by unfold maxLen; omega) rfl
      have hb9 : Below w1.heap.size w1 (w1.alloc (.cells #[] 5)) := (Below.refl _ _).alloc (Nat.le_refl _) _
      have hrt9 := hrt.below hb9
      have h1c : (1 : Int) ≤ (c : Int) := by omega
      have h1n : (1 : Int) ≤ (n : Int) := by omega
      have hnw : (n : Int) - 1 = ((n - 1 : Nat) : Int) := by omega
      have hnn : n - 1 ≤ 500000 := by omega
      generalize hn' : n - 1 = n1 at *
      obtain ⟨q, hq, hrq⟩ : ∃ q : Option Addr, (if 1 = c then q = some ⟨b', o, none⟩ else q = some ⟨b', o + 1, none⟩) ∧ Rd (w1.alloc (.cells #[] 5)) q (Bs t) := by
        by_cases hc1 : 1 = c
        · refine ⟨some ⟨b', o, none⟩, by rw [if_pos hc1], ?_⟩
          have : t = [] := List.eq_nil_of_length_eq_zero (by omega)
          rw [this]
          exact Rd.nil _ _
        · exact ⟨some ⟨b', o + 1, none⟩, by rw [if_neg hc1], hrt9⟩
      clear htk hyes hb1 h3 hs ht hbt htn hrest hr1 hl1 hrt hrt9 htl
      by_cases hc1 : 1 = c
      · rw [if_pos hc1] at hq
        have ht0 : t = [] := List.eq_nil_of_length_eq_zero (by have := Htl.out; omega)
        rw [ht0] at Htn
        exact absurd Htn.out (fun h => by cases h)
      · rw [if_neg hc1] at hq
        subst hq
        have hc1I : ¬ (1 : Int) = (c : Int) := by omega
        go_wp2_with (first | (at_builtin; refine hold ?_) | (at_make; refine hold ?_))
        (with_reducible refine unhold ?_)
        refine wpList_apd rfl _ _ _ rfl E8 w1.heap.size _ 0 _ [] rfl ho9 _ n1 _ (Bs t) rfl (by rw [List.length_map, Htl.out, Nat.mul_one]) hrq (Bs_one t) n1 (Nat.zero_add _) (Bs t) rfl (by omega) (by omega) hb9.size ?_
        intro A1 c1 w2 ho1 hg1 _
        have hb2 : Below w1.heap.size w1 w2 := hb9.grown hg1 hb9.size ho9.row_ge
        have hz2 := hb2.size
        have hrd1 := rrdr_made ho1 Htl.out
        have hbB : Below w2.heap.size w2 (w2.alloc (.cells #[.slice A1 n1 c1, .bool false] 51)) := (Below.refl _ _).alloc (Nat.le_refl _) _
        have Hb2 := Lib.hid (Hb1.out.trans ((hb2.trans (hbB.mono hz2)).mono Hb1.out.size))
        have hz1 := Hb1.out.size
        have hzz : w.heap.size ≤ w2.heap.size := Nat.le_trans hz1 hz2
        have hpz := hrd1.lt
        have hnu := Lib.hid (rrdr_num w2.heap.size t false _ hrd1)
        clear hb2 hbB hrd1 ho1 hb9 ho9 hg1 hrq
        go_wp2_with fail
        refine hnu.out.mono ?_
        clear hnu
        generalize (w2.alloc (.cells #[.slice A1 n1 c1, .bool false] 51)) = wn at *
        generalize w2.heap.size = p at *
        rintro e w3 ⟨⟨htx, rfl, hrd⟩ | ⟨m', u', htx, rfl, hrd⟩, hk'⟩
        · rw [Htn.out] at htx
          cases htx
        · rw [Htn.out] at htx
          injection htx with htx
          injection htx with htx1 htx2
          subst htx1
          subst htx2
          have hul := (takeNum_lt Htn.out).2
          rw [Htl.out] at hul
          have Hb3 := Lib.hid (Hb2.out.trans (keeps_below hk' hzz (Nat.le_of_lt hpz)))
          obtain ⟨At, nt, ct, hB, hX, hnt, hntc, hct, hAt⟩ := hrd
          have f0 := hB.cell 0
          simp only [List.getElem?_cons_zero] at f0
          obtain ⟨q2, hq2, hoB⟩ : ∃ q2 : Option Addr, (if m = ct then q2 = At else ∃ g o, At = some ⟨g, o, none⟩ ∧ q2 = some ⟨g, o + m, none⟩) ∧ OwnB w3 (u.drop m) q2 (nt - m) (ct - m) := by
            rcases hAt with ⟨rfl, rfl⟩ | ⟨ga, oa, rfl⟩
            · have hn0 : nt = 0 := by omega
              have hm00 : m = 0 := by omega
              have hu0 : u = [] := List.eq_nil_of_length_eq_zero (by omega)
              subst hm00
              subst hn0
              refine ⟨none, by rw [if_pos rfl], ?_⟩
              rw [hu0]
              exact ⟨rfl, OwnX.nil _ _ _, Nat.le_refl _, by omega, .inl ⟨rfl, rfl⟩⟩
            · by_cases hmc2 : m = ct
              · exact ⟨_, by rw [if_pos hmc2], hX.room hnt hntc hct (by omega) _ (by rw [if_pos hmc2])⟩
              · exact ⟨some ⟨ga, oa + m, none⟩, by rw [if_neg hmc2]; exact ⟨_, _, rfl, rfl⟩, hX.room hnt hntc hct (by omega) _ (by rw [if_neg hmc2])⟩
          have hdt := Lib.hid (drtake_any (u.drop m) (nt - m) (ct - m) q2 w3 hoB.1 hoB.2.1.rd (by omega) hoB.2.2.1 hoB.2.2.2.1)
          have hmI : (m : Int) ≤ (nt : Int) := by omega
          have hmnN : m ≤ nt := by omega
          have hm0 : (0 : Int) ≤ (m : Int) := by omega
          have hmw : IntKind.i64.wrap (m : Int) = (m : Int) := by rw [IntKind.wrap_i64]; omega
          clear hoB hX hB hk' hpz hAt
          by_cases hmc2 : m = ct
          · rw [if_pos hmc2] at hq2
            subst hq2
            subst hmc2
            have hz0 : nt - m = 0 := by omega
            rw [hz0, Nat.sub_self] at hdt
            go_wp2_with fail
            refine hdt.out.mono ?_
            rintro e w4 ⟨⟨hno, rfl⟩ | ⟨W', r', WA, wc, RA, rc, hT, rfl, hWr, -⟩, hb4⟩
            · rw [← Hrest.out, Ht.out] at hno
              cases hno
            · rw [← Hrest.out, Ht.out] at hT
              injection hT with hT
              injection hT with hT1 hT2
              subst hT1
              have HWr := Lib.hid hWr
              have Hb4 := Lib.hid (Hb3.out.trans (hb4.mono Hb3.out.size))
              clear hdt hWr hb4
              go_wp2_with fail
              go_ret2
              exact ⟨.inr ⟨th, rest, W, r, WA, wc, Hyes.out, Hs.out, Ht.out, H3.out, rfl, HWr.out⟩, Hb4.out⟩
          · rw [if_neg hmc2] at hq2
            obtain ⟨ga, oa, rfl, rfl⟩ := hq2
            have hmcI : ¬ (m : Int) = (ct : Int) := by omega
            have hmc3 : ¬ ct = m := fun h => hmc2 h.symm
            go_wp2_with fail
            refine hdt.out.mono ?_
            rintro e w4 ⟨⟨hno, rfl⟩ | ⟨W', r', WA, wc, RA, rc, hT, rfl, hWr, -⟩, hb4⟩
            · rw [← Hrest.out, Ht.out] at hno
              cases hno
            · rw [← Hrest.out, Ht.out] at hT
              injection hT with hT
              injection hT with hT1 hT2
              subst hT1
              have HWr := Lib.hid hWr
              have Hb4 := Lib.hid (Hb3.out.trans (hb4.mono Hb3.out.size))
              clear hdt hWr hb4
              go_wp2_with fail
              go_ret2
              exact ⟨.inr ⟨th, rest, W, r, WA, wc, Hyes.out, Hs.out, Ht.out, H3.out, rfl, HWr.out⟩, Hb4.out⟩
    · have Hno : Hid (¬ ((∃ l, ctakeM 3 b = some l) ∧ howB b = 3)) := Lib.hid fun h => h3 h.2
      have z1 : (howB b == 3) = false := by rw [beq_eq_false_iff_ne]; exact h3
      have z2 : (howB b != 3) = true := by rw [bne_iff_ne]; exact h3
      clear htk hyes hb1 h3
      go_wp2_with fail
      go_ret2
      exact ⟨.inl ⟨Hno.out, rfl⟩, by first | exact Hb1.out | exact (by first | exact Hb1.out | exact below_drewN' Hb1.out _)⟩

/-- What Take tells, in one form. -/
def CtF (kind : Int) (b : List UInt8) (l : RowM) (u e : Int) : Prop :=
  (kindOk kind = false ∧ l = [] ∧ u = 0 ∧ e = 1) ∨ (kindOk kind = true ∧ ctakeM kind b = none ∧ l = [] ∧ u = 0 ∧ e = 6) ∨ (kindOk kind = true ∧ ctakeM kind b = some l ∧ l.length ≤ 4096 ∧ u = howB b ∧ e = 0)
theorem ct_form {kind : Int} {b : List UInt8} {w w' : World} {e : Ending} (hk : 0 ≤ kind ∧ kind ≤ 255) (h : CTakeOK kind b w e w') :
    ∃ (l : RowM) (u E : Int) (A : Option Addr) (d : Nat), e = .returned (.tuple #[.slice A l.length d, .int .u8 u, .int .i64 E]) ∧ Rd w' A (rcells l) ∧ CtF kind b l u E ∧ Below w.heap.size w w' := by
  obtain ⟨⟨h1, rfl⟩ | ⟨h1, h2, rfl⟩ | ⟨l, A, d, h1, h2, rfl, h3⟩, hb⟩ := h
  · exact ⟨[], 0, 1, none, 0, rfl, Rd.nil _ _, .inl ⟨h1, rfl, rfl, rfl⟩, hb⟩
  · exact ⟨[], 0, 6, none, 0, rfl, Rd.nil _ _, .inr (.inl ⟨h1, h2, rfl, rfl, rfl⟩), hb⟩
  · exact ⟨l, howB b, 0, A, d, rfl, h3, .inr (.inr ⟨h1, h2, (ctakeM_in hk h2).1, rfl, rfl⟩), hb⟩
theorem ct_same {kind : Int} {b : List UInt8} {l l' : RowM} {u u' e e' : Int} (h : CtF kind b l u e) (h' : CtF kind b l' u' e') : l = l' ∧ u = u' ∧ e = e' := by
  rcases h with ⟨h1, rfl, rfl, rfl⟩ | ⟨h1, h2, rfl, rfl, rfl⟩ | ⟨h1, h2, -, rfl, rfl⟩
  · rcases h' with ⟨-, rfl, rfl, rfl⟩ | ⟨k1, -⟩ | ⟨k1, -⟩
    · exact ⟨rfl, rfl, rfl⟩
    · rw [h1] at k1; cases k1
    · rw [h1] at k1; cases k1
  · rcases h' with ⟨k1, -⟩ | ⟨-, -, rfl, rfl, rfl⟩ | ⟨-, k2, -⟩
    · rw [h1] at k1; cases k1
    · exact ⟨rfl, rfl, rfl⟩
    · rw [h2] at k2; cases k2
  · rcases h' with ⟨k1, -⟩ | ⟨-, k2, -⟩ | ⟨-, k2, -, rfl, rfl⟩
    · rw [h1] at k1; cases k1
    · rw [h2] at k2; cases k2
    · rw [h2] at k2
      exact ⟨Option.some.inj k2, rfl, rfl⟩
theorem ct_len {kind : Int} {b : List UInt8} {l : RowM} {u e : Int} (h : CtF kind b l u e) : l.length ≤ 4096 := by
  rcases h with ⟨-, rfl, -⟩ | ⟨-, -, rfl, -⟩ | ⟨-, -, h, -⟩
  · exact Nat.zero_le _
  · exact Nat.zero_le _
  · exact h
/-- What Words tells, in one form. -/
def CwF (b : List UInt8) (W : List (List UInt8)) (ok : Bool) : Prop :=
  (¬ ((∃ l, ctakeM 3 b = some l) ∧ howB b = 3) ∧ W = [] ∧ ok = false) ∨ (((∃ l, ctakeM 3 b = some l) ∧ howB b = 3) ∧ ok = true ∧ ∃ th rest r, splitM b = some (th, rest) ∧ takeM rest = some (W, r))
theorem cw_form {b : List UInt8} {w w' : World} {e : Ending} (h : CWordsOK2 b w e w') :
    ∃ (W : List (List UInt8)) (ok : Bool) (A : Option Addr) (d : Nat), e = .returned (.tuple #[.slice A W.length d, .bool ok]) ∧ Rd w' A (wcl W) ∧ CwF b W ok ∧ Below w.heap.size w w' := by
  obtain ⟨⟨h1, rfl⟩ | ⟨th, rest, W, r, A, d, h0, h1, h2, h3, rfl, h4⟩, hb⟩ := h
  · exact ⟨[], false, none, 0, rfl, Rd.nil _ _, .inl ⟨h1, rfl, rfl⟩, hb⟩
  · exact ⟨W, true, A, d, rfl, h4, .inr ⟨⟨h0, h3⟩, rfl, th, rest, r, h1, h2⟩, hb⟩
theorem cw_same {b : List UInt8} {W W' : List (List UInt8)} {ok ok' : Bool} (h : CwF b W ok) (h' : CwF b W' ok') : W = W' ∧ ok = ok' := by
  rcases h with ⟨h1, rfl, rfl⟩ | ⟨h1, rfl, th, rest, r, h2, h3⟩
  · rcases h' with ⟨-, rfl, rfl⟩ | ⟨k1, -⟩
    · exact ⟨rfl, rfl⟩
    · exact absurd k1 h1
  · rcases h' with ⟨k1, -⟩ | ⟨-, rfl, th', rest', r', k2, k3⟩
    · exact absurd h1 k1
    · rw [h2] at k2
      injection k2 with k2
      injection k2 with _ k2
      rw [← k2, h3] at k3
      injection k3 with k3
      injection k3 with k3 _
      exact ⟨k3, rfl⟩
theorem cw_len {b : List UInt8} {W : List (List UInt8)} {ok : Bool} (hw : ∀ th rest W r, splitM b = some (th, rest) → takeM rest = some (W, r) → W.length ≤ 4096) (h : CwF b W ok) : W.length ≤ 4096 := by
  rcases h with ⟨-, rfl, -⟩ | ⟨-, -, th, rest, r, h2, h3⟩
  · exact Nat.zero_le _
  · exact hw _ _ _ _ h2 h3

set_option maxHeartbeats 16000000 in
set_option maxRecDepth 100000 in
theorem columntakes_walk (kind : Int) (b : List UInt8) (nb cb : Nat) (B0 : Option Addr) (w : World) (hkb : 0 ≤ kind ∧ kind ≤ 255) (hbl : b.length = nb) (hbr : Rd w B0 (Bs b)) (hnb : nb ≤ cb) (hcb : cb ≤ 9223372036854775807) :
    Calls Tryz.prog 3 #[.int .u8 kind, .slice B0 nb cb] w fun e w' => e = .returned (.bool true) ∧ Below w.heap.size w w' := by
  have Hbl := Lib.hid hbl
  have Hbr := Lib.hid hbr
  obtain ⟨Y, hY⟩ : ∃ Y, b.take 4000 = Y := ⟨_, rfl⟩
  have hyr : Rd w B0 (Bs Y) := by rw [← hY]; exact rdTake8 hbr 4000
  obtain ⟨m, hm⟩ : ∃ m, min nb 4000 = m := ⟨_, rfl⟩
  have hmI : min (nb : Int) 4000 = (m : Int) := by omega
  have hm0 : (0 : Int) ≤ (m : Int) := by omega
  have hmc : (m : Int) ≤ (cb : Int) := by omega
  have hm4 : m ≤ 4000 := by omega
  have hmcN : m ≤ cb := by omega
  have hyl : Y.length = m := by rw [← hY, List.length_take, hbl]; omega
  have h1 := Lib.hid (fun w' (hb : Below w.heap.size w w') => ctake_any kind Y m cb B0 w' hkb hyl (hyr.below hb) (by omega) hmcN hcb)
  have h2 := Lib.hid (fun w' (hb : Below w.heap.size w w') => rctake_any kind Y m cb B0 w' hkb hyl (hyr.below hb) (by omega) hmcN hcb)
  have h3 := Lib.hid (fun w' (hb : Below w.heap.size w w') => cwords2_any Y m cb B0 w' hyl (hyr.below hb) (by omega) hmcN hcb)
  have h4 := Lib.hid (fun w' (hb : Below w.heap.size w w') => rcwords_any Y m cb B0 w' hyl (hyr.below hb) (by omega) hmcN hcb)
  have Hw : Hid (∀ th rest W r, splitM Y = some (th, rest) → takeM rest = some (W, r) → W.length ≤ 4096) := Lib.hid fun th rest W r _ h => (by have := (rightW_le (takeM_put h).1).2; omega)
  clear hbl hbr hyr hyl hY hm
  go_enter Tryz.func3, Tryz.ntmps3
  go_wp2_with fail
  refine (h1.out w (Below.refl _ _)).mono ?_
  intro e w1 ht1
  obtain ⟨ML, MU, ME, MA, md, rfl, hM1, hM2, hb1⟩ := ct_form hkb ht1
  have Hb1 := Lib.hid hb1
  have HR1 := Lib.hid hM1
  have Hfo := Lib.hid hM2
  clear ht1 hb1 hM1 hM2 h1
  go_wp2_with fail
  refine (h2.out w1 Hb1.out).mono ?_
  intro e w2 ht2
  obtain ⟨ML2, MU2, ME2, MA2, md2, rfl, hM1, hM2, hb2⟩ := ct_form hkb ht2
  obtain ⟨rfl, rfl, rfl⟩ := ct_same Hfo.out hM2
  have HR2 := Lib.hid hM1
  have HR1b := Lib.hid (HR1.out.below hb2)
  have Hb2 := Lib.hid (Hb1.out.trans (hb2.mono Hb1.out.size))
  have hlen := ct_len hM2
  clear ht2 hb2 hM1 hM2 h2 HR1 Hfo
  go_wp2_with fail
  refine (h3.out w2 Hb2.out).mono ?_
  intro e w3 ht3
  obtain ⟨WL, WO, WA, wd, rfl, hW1, hW2, hb3⟩ := cw_form ht3
  have HW1 := Lib.hid hW1
  have Hwf := Lib.hid hW2
  have HR1c := Lib.hid (HR1b.out.below hb3)
  have HR2c := Lib.hid (HR2.out.below hb3)
  have Hb3 := Lib.hid (Hb2.out.trans (hb3.mono Hb2.out.size))
  clear ht3 hb3 hW1 hW2 h3 HR1b HR2
  go_wp2_with fail
  refine (h4.out w3 Hb3.out).mono ?_
  intro e w4 ht4
  obtain ⟨WL2, WO2, WA2, wd2, rfl, hW1, hW2, hb4⟩ := cw_form ht4
  obtain ⟨rfl, rfl⟩ := cw_same Hwf.out hW2
  have HW2 := Lib.hid hW1
  have HW1b := Lib.hid (HW1.out.below hb4)
  have HR1d := Lib.hid (HR1c.out.below hb4)
  have HR2d := Lib.hid (HR2c.out.below hb4)
  have Hb4 := Lib.hid (Hb3.out.trans (hb4.mono Hb3.out.size))
  have hwl := cw_len Hw.out hW2
  clear ht4 hb4 hW1 hW2 h4 Hwf HW1 HR1c HR2c Hw
  obtain ⟨ln, hln⟩ : ∃ ln, ML.length = ln := ⟨_, rfl⟩
  obtain ⟨wn, hwn⟩ : ∃ wn, WL.length = wn := ⟨_, rfl⟩
  have Hln := Lib.hid hln
  have Hwn := Lib.hid hwn
  rw [hln] at hlen ⊢
  rw [hwn] at hwl ⊢
  clear hln hwn
  go_wp2_with fail
  refine (cshown_any w4).mono ?_
  rintro e w5 ⟨rfl, hb5⟩
  have Hb5 := Lib.hid (Hb4.out.trans (hb5.mono Hb4.out.size))
  have hsr := Lib.hid (samerow_any ML ML ln ln MA MA2 md md2 w5 Hln.out Hln.out (HR1d.out.below hb5) (HR2d.out.below hb5) (by omega) (by omega))
  have HW1c := Lib.hid (HW1b.out.below hb5)
  have HW2c := Lib.hid (HW2.out.below hb5)
  clear hb5 HR1d HR2d HW1b HW2
  go_wp2_with fail
  refine hsr.out.mono ?_
  rintro e w6 ⟨rfl, j6, rfl⟩
  have hdd : decide (ML = ML) = true := decide_eq_true rfl
  have hsm := Lib.hid (same_eq WL wn WA WA2 wd wd2 (w5.drewN j6) Hwn.out (HW1c.out.drewN _) (HW2c.out.drewN _) (by omega))
  have hu1 : (MU == MU) = true := by simp
  have hu2 : (ME == ME) = true := by simp
  have hu3 : (WO == WO) = true := by simp
  clear hsr
  go_wp2_with fail
  refine hsm.out.mono ?_
  rintro e w7 ⟨rfl, hb7⟩
  have Hb7 := Lib.hid ((below_drewN' Hb5.out j6).trans (hb7.mono Hb5.out.size))
  clear hb7 hsm
  go_wp2_with fail
  go_ret
  exact ⟨rfl, Hb7.out⟩
end Go.Proofs.YtojppmnmhdgnnaaGreat
