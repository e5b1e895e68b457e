/- Walks: numbers by how much they are more than the least, as bytes: the program's. Walks: numbers by how much they are more than the least, as bytes: the reference's. -/
import Derived.Test.YtojppmnmhdgnnaaGreatMCoFG
namespace Go.Proofs.YtojppmnmhdgnnaaGreat
set_option linter.unusedVariables false
set_option linter.unusedSimpArgs false
open Go.RowKit

attribute [local go_sem ↓] Go.wp_at_zero Go.wp_at_succ

theorem leastM_snoc {l : List Int} (h : l ≠ []) (x : Int) : leastM (l ++ [x]) = min (leastM l) x := by
  cases l with
  | nil => exact absurd rfl h
  | cons y l => rw [List.cons_append]; show (l ++ [x]).foldl min y = min (l.foldl min y) x; rw [List.foldl_append]; rfl

set_option maxHeartbeats 4000000 in
set_option maxRecDepth 100000 in
theorem min_any (l : List Int) (n c : Nat) (A : Option Addr) (w : World) (hl : l.length = n) (hr : Rd w A (icl l)) (hn : n ≤ 1000000) (h1 : 1 ≤ n) :
    Calls Tryz.prog 89 #[.slice A n c] w fun e w' => e = .returned (.int .i64 (leastM l)) ∧ w = w' := by
  have Hl := Lib.hid hl
  have Hr := Lib.hid hr
  obtain ⟨R, hR⟩ : ∃ R, leastM l = R := ⟨_, rfl⟩
  rw [hR]
  have HR := Lib.hid hR
  obtain ⟨b, o, rfl, c0⟩ := icl_get hr (show 0 < l.length by omega)
  rw [Nat.add_zero] at c0
  have H0 : Hid (l[0]'(by omega) = leastM (l.take 1)) := by
    show _ = _
    cases l with
    | nil => simp at hl; omega
    | cons x l => rfl
  generalize l[0]'(by omega) = x0 at *
  have h1I : ¬ (n : Int) < 1 := by omega
  have h0I : (0 : Int) < (n : Int) := by omega
  clear hl hr hR
  go_enter Tryz.func89, Tryz.ntmps89
  go_wp2_with fail
  go_loop [3, 4] (fun vm vi => ∃ (i : Nat) (m : Int), vm = .int .i64 m ∧ vi = .int .i64 (i : Int) ∧ 1 ≤ i ∧ i ≤ n ∧ Hid (m = leastM (l.take i))) (fun _ vi => n - (intOf vi).toNat)
  case atStart => exact ⟨1, x0, rfl, rfl, by omega, by omega, H0⟩
  case round =>
    obtain ⟨i, m, rfl, rfl, hi1, hi, Hm⟩ := hrel
    by_cases hin : i < n
    · have hil : i < l.length := by rw [Hl.out]; exact hin
      have hiI : (i : Int) < (n : Int) := by omega
      have hi0 : (0 : Int) ≤ (i : Int) := by omega
      obtain ⟨b', o', e, c1⟩ := icl_get Hr.out hil
      cases e
      have Hm2 : Hid (min m l[i] = leastM (l.take (i + 1))) := by
        show _ = _
        rw [List.take_succ_eq_append_getElem hil, leastM_snoc (by intro e; have := congrArg List.length e; rw [List.length_take, List.length_nil] at this; omega), ← Hm.out]
      generalize l[i] = x at *
      generalize hM : min m x = M at *
      clear hil Hm
      go_wp2_with fail
      go_round
      case rel => exact ⟨i + 1, M, rfl, by go_num, by omega, by omega, Hm2⟩
      case measure => simp only [intOf, Int.toNat_natCast]; omega
    · obtain rfl : i = n := by omega
      have hmR : Hid (m = R) := by
        show _ = _
        rw [Hm.out, ← HR.out, List.take_of_length_le (by rw [Hl.out]; exact Nat.le_refl _)]
      go_wp2_with fail
      go_ret
      exact ⟨by rw [hmR.out]; rfl, rfl⟩

theorem fill_step {m : List Nat} {i n : Nat} (hm : m.length = n) (hi : i < n) : (m.take i ++ List.replicate (n - i) 0).set i (m[i]'(by omega)) = m.take (i + 1) ++ List.replicate (n - (i + 1)) 0 := by
  rw [List.set_append_right _ _ (by rw [List.length_take]; omega), List.length_take, show i - min i m.length = 0 by omega, List.take_succ_eq_append_getElem (show i < m.length by omega)]
  rw [show n - i = (n - (i + 1)) + 1 by omega, List.replicate_succ, List.set_cons_zero, List.append_assoc]
  rfl
theorem ucl_set (l : List Nat) (k x : Nat) : (ucl l).set k (.int .u64 (x : Int)) = ucl (l.set k x) := by unfold ucl; rw [List.map_set]
theorem make_nums (n : Nat) : (madeCells (Value.cells (.int .u64 0)) (n * 1)).toList = ucl (List.replicate n 0) := by
  rw [show (Value.cells (.int .u64 0)) = #[.int .u64 0] from rfl, Nat.mul_one, toList_madeCells_one]
  unfold ucl
  rw [List.map_replicate]
  rfl
theorem sub_u64 {x y : Int} (hx : -9223372036854775808 ≤ x ∧ x ≤ 9223372036854775807) (hy : -9223372036854775808 ≤ y ∧ y ≤ 9223372036854775807) (h : y ≤ x) :
    IntKind.u64.wrap (IntKind.u64.wrap x - IntKind.u64.wrap y) = (((x - y).toNat : Nat) : Int) := by
  simp only [IntKind.wrap_u64]
  omega

set_option maxHeartbeats 16000000 in
set_option maxRecDepth 100000 in
theorem frame_any (l : List Int) (n c : Nat) (A : Option Addr) (w : World) (hl : l.length = n) (hr : Rd w A (icl l)) (hn : n ≤ 4096) (hin : ∀ x ∈ l, -9223372036854775808 ≤ x ∧ x ≤ 9223372036854775807) :
    Calls Tryz.prog 67 #[.slice A n c] w fun e w' => BytOK (frameB l) w e w' := by
  have Hl := Lib.hid hl
  have Hr := Lib.hid hr
  have Hin := Lib.hid hin
  have hwn : IntKind.u64.wrap (n : Int) = (n : Int) := by rw [IntKind.wrap_u64]; omega
  have hn9 := numB_le9 (n := n) (by omega)
  by_cases h0 : n = 0
  · subst h0
    have hl0 : l = [] := List.eq_nil_of_length_eq_zero hl
    subst hl0
    change Calls _ _ _ _ (fun e w' => BytOK (numB 0) w e w')
    clear hl hr hin
    go_enter Tryz.func67, Tryz.ntmps67
    go_wp2_with fail
    refine (onum_any [] 0 0 0 none w rfl (Rd.nil _ _) (by omega) (by omega)).mono ?_
    rintro e w2 ⟨A2, c2, rfl, ho2, hb2⟩
    rw [List.nil_append, Nat.zero_add] at ho2
    rw [Nat.zero_add]
    go_wp2_with fail
    go_ret2
    exact ⟨⟨_, _, rfl, ho2⟩, hb2⟩
  · have hne : l ≠ [] := by intro e; rw [e] at hl; simp at hl; omega
    have hmn := Lib.hid (fun w' (h : Below w.heap.size w w') => min_any l n c A w' hl (hr.below h) (by omega) (by omega))
    have hml := moreM_len l
    rw [hl] at hml
    have hlm := hin _ (least_mem hne)
    have Hle : Hid (∀ x ∈ l, leastM l ≤ x) := fun x hx => least_le hx
    have Hget : Hid (∀ (i : Nat) (h : i < l.length) (h2 : i < (moreM l).length), (moreM l)[i] = (l[i] - leastM l).toNat) := fun i h h2 => List.getElem_map _
    have h64 := moreM_lt hin
    have hw64 := width_64 h64
    have hfr : frameB l = (numB n ++ numB (zigN (leastM l))) ++ numB (widthM (moreM l)) ++ packB (moreM l) (widthM (moreM l)) := by
      unfold frameB
      rw [if_neg hne, hl]
      simp only [List.append_assoc]
    have hpk := (width_le h64 hw64).1 (Nat.le_refl _)
    have hpl := packB_len (moreM l) (widthM (moreM l))
    rw [hml] at hpl
    rw [hfr]
    generalize leastM l = L at *
    generalize moreM l = M at *
    obtain ⟨V, hV⟩ : ∃ V, widthM M = V := ⟨_, rfl⟩
    have HV := Lib.hid hV
    rw [hV] at hw64 hpk hpl ⊢
    have hby : bytesN n V ≤ 32768 := by
      have : n * V ≤ 4096 * 64 := Nat.mul_le_mul hn hw64
      unfold bytesN
      omega
    obtain ⟨P, hP⟩ : ∃ P, packB M V = P := ⟨_, rfl⟩
    have HP := Lib.hid hP
    rw [hP] at hpl ⊢
    obtain ⟨N, hN⟩ : ∃ N, bytesN n V = N := ⟨_, rfl⟩
    rw [hN] at hpl hby
    have HPl := Lib.hid hpl
    have HM := Lib.hid hml
    have H64 := Lib.hid h64
    have Hpk := Lib.hid hpk
    have HL := Lib.hid hlm
    have hz9 := numB_le9 (zigN_lt hlm)
    have hv9 := numB_le9 (n := V) (by omega)
    have hwV : IntKind.u64.wrap (V : Int) = (V : Int) := by rw [IntKind.wrap_u64]; omega
    have hnz : ((n : Int) == 0) = false := by rw [beq_eq_false_iff_ne]; omega
    have hnz2 : decide ((n : Int) = 0) = false := decide_eq_false (by omega)
    clear hl hr hin hne hml hlm h64 hfr hpk hpl hV hP hN
    go_enter Tryz.func67, Tryz.ntmps67
    go_wp2_with fail
    refine (onum_any [] 0 0 n none w rfl (Rd.nil _ _) (by omega) (by omega)).mono ?_
    rintro e w2 ⟨A2, c2, rfl, ho2, hb2⟩
    rw [List.nil_append, Nat.zero_add] at ho2
    rw [Nat.zero_add]
    have Ho2 := Lib.hid ho2
    have Hb2 := Lib.hid hb2
    clear ho2 hb2
    go_wp2_with fail
    refine (hmn.out w2 Hb2.out).mono ?_
    rintro e w2' ⟨rfl, rfl⟩
    go_wp2_with (first | (at_builtin; refine hold ?_) | (at_make; refine hold ?_))
    (with_reducible refine unhold ?_)
    refine wpList_mkn rfl _ _ _ rfl Eu64 w2.heap.size _ _ _ _ n rfl rfl rfl rfl (by omega) (by unfold maxLen; omega) (Nat.le_refl _) ?_
    intro w3 ho3 hb3 _
    rw [make_nums] at ho3
    have Ho3 := Lib.hid ho3
    have Hb3 := Lib.hid hb3
    generalize hg : w2.heap.size = g at *
    clear ho3 hb3
    go_wp2_with fail
    go_loopw [30] (fun vi wr => ∃ i : Nat, vi = .int .i64 (i : Int) ∧ i ≤ n ∧ Hid (Own wr g 52 1 (some ⟨g, 0, none⟩) n n (ucl (M.take i ++ List.replicate (n - i) 0))) ∧ Hid (Below g w2 wr)) (fun vi _ => n - (intOf vi).toNat)
    case atStart => exact ⟨0, rfl, by omega, by rw [List.take_zero, List.nil_append, Nat.sub_zero]; exact Ho3, Hb3⟩
    case round =>
      obtain ⟨i, rfl, hi, Ho, Hb⟩ := hrel
      have Hbw : Hid (Below w.heap.size w wr) := Hb2.out.trans (Hb.out.mono (by rw [← hg]; exact Hb2.out.size))
      by_cases hin : i < n
      · have hil : i < l.length := by rw [Hl.out]; exact hin
        have hiI : (i : Int) < (n : Int) := by omega
        have hi0 : (0 : Int) ≤ (i : Int) := by omega
        obtain ⟨b, o, rfl, c0⟩ := icl_get (Hr.out.below Hbw.out) hil
        have hx := Hin.out _ (List.getElem_mem hil)
        have hge := Hle.out _ (List.getElem_mem hil)
        have hgi := Hget.out i hil (by rw [HM.out]; exact hin)
        have hfs := fill_step HM.out hin
        have hMi : M[i]'(by rw [HM.out]; exact hin) < 18446744073709551616 := H64.out _ (List.getElem_mem _)
        rw [hgi] at hfs hMi
        generalize l[i] = x at *
        have hsub := sub_u64 hx HL.out hge
        obtain ⟨ux, hux⟩ : ∃ ux, IntKind.u64.wrap x = ux := ⟨_, rfl⟩
        obtain ⟨uy, huy⟩ : ∃ uy, IntKind.u64.wrap L = uy := ⟨_, rfl⟩
        rw [hux, huy] at hsub
        obtain ⟨d, hd⟩ : ∃ d, (x - L).toNat = d := ⟨_, rfl⟩
        rw [hd] at hsub hfs hMi
        obtain ⟨p1, p2, p3⟩ := Ho.out.put (i := i) (by omega) (.int .u64 (d : Int))
        rw [ucl_set, hfs] at p1
        have hlen : i < (M.take i ++ List.replicate (n - i) 0).length := by rw [List.length_append, List.length_take, HM.out, List.length_replicate]; omega
        obtain ⟨b', o', e, c1⟩ := ucl_get Ho.out.rd hlen
        cases e
        rw [Nat.zero_add] at c1
        generalize (M.take i ++ List.replicate (n - i) 0)[i] = old at *
        have P1 := Lib.hid p1
        have Hb9 := Lib.hid (Hb.out.setCell (p := ⟨g, i, none⟩) (Nat.le_refl g) (.int .u64 (d : Int)))
        clear hil hfs hgi hlen p1 p2 Ho Hb hd hge
        go_wp2_with fail
        go_roundw
        case rel => exact ⟨i + 1, by go_num, by omega, P1, Hb9⟩
        case measure => simp only [intOf, Int.toNat_natCast]; omega
      · obtain rfl : i = n := by omega
        have Ho9 : Hid (Own wr g 52 1 (some ⟨g, 0, none⟩) i i (ucl M)) := by
          have := Ho.out
          rw [List.take_of_length_le (by rw [HM.out]; exact Nat.le_refl _), Nat.sub_self, List.replicate_zero, List.append_nil] at this
          exact this
        have hwd := Lib.hid (width_any M i i (some ⟨g, 0, none⟩) wr HM.out Ho9.out.rd (by omega) H64.out)
        rw [HV.out] at hwd
        have hpp := Lib.hid (pack_any M i i V (some ⟨g, 0, none⟩) wr HM.out Ho9.out.rd hn hw64 Hpk.out)
        have Hrd2 : Hid (Rd wr A2 (Bs (numB i))) := Ho2.out.rd.below (by rw [hg]; exact Hb.out)
        clear Ho Hb Ho2
        go_wp2_with fail
        refine hwd.out.mono ?_
        rintro e w4 ⟨rfl, rfl⟩
        go_wp2_with fail
        refine hpp.out.mono ?_
        rintro e w5 h5
        rw [HP.out] at h5
        obtain ⟨⟨A5, c5, rfl, ho5⟩, hb5⟩ := h5.len HPl.out
        have Hr5 := Lib.hid ho5.rd
        have Hb5 := Lib.hid (Hbw.out.trans (hb5.mono Hbw.out.size))
        have Hrd5 := Lib.hid (Hrd2.out.below hb5)
        clear h5 ho5 hb5 hpp hwd
        go_wp2_with fail
        refine (int_any (numB i) (numB i).length c2 L A2 w5 rfl Hrd5.out (by omega) HL.out).mono ?_
        rintro e w6 ⟨A6, c6, rfl, ho6, hb6⟩
        have Hr6 := Lib.hid ho6.rd
        have Hb6 := Lib.hid (Hb5.out.trans (hb6.mono Hb5.out.size))
        have Hr56 := Lib.hid (Hr5.out.below hb6)
        clear ho6 hb6
        go_wp2_with fail
        refine (onum_any (numB i ++ numB (zigN L)) ((numB i).length + (numB (zigN L)).length) c6 V A6 w6 (List.length_append) Hr6.out (by omega) (by omega)).mono ?_
        rintro e w7 ⟨A7, c7, rfl, ho7, hb7⟩
        have Hb7 := Lib.hid (Hb6.out.trans (hb7.mono Hb6.out.size))
        have Hr57 := Lib.hid (Hr56.out.below hb7)
        have Ho7 := Lib.hid (ho7.lower Hb6.out.size)
        clear ho7 hb7
        go_wp2_with (first | (at_builtin; refine hold ?_) | (at_make; refine hold ?_))
        (with_reducible refine unhold ?_)
        refine wpList_apd rfl _ _ _ rfl E8 w.heap.size _ ((numB i).length + (numB (zigN L)).length + (numB V).length) _ (Bs ((numB i ++ numB (zigN L)) ++ numB V)) rfl Ho7.out _ N _ (Bs P) rfl (by rw [Bs, List.length_map, HPl.out, Nat.mul_one]) Hr57.out (Bs_one P) ((numB i).length + (numB (zigN L)).length + (numB V).length + N) rfl (Bs ((numB i ++ numB (zigN L)) ++ numB V ++ P)) (by rw [Bs, Bs, ← List.map_append]) (by omega) (by omega) Hb7.out.size ?_
        intro A8 c8 w8 ho8 hg8 _
        have Hb8 := Lib.hid (Hb7.out.grown hg8 Hb7.out.size Ho7.out.row_ge)
        have Ho8 := Lib.hid ho8
        have hlen8 : ((numB i ++ numB (zigN L)) ++ numB V ++ P).length = (numB i).length + (numB (zigN L)).length + (numB V).length + N := by simp only [List.length_append, HPl.out]
        obtain ⟨T, hT⟩ : ∃ T, (numB i).length + (numB (zigN L)).length + (numB V).length + N = T := ⟨_, rfl⟩
        rw [hT] at Ho8 hlen8 ⊢
        have HT := Lib.hid hlen8
        clear ho8 hg8 hlen8 hT
        go_wp2_with fail
        go_ret2
        refine ⟨⟨A8, c8, ?_, ?_⟩, Hb8.out⟩
        · rw [HT.out]; rfl
        · rw [HT.out]; exact Ho8.out
end Go.Proofs.YtojppmnmhdgnnaaGreat
namespace Go.Proofs.YtojppmnmhdgnnaaGreat
set_option linter.unusedVariables false
set_option linter.unusedSimpArgs false
open Go.RowKit

attribute [local go_sem ↓] Go.wp_at_zero Go.wp_at_succ

set_option maxHeartbeats 16000000 in
set_option maxRecDepth 100000 in
theorem rframe_any (l : List Int) (n c : Nat) (A : Option Addr) (w : World) (hl : l.length = n) (hr : Rd w A (icl l)) (hn : n ≤ 4096) (hin : ∀ x ∈ l, -9223372036854775808 ≤ x ∧ x ≤ 9223372036854775807) :
    Calls Tryz.prog 77 #[.slice A n c] w fun e w' => BytOK (frameB l) w e w' := by
  have Hl := Lib.hid hl
  have Hr := Lib.hid hr
  have Hin := Lib.hid hin
  have hwn : IntKind.u64.wrap (n : Int) = (n : Int) := by rw [IntKind.wrap_u64]; omega
  have hn9 := numB_le9 (n := n) (by omega)
  by_cases h0 : n = 0
  · subst h0
    have hl0 : l = [] := List.eq_nil_of_length_eq_zero hl
    subst hl0
    change Calls _ _ _ _ (fun e w' => BytOK (numB 0) w e w')
    clear hl hr hin
    go_enter Tryz.func77, Tryz.ntmps77
    go_wp2_with fail
    refine (rnum_any [] 0 0 0 none w rfl (Rd.nil _ _) (by omega) (by omega)).mono ?_
    rintro e w2 ⟨A2, c2, rfl, ho2, hb2⟩
    rw [List.nil_append, Nat.zero_add] at ho2
    rw [Nat.zero_add]
    go_wp2_with fail
    go_ret2
    exact ⟨⟨_, _, rfl, ho2⟩, hb2⟩
  · have hne : l ≠ [] := by intro e; rw [e] at hl; simp at hl; omega
    have H0 : Hid (∀ (h : 0 < l.length), l[0] = leastM (l.take (max 0 1))) := fun h => by
      cases l with
      | nil => simp at h
      | cons x l => rfl
    have Hls : Hid (∀ (i : Nat) (h : i < l.length), min (leastM (l.take (max i 1))) l[i] = leastM (l.take (max (i + 1) 1))) := fun i h => by
      by_cases hi : i = 0
      · subst hi
        cases l with
        | nil => simp at h
        | cons x l =>
          show min x x = x
          omega
      · rw [show max i 1 = i by omega, show max (i + 1) 1 = i + 1 by omega, List.take_succ_eq_append_getElem h, leastM_snoc (by intro e; have := congrArg List.length e; rw [List.length_take, List.length_nil] at this; omega)]
    have Hlall : Hid (leastM (l.take (max n 1)) = leastM l) := by
      show _ = _
      rw [List.take_of_length_le (by omega)]
    have hml := moreM_len l
    rw [hl] at hml
    have hlm := hin _ (least_mem hne)
    have Hle : Hid (∀ x ∈ l, leastM l ≤ x) := fun x hx => least_le hx
    have Hget : Hid (∀ (i : Nat) (h : i < l.length) (h2 : i < (moreM l).length), (moreM l)[i] = (l[i] - leastM l).toNat) := fun i h h2 => List.getElem_map _
    have h64 := moreM_lt hin
    have hw64 := width_64 h64
    have hfr : frameB l = (numB n ++ numB (zigN (leastM l))) ++ numB (widthM (moreM l)) ++ packB (moreM l) (widthM (moreM l)) := by
      unfold frameB
      rw [if_neg hne, hl]
      simp only [List.append_assoc]
    have hpk := (width_le h64 hw64).1 (Nat.le_refl _)
    have hpl := packB_len (moreM l) (widthM (moreM l))
    rw [hml] at hpl
    rw [hfr]
    generalize leastM l = L at *
    generalize moreM l = M at *
    obtain ⟨V, hV⟩ : ∃ V, widthM M = V := ⟨_, rfl⟩
    have HV := Lib.hid hV
    rw [hV] at hw64 hpk hpl ⊢
    have hby : bytesN n V ≤ 32768 := by
      have : n * V ≤ 4096 * 64 := Nat.mul_le_mul hn hw64
      unfold bytesN
      omega
    obtain ⟨P, hP⟩ : ∃ P, packB M V = P := ⟨_, rfl⟩
    have HP := Lib.hid hP
    rw [hP] at hpl ⊢
    obtain ⟨N, hN⟩ : ∃ N, bytesN n V = N := ⟨_, rfl⟩
    rw [hN] at hpl hby
    have HPl := Lib.hid hpl
    have HM := Lib.hid hml
    have H64 := Lib.hid h64
    have Hpk := Lib.hid hpk
    have HL := Lib.hid hlm
    have hz9 := numB_le9 (zigN_lt hlm)
    have hv9 := numB_le9 (n := V) (by omega)
    have hwV : IntKind.u64.wrap (V : Int) = (V : Int) := by rw [IntKind.wrap_u64]; omega
    have hnz : ((n : Int) == 0) = false := by rw [beq_eq_false_iff_ne]; omega
    have hnz2 : decide ((n : Int) = 0) = false := decide_eq_false (by omega)
    clear hl hr hin hne hml hlm h64 hfr hpk hpl hV hP hN
    go_enter Tryz.func77, Tryz.ntmps77
    go_wp2_with fail
    refine (rnum_any [] 0 0 n none w rfl (Rd.nil _ _) (by omega) (by omega)).mono ?_
    rintro e w2 ⟨A2, c2, rfl, ho2, hb2⟩
    rw [List.nil_append, Nat.zero_add] at ho2
    rw [Nat.zero_add]
    have Ho2 := Lib.hid ho2
    have Hb2 := Lib.hid hb2
    clear ho2 hb2
    obtain ⟨b, o, rfl, c00⟩ := icl_get (Hr.out.below Hb2.out) (show 0 < l.length by rw [Hl.out]; omega)
    rw [Nat.add_zero] at c00
    have H00 := H0.out (show 0 < l.length by rw [Hl.out]; omega)
    generalize l[0]'(show 0 < l.length by rw [Hl.out]; omega) = x0 at *
    have H00' := Lib.hid H00
    have h0I : (0 : Int) < (n : Int) := by omega
    clear H00
    go_wp2_with fail
    go_loop [5, 6] (fun vm vi => ∃ (i : Nat) (m : Int), vm = .int .i64 m ∧ vi = .int .i64 (i : Int) ∧ i ≤ n ∧ Hid (m = leastM (l.take (max i 1)))) (fun _ vi => n - (intOf vi).toNat)
    case atStart => exact ⟨0, x0, rfl, rfl, by omega, H00'⟩
    case round =>
      obtain ⟨i, m, rfl, rfl, hi, Hm⟩ := hrel
      by_cases hin : i < n
      · have hil : i < l.length := by rw [Hl.out]; exact hin
        have hiI : (i : Int) < (n : Int) := by omega
        have hi0 : (0 : Int) ≤ (i : Int) := by omega
        obtain ⟨b', o', e, c1⟩ := icl_get (Hr.out.below Hb2.out) hil
        cases e
        have Hm2 : Hid (min m l[i] = leastM (l.take (max (i + 1) 1))) := by
          show _ = _
          rw [Hm.out, Hls.out i hil]
        generalize l[i] = x at *
        generalize hM : min m x = M' at *
        clear hil Hm
        go_wp2_with fail
        go_round
        case rel => exact ⟨i + 1, M', rfl, by go_num, by omega, Hm2⟩
        case measure => simp only [intOf, Int.toNat_natCast]; omega
      · obtain rfl : i = n := by omega
        have hmL : m = L := by
          rw [Hm.out, Hlall.out]
        subst hmL
        clear Hm Hlall Hls H0 H00' hnz hnz2 c00
        go_wp2_with fail
        go_loopw [7, 8] (fun vo vi wr => ∃ (j c' : Nat) (A' : Option Addr), vo = .slice A' j c' ∧ vi = .int .i64 (j : Int) ∧ j ≤ i ∧ Hid (Own wr w2.heap.size 52 1 A' j c' (ucl (M.take j))) ∧ Hid (Below w2.heap.size w2 wr)) (fun _ vi _ => i - (intOf vi).toNat)
        case atStart => exact ⟨0, 0, none, rfl, rfl, by omega, Own.nil _ _ _ _, Below.refl _ _⟩
        case round =>
          obtain ⟨j, c', A', rfl, rfl, hj, Ho, Hb⟩ := hrel
          have Hbw : Hid (Below w.heap.size w wr) := Hb2.out.trans (Hb.out.mono Hb2.out.size)
          by_cases hjn : j < i
          · have hjl : j < l.length := by rw [Hl.out]; exact hjn
            have hjI : (j : Int) < (i : Int) := by omega
            have hj0 : (0 : Int) ≤ (j : Int) := by omega
            obtain ⟨b', o', e, c0⟩ := icl_get (Hr.out.below Hbw.out) hjl
            cases e
            have hx := Hin.out _ (List.getElem_mem hjl)
            have hge := Hle.out _ (List.getElem_mem hjl)
            have hgi := Hget.out j hjl (by rw [HM.out]; exact hjn)
            have hsn : ucl (M.take (j + 1)) = ucl (M.take j) ++ [.int .u64 ((M[j]'(by rw [HM.out]; exact hjn) : Nat) : Int)] := by
              rw [List.take_succ_eq_append_getElem (by rw [HM.out]; exact hjn), ucl_append]
              rfl
            rw [hgi] at hsn
            generalize l[j] = x at *
            have hsub := sub_u64 hx HL.out hge
            obtain ⟨ux, hux⟩ : ∃ ux, IntKind.u64.wrap x = ux := ⟨_, rfl⟩
            obtain ⟨uy, huy⟩ : ∃ uy, IntKind.u64.wrap m = uy := ⟨_, rfl⟩
            rw [hux, huy] at hsub
            obtain ⟨d, hd⟩ : ∃ d, (x - m).toNat = d := ⟨_, rfl⟩
            rw [hd] at hsub hsn
            have Hsn := Lib.hid hsn.symm
            clear hjl hsn hgi hd hge
            go_wp2_with (first | (at_builtin; refine hold ?_) | (at_make; refine hold ?_))
            (with_reducible refine unhold ?_)
            have hbW : Below wr.heap.size wr (wr.alloc (.cells #[.int .u64 (d : Int)] 52)) := (Below.refl _ _).alloc (Nat.le_refl _) _
            have hnew := (Blk.new wr 52 #[.int .u64 (d : Int)]).range
            have hb5 := Hb.out.trans (hbW.mono Hb.out.size)
            have ho5 := Own.below Ho.out hbW
            refine wpList_apd rfl _ _ _ rfl Eu64 w2.heap.size _ j _ (ucl (M.take j)) rfl ho5 _ 1 _ [.int .u64 (d : Int)] rfl rfl (fun _ => ⟨_, _, rfl, hnew⟩) (by simp [Value.oneCell']) (j + 1) rfl (ucl (M.take (j + 1))) Hsn.out (by omega) (by omega) hb5.size ?_
            intro A9 c9 w9 ho9 hg9 _
            have Hb9 := Lib.hid (hb5.grown hg9 hb5.size ho5.row_ge)
            have HO9 := Lib.hid ho9
            clear hbW hnew hb5 ho5 ho9 hg9
            go_wp2_with fail
            go_roundw
            case rel => exact ⟨j + 1, c9, A9, rfl, by go_num, by omega, HO9, Hb9⟩
            case measure => simp only [intOf, Int.toNat_natCast]; omega
          · obtain rfl : j = i := by omega
            have Ho9 : Hid (Own wr w2.heap.size 52 1 A' j c' (ucl M)) := by
              have := Ho.out
              rw [List.take_of_length_le (by rw [HM.out]; exact Nat.le_refl _)] at this
              exact this
            have hwd := Lib.hid (rwidth_any M j c' A' wr HM.out Ho9.out.rd (by omega) H64.out)
            rw [HV.out] at hwd
            have Hrd2 : Hid (Rd wr A2 (Bs (numB j))) := Ho2.out.rd.below Hb.out
            have Hr9 := Lib.hid Ho9.out.rd
            clear Ho Hb Ho2 Ho9
            go_wp2_with fail
            refine hwd.out.mono ?_
            rintro e w4 ⟨rfl, rfl⟩
            go_wp2_with fail
            refine (rint_any (numB j) (numB j).length c2 m A2 wr rfl Hrd2.out (by omega) HL.out).mono ?_
            rintro e w6 ⟨A6, c6, rfl, ho6, hb6⟩
            have Hr6 := Lib.hid ho6.rd
            have Hb6 := Lib.hid (Hbw.out.trans (hb6.mono Hbw.out.size))
            have Hr96 := Lib.hid (Hr9.out.below hb6)
            clear ho6 hb6 hwd
            go_wp2_with fail
            refine (rnum_any (numB j ++ numB (zigN m)) ((numB j).length + (numB (zigN m)).length) c6 V A6 w6 (List.length_append) Hr6.out (by omega) (by omega)).mono ?_
            rintro e w7 ⟨A7, c7, rfl, ho7, hb7⟩
            have Hb7 := Lib.hid (Hb6.out.trans (hb7.mono Hb6.out.size))
            have Hr97 := Lib.hid (Hr96.out.below hb7)
            have Ho7 := Lib.hid (ho7.lower Hb6.out.size)
            have hpp := Lib.hid (rpack_any M j c' V A' w7 HM.out Hr97.out (by omega) hw64 Hpk.out)
            clear ho7 hb7
            go_wp2_with fail
            refine hpp.out.mono ?_
            rintro e w5 h5
            rw [HP.out] at h5
            obtain ⟨⟨A5, c5, rfl, ho5⟩, hb5⟩ := h5.len HPl.out
            have Hr57 := Lib.hid ho5.rd
            have Hb5 := Lib.hid (Hb7.out.trans (hb5.mono Hb7.out.size))
            have Ho75 := Lib.hid (Ho7.out.below hb5)
            clear h5 ho5 hb5 hpp
            go_wp2_with (first | (at_builtin; refine hold ?_) | (at_make; refine hold ?_))
            (with_reducible refine unhold ?_)
            refine wpList_apd rfl _ _ _ rfl E8 w.heap.size _ ((numB j).length + (numB (zigN m)).length + (numB V).length) _ (Bs ((numB j ++ numB (zigN m)) ++ numB V)) rfl Ho75.out _ N _ (Bs P) rfl (by rw [Bs, List.length_map, HPl.out, Nat.mul_one]) Hr57.out (Bs_one P) ((numB j).length + (numB (zigN m)).length + (numB V).length + N) rfl (Bs ((numB j ++ numB (zigN m)) ++ numB V ++ P)) (by rw [Bs, Bs, ← List.map_append]) (by omega) (by omega) Hb5.out.size ?_
            intro A8 c8 w8 ho8 hg8 _
            have Hb8 := Lib.hid (Hb5.out.grown hg8 Hb5.out.size Ho75.out.row_ge)
            have Ho8 := Lib.hid ho8
            have hlen8 : ((numB j ++ numB (zigN m)) ++ numB V ++ P).length = (numB j).length + (numB (zigN m)).length + (numB V).length + N := by simp only [List.length_append, HPl.out]
            obtain ⟨T, hT⟩ : ∃ T, (numB j).length + (numB (zigN m)).length + (numB V).length + N = T := ⟨_, rfl⟩
            rw [hT] at Ho8 hlen8 ⊢
            have HT := Lib.hid hlen8
            clear ho8 hg8 hlen8 hT
            go_wp2_with fail
            go_ret2
            refine ⟨⟨A8, c8, ?_, ?_⟩, Hb8.out⟩
            · rw [HT.out]; rfl
            · rw [HT.out]; exact Ho8.out
end Go.Proofs.YtojppmnmhdgnnaaGreat
