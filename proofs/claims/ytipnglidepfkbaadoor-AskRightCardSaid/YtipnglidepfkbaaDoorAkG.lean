/- Walks: whether a text is a pattern, and whether a text is like one. -/
import Derived.Test.YtipnglidepfkbaaDoorAkP
import Derived.Deep.QuietTactic
import Derived.BigQuiet
namespace Go.Proofs.YtipnglidepfkbaaDoor
open Go.RowKit

attribute [local go_sem ↓] Go.wp_at_zero Go.wp_at_succ

set_option maxRecDepth 100000 in
theorem check_any (s : List UInt8) (w : World) (hs : s.length ≤ 1000000) :
    Calls Tryd.prog 50 #[.string (St8 s)] w fun e w' => e = .returned (.int .i64 (if (partsM s).2 = true then 0 else 30)) ∧ Below w.heap.size w w' := by
  have hp := Lib.hid (parts_any s w hs)
  by_cases hb : (partsM s).2 = true
  · rw [hb] at hp
    rw [if_pos hb]
    go_enter Tryd.func50, Tryd.ntmps50
    go_wp2_with fail
    refine hp.out.mono ?_
    rintro e w1 ⟨A, c, rfl, _, hb1⟩
    go_wp2_with fail
    go_ret
    exact ⟨rfl, hb1⟩
  · rw [Bool.not_eq_true] at hb
    rw [hb] at hp
    rw [if_neg (by rw [hb]; decide)]
    go_enter Tryd.func50, Tryd.ntmps50
    go_wp2_with fail
    refine hp.out.mono ?_
    rintro e w1 ⟨A, c, rfl, _, hb1⟩
    go_wp2_with fail
    go_ret
    exact ⟨rfl, hb1⟩

section
variable {ps : List Pt} {t : List (List UInt8)} {n i k b f : Nat} {pt : Pt}
theorem mloop_end (h : ¬ k < t.length) : mloop ps t (n + 1) i k b f = (ps.drop i).all fun p => p.kind == 37 := by
  rw [mloop, if_neg h]
theorem mloop_any (h : k < t.length) (hp : ps[i]? = some pt) (hk : pt.kind = 37) : mloop ps t (n + 1) i k b f = mloop ps t n (i + 1) k (i + 1) k := by
  rw [mloop, if_pos h, hp, if_pos (by rw [← hk]; rfl)]
theorem mloop_one (h : k < t.length) (hp : ps[i]? = some pt) (hk : ¬ pt.kind = 37) (ho : pt.kind = 95 ∨ pt = ⟨0, t.getD k []⟩) : mloop ps t (n + 1) i k b f = mloop ps t n (i + 1) (k + 1) b f := by
  rw [mloop, if_pos h, hp, if_neg (by intro e; exact hk (Option.some.inj e)), if_pos (by
    rcases ho with h | h
    · exact .inl (by rw [← h]; rfl)
    · exact .inr (by rw [h]))]
theorem mloop_back (h : k < t.length) (hn : ∀ pt, ps[i]? = some pt → ¬ pt.kind = 37 ∧ ¬ pt.kind = 95 ∧ pt ≠ ⟨0, t.getD k []⟩) : mloop ps t (n + 1) i k b f = if 0 < b then mloop ps t n b (f + 1) b (f + 1) else false := by
  rw [mloop, if_pos h]
  cases hp : ps[i]? with
  | none => rw [if_neg (by simp), if_neg (by simp)]
  | some pt =>
    obtain ⟨h1, h2, h3⟩ := hn pt hp
    rw [if_neg (by intro e; exact h1 (Option.some.inj e)), if_neg (by
      rintro (e | e)
      · exact h2 (Option.some.inj e)
      · exact h3 (Option.some.inj e))]
end
theorem meas_next {T P i k f : Nat} (h : i < P) (hf : f ≤ k) (hk : k < T) : (T - k) * (P + 1) + (P - (i + 1)) < (T - f) * (P + 1) + (P - i) := by
  have := Nat.mul_le_mul_right (P + 1) (show T - k ≤ T - f by omega)
  omega
theorem meas_back {T P i b f : Nat} (hf : f < T) : (T - (f + 1)) * (P + 1) + (P - b) < (T - f) * (P + 1) + (P - i) := by
  have : (T - f) * (P + 1) = (T - (f + 1)) * (P + 1) + (P + 1) := by rw [show T - f = (T - (f + 1)) + 1 from by omega, Nat.succ_mul]
  omega
theorem pcell0 {ps : List Pt} {i : Nat} {pt : Pt} (h : ps[i]? = some pt) : (pcells ps)[i * 2]? = some (.int .i32 pt.kind) := pcells_get ps i pt 0 h (by omega)
theorem pcell1 {ps : List Pt} {i : Nat} {pt : Pt} (h : ps[i]? = some pt) : (pcells ps)[i * 2 + 1]? = some (.string (St8 pt.letter)) := pcells_get ps i pt 1 h (by omega)

set_option maxHeartbeats 16000000 in
set_option maxRecDepth 100000 in
theorem match_any (p s : List UInt8) (w : World) (hp : p.length ≤ 1000000) (hs : s.length ≤ 1000000) :
    Calls Tryd.prog 58 #[.string (St8 p), .string (St8 s)] w fun e w' => (∃ er, e = .returned (.tuple #[.bool (matchM p s), .int .i64 er])) ∧ Below w.heap.size w w' := by
  have hpw := parts_any p w hp
  have hM : Hid (matchM p s = ((partsM p).2 && mloop (partsM p).1 (letters s) (((letters s).length + 1) * ((partsM p).1.length + 1)) 0 0 0 0)) := rfl
  have HP : Hid ((partsM p).1.length ≤ p.length) := partsM_len p
  by_cases hb : (partsM p).2 = true
  · rw [hb] at hpw hM
    rw [Bool.true_and] at hM
    have hTl := letters_le s
    have hlw := Lib.hid (fun w' => letters_any s w' hs)
    generalize (partsM p).1 = ps at *
    generalize letters s = t at *
    generalize matchM p s = R at *
    obtain ⟨P, hP⟩ : ∃ P, ps.length = P := ⟨_, rfl⟩
    obtain ⟨T, hT⟩ : ∃ T, t.length = T := ⟨_, rfl⟩
    have Hp := Lib.hid hP
    have Ht := Lib.hid hT
    rw [hT] at hTl
    have hPl : P ≤ 1000000 := by rw [← hP]; exact Nat.le_trans HP.out hp
    have hTl2 : T ≤ 1000000 := Nat.le_trans hTl hs
    rw [hP, hT] at hM
    rw [hP] at hpw
    have Hpw := Lib.hid hpw
    clear hpw hb hP hT HP hTl
    go_enter Tryd.func58, Tryd.ntmps58
    go_wp2_with fail
    refine Hpw.out.mono ?_
    rintro e w1 ⟨PA, pc, rfl, hpo, hb1⟩
    have hpcap := hpo.cap
    have Hpo := Lib.hid hpo.rd
    have hl2 := hlw.out w1
    rw [Ht.out] at hl2
    have Hl2 := Lib.hid hl2
    have Hb1 := Lib.hid hb1
    clear hpo hb1 Hpw hlw hl2
    go_wp2_with fail
    refine Hl2.out.mono ?_
    rintro e w2 ⟨TA, tc, rfl, hto, hb2⟩
    have htcap := hto.cap
    have Hto := Lib.hid hto.rd
    have Hpo2 := Lib.hid (Hpo.out.below hb2)
    have Hb2 := Lib.hid (Hb1.out.trans (hb2.mono Hb1.out.size))
    clear hto hb2 Hl2 Hb1 Hpo
    go_wp2_with fail
    go_loopw [9, 10, 11, 12] (fun vi vk vb vf wr => ∃ (N i k b f : Nat), vi = .int .i64 i ∧ vk = .int .i64 k ∧ vb = .int .i64 ((b : Int) - 1) ∧ vf = .int .i64 f ∧ i ≤ P ∧ b ≤ P ∧ f ≤ k ∧ k ≤ T ∧ (T - f) * (P + 1) + (P - i) < N ∧ Hid (R = mloop ps t N i k b f) ∧ Hid (Below w2.heap.size w2 wr)) (fun vi _ _ vf _ => (T - (intOf vf).toNat) * (P + 1) + (P - (intOf vi).toNat))
    case atStart => exact ⟨(T + 1) * (P + 1), 0, 0, 0, 0, rfl, rfl, rfl, rfl, by omega, by omega, by omega, by omega, by rw [Nat.succ_mul]; simp only [Nat.sub_zero]; omega, hM, Below.refl _ _⟩
    case round =>
      clear hM
      obtain ⟨N, i, k, b, f, rfl, rfl, rfl, rfl, hi, hb, hfk, hkT, hN, HR, Hb⟩ := hrel
      obtain ⟨M, rfl⟩ : ∃ M, N = M + 1 := ⟨N - 1, by omega⟩
      by_cases hk : k < T
      · have hkt : k < t.length := by rw [Ht.out]; exact hk
        have htk : t[k]? = some (t.getD k []) := by rw [List.getD, List.getElem?_eq_getElem hkt]; rfl
        obtain ⟨tb, to, rfl, htr⟩ := (Hto.out.below Hb.out) (by intro e; have := congrArg List.length e; rw [scells_len, List.length_nil] at this; omega)
        have ct := htr k _ (scells_get htk)
        have hkI0 : (0 : Int) ≤ (k : Int) := by omega
        have hkI : (k : Int) < (T : Int) := by omega
        have hiI0 : (0 : Int) ≤ (i : Int) := by omega
        by_cases hip : i < P
        · have hil : i < ps.length := by rw [Hp.out]; exact hip
          have hpi := List.getElem?_eq_getElem hil
          generalize hpt : ps[i] = pt at *
          obtain ⟨pb, po, rfl, hpr⟩ := (Hpo2.out.below Hb.out) (by intro e; have := congrArg List.length e; rw [pcells_len, List.length_nil] at this; omega)
          have c0 := hpr (i * 2) _ (pcell0 hpi)
          have c1 := hpr (i * 2 + 1) _ (pcell1 hpi)
          rw [← Nat.add_assoc] at c1
          have hiI : (i : Int) < (P : Int) := by omega
          obtain ⟨kd, lt⟩ := pt
          dsimp only at c0 c1
          by_cases h37 : kd = 37
          · subst h37
            rw [mloop_any hkt hpi rfl] at HR
            have hms := meas_next (P := P) hip hfk hk
            clear htr hpr hpt hpi hil htk
            go_wp2_with fail
            go_roundw
            case rel => exact ⟨M, i + 1, k, i + 1, k, by go_num, rfl, by go_num, rfl, by omega, by omega, by omega, by omega, by omega, HR, Hb⟩
            case measure => simp only [intOf, Int.toNat_natCast]; omega
          · have e37 : (kd == 37) = false := by rw [beq_eq_false_iff_ne]; exact h37
            generalize hlk : t.getD k [] = lk at *
            by_cases h95 : kd = 95
            · subst h95
              rw [mloop_one hkt hpi h37 (.inl rfl)] at HR
              have hms := meas_next (P := P) (k := f) hip (Nat.le_refl _) (show f < T by omega)
              clear htr hpr hpt hpi hil htk
              go_wp2_with fail
              go_quiet (fail)
              go_wp2_with fail
              go_roundw
              case rel => exact ⟨M, i + 1, k + 1, b, f, by go_num, by go_num, rfl, rfl, by omega, hb, by omega, by omega, by omega, HR, below_drewN' Hb.out _⟩
              case measure => simp only [intOf, Int.toNat_natCast]; omega
            · have e95 : (kd == 95) = false := by rw [beq_eq_false_iff_ne]; exact h95
              by_cases h0 : kd = 0
              · subst h0
                by_cases hl : lt = lk
                · subst hl
                  rw [mloop_one hkt hpi h37 (.inr (by rw [hlk]))] at HR
                  have hms := meas_next (P := P) (k := f) hip (Nat.le_refl _) (show f < T by omega)
                  clear htr hpr hpt hpi hil htk
                  go_wp2_with fail
                  go_quiet (fail)
                  go_wp2_with fail
                  go_roundw
                  case rel => exact ⟨M, i + 1, k + 1, b, f, by go_num, by go_num, rfl, rfl, by omega, hb, by omega, by omega, by omega, HR, below_drewN' Hb.out _⟩
                  case measure => simp only [intOf, Int.toNat_natCast]; omega
                · have h2 := St8_cmp lt lk
                  have h3 := St8_eq lt lk
                  rw [mloop_back hkt (by intro pt2 e; rw [hpi] at e; cases e; exact ⟨h37, h95, by intro e2; rw [hlk] at e2; cases e2; exact hl rfl⟩)] at HR
                  have hms := meas_back (T := T) (P := P) (i := i) (b := b) (f := f) (by omega)
                  clear htr hpr hpt hpi hil htk
                  by_cases hb0 : 0 < b
                  · rw [if_pos hb0] at HR
                    have hbI : (0 : Int) ≤ (b : Int) - 1 := by omega
                    go_wp2_with fail
                    go_quiet (fail)
                    go_wp2_with fail
                    go_roundw
                    case rel => exact ⟨M, b, f + 1, b, f + 1, by go_num, by go_num, rfl, by go_num, hb, hb, by omega, by omega, by omega, HR, below_drewN' Hb.out _⟩
                    case measure =>
                      have e1 : ((f : Int) + 1).toNat = f + 1 := by omega
                      simp only [intOf, Int.toNat_natCast, e1]
                      omega
                  · rw [if_neg hb0] at HR
                    obtain rfl : b = 0 := by omega
                    go_wp2_with fail
                    go_quiet (fail)
                    go_wp2_with fail
                    go_ret2
                    rw [HR.out]
                    exact ⟨⟨_, rfl⟩, below_drewN' (Hb2.out.trans (Hb.out.mono Hb2.out.size)) _⟩
              · have e0 : (kd == 0) = false := by rw [beq_eq_false_iff_ne]; exact h0
                rw [mloop_back hkt (by intro pt2 e; rw [hpi] at e; cases e; exact ⟨h37, h95, by intro e2; cases e2; exact h0 rfl⟩)] at HR
                have hms := meas_back (T := T) (P := P) (i := i) (b := b) (f := f) (by omega)
                clear htr hpr hpt hpi hil htk
                by_cases hb0 : 0 < b
                · rw [if_pos hb0] at HR
                  have hbI : (0 : Int) ≤ (b : Int) - 1 := by omega
                  go_wp2_with fail
                  go_quiet (fail)
                  go_wp2_with fail
                  go_roundw
                  case rel => exact ⟨M, b, f + 1, b, f + 1, by go_num, by go_num, rfl, by go_num, hb, hb, by omega, by omega, by omega, HR, below_drewN' Hb.out _⟩
                  case measure =>
                    have e1 : ((f : Int) + 1).toNat = f + 1 := by omega
                    simp only [intOf, Int.toNat_natCast, e1]
                    omega
                · rw [if_neg hb0] at HR
                  obtain rfl : b = 0 := by omega
                  go_wp2_with fail
                  go_quiet (fail)
                  go_wp2_with fail
                  go_ret2
                  rw [HR.out]
                  exact ⟨⟨_, rfl⟩, below_drewN' (Hb2.out.trans (Hb.out.mono Hb2.out.size)) _⟩
        · have hiI : ¬ (i : Int) < (P : Int) := by omega
          have hdi : decide ((i : Int) < (P : Int)) = false := decide_eq_false hiI
          have hpn : ps[i]? = none := List.getElem?_eq_none (by rw [Hp.out]; omega)
          rw [mloop_back hkt (by intro pt2 e; rw [hpn] at e; cases e)] at HR
          have hpi : True := trivial
          have hpr : True := trivial
          have hpt : True := trivial
          have hil : True := trivial
          have hms := meas_back (T := T) (P := P) (i := i) (b := b) (f := f) (by omega)
          clear htr hpr hpt hpi hil htk
          by_cases hb0 : 0 < b
          · rw [if_pos hb0] at HR
            have hbI : (0 : Int) ≤ (b : Int) - 1 := by omega
            go_wp2_with fail
            go_quiet (fail)
            go_wp2_with fail
            go_roundw
            case rel => exact ⟨M, b, f + 1, b, f + 1, by go_num, by go_num, rfl, by go_num, hb, hb, by omega, by omega, by omega, HR, below_drewN' Hb.out _⟩
            case measure =>
              have e1 : ((f : Int) + 1).toNat = f + 1 := by omega
              simp only [intOf, Int.toNat_natCast, e1]
              omega
          · rw [if_neg hb0] at HR
            obtain rfl : b = 0 := by omega
            go_wp2_with fail
            go_quiet (fail)
            go_wp2_with fail
            go_ret2
            rw [HR.out]
            exact ⟨⟨_, rfl⟩, below_drewN' (Hb2.out.trans (Hb.out.mono Hb2.out.size)) _⟩
      · rw [mloop_end (by rw [Ht.out]; exact hk)] at HR
        obtain ⟨wz, rfl⟩ : ∃ z : World, z = wr := ⟨_, rfl⟩
        have hkI : ¬ (k : Int) < (T : Int) := by omega
        go_wp2_with fail
        go_loopw [9] (fun vi wr => ∃ (i : Nat), vi = .int .i64 i ∧ i ≤ P ∧ Hid (R = (ps.drop i).all fun p => p.kind == 37) ∧ Hid (Below w2.heap.size w2 wr)) (fun vi _ => P - (intOf vi).toNat)
        case atStart => exact ⟨i, rfl, hi, HR, Hb⟩
        case round =>
          clear HR Hb
          obtain ⟨j, rfl, hj, HR, Hb⟩ := hrel
          by_cases hjp : j < P
          · have hil : j < ps.length := by rw [Hp.out]; exact hjp
            have hdc := List.drop_eq_getElem_cons hil
            have hpi := List.getElem?_eq_getElem hil
            generalize hpt : ps[j] = pt at *
            obtain ⟨pb, po, rfl, hpr⟩ := (Hpo2.out.below Hb.out) (by intro e; have := congrArg List.length e; rw [pcells_len, List.length_nil] at this; omega)
            have c0 := hpr (j * 2) _ (pcell0 hpi)
            rw [hdc, List.all_cons] at HR
            obtain ⟨kd, lt⟩ := pt
            dsimp only at c0 HR
            have hjI : (j : Int) < (P : Int) := by omega
            have hjI0 : (0 : Int) ≤ (j : Int) := by omega
            by_cases h37 : kd = 37
            · subst h37
              clear hpr hpt hpi hil hdc
              go_wp2_with fail
              go_roundw
              case rel => exact ⟨j + 1, by go_num, by omega, HR, Hb⟩
              case measure => simp [intOf]; omega
            · have e37 : (kd == 37) = false := by rw [beq_eq_false_iff_ne]; exact h37
              have HRf : Hid (R = false) := by show _ = _; rw [HR.out, e37]; rfl
              have hjne : ((j : Int) == (P : Int)) = false := by rw [beq_eq_false_iff_ne]; omega
              clear hpr hpt hpi hil hdc HR
              go_wp2_with fail
              go_ret2
              rw [HRf.out]
              exact ⟨⟨_, rfl⟩, Hb2.out.trans (Hb.out.mono Hb2.out.size)⟩
          · obtain rfl : j = P := by omega
            have HRt : Hid (R = true) := by show _ = _; rw [HR.out, List.drop_eq_nil_of_le (by rw [Hp.out]; omega)]; rfl
            clear HR
            go_wp2_with fail
            go_ret2
            rw [HRt.out]
            exact ⟨⟨_, rfl⟩, Hb2.out.trans (Hb.out.mono Hb2.out.size)⟩
  · rw [Bool.not_eq_true] at hb
    rw [hb] at hpw hM
    rw [Bool.false_and] at hM
    have Hpw := Lib.hid hpw
    clear hpw
    go_enter Tryd.func58, Tryd.ntmps58
    go_wp2_with fail
    refine Hpw.out.mono ?_
    rintro e w1 ⟨A, c, rfl, _, hb1⟩
    go_wp2_with fail
    go_ret2
    rw [hM.out]
    exact ⟨⟨_, rfl⟩, hb1⟩
end Go.Proofs.YtipnglidepfkbaaDoor
