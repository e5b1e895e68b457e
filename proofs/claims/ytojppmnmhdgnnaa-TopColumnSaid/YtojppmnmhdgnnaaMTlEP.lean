/- How long a column's bytes are; what Take tells of what was put (plain, and as contracts). (Printed by gen_tle.py.) How long the bytes of up to 100 values are: plain laws. The walk of ColumnBack. (Printed by gen_tlf.py.) -/
import Derived.Test.YtojppmnmhdgnnaaMTlCD
import Derived.Test.YtojppmnmhdgnnaaMColW
namespace Go.Proofs.Ytojppmnmhdgnnaa
set_option linter.unusedVariables false
set_option linter.unusedSimpArgs false
open Go.RowKit

theorem layP_le3 {kind how : Int} {N : List Int} {X : List (List UInt8)} (hN : ∀ x ∈ N, -9223372036854775808 ≤ x ∧ x ≤ 9223372036854775807) (hNl : N.length ≤ 4096) (hX : ∀ s ∈ X, s.length ≤ 1024) (hXl : X.length ≤ 300) : (layP kind how N X).1.length ≤ 380000 := by
  have h1 := flatN_le hN hNl N.length
  have h2 : (flatX X).length ≤ 309900 := by
    have b := fmap_le (fun s : List UInt8 => numB s.length ++ s) 1033 X fun s hs => by
      have h1 := hX s hs
      have h2 := numB_le9 (n := s.length) (by omega)
      rw [List.length_append]
      omega
    unfold flatX
    omega
  rw [List.take_length] at h1
  have hp : (flatN N ++ flatX X).length ≤ 380000 := by rw [List.length_append]; omega
  unfold layP
  split
  · exact hp
  · split
    · have := runsB_le hN hNl
      show (runsB N).length ≤ 380000
      omega
    · split
      · have := frameB_le hN hNl
        show (frameB N).length ≤ 380000
        omega
      · split
        · cases hw : wordsB X with
          | none => exact hp
          | some b =>
            show b.length ≤ 380000
            unfold wordsB at hw
            cases ho : ofM X with
            | none => rw [ho] at hw; cases hw
            | some Wp =>
              obtain ⟨W, p⟩ := Wp
              obtain ⟨a1, a2, a3, a4⟩ := places_in ho
              obtain ⟨q, hq⟩ := putM_of ho
              have h3 := frameB_le a4 (by omega)
              rw [ho, Option.bind_some, hq] at hw
              injection hw with hw
              dsimp only at hw
              unfold putM at hq
              rw [if_pos a3] at hq
              injection hq with hq
              have b1 := numB_le9 (n := W.length) (by omega)
              have b2 := putF_len W [] (by simp) (fun x hx => (rightW_le a3).1 x hx)
              have b3 : W.length * 1042 ≤ 200 * 1042 := Nat.mul_le_mul_right _ (by omega)
              rw [← hw, List.length_append, ← hq, List.length_append]
              omega
        · split
          · cases hd : deltaB N with
            | none => exact hp
            | some b =>
              show b.length ≤ 380000
              unfold deltaB at hd
              cases hs : stepsM 0 N with
              | none => rw [hs] at hd; cases hd
              | some s =>
                rw [hs] at hd
                injection hd with hd
                dsimp only at hd
                obtain ⟨s1, s2⟩ := stepsM_len N 0 s hs
                have := steps_part s N.length hNl (by omega) s2
                rw [← hd]
                omega
          · exact hp
/-- What Put tells, when it tells something. -/
theorem cput_two (kind how : Int) (l : RowM) : (∃ E, E ≠ 0 ∧ cputM kind how l = ([], 0, E)) ∨ (kindOk kind = true ∧ howOk how = true ∧ l.all (fitV kind) = true ∧ cputM kind how l = ((colB kind how l).1, (colB kind how l).2, 0)) := by
  unfold cputM
  split
  · exact .inl ⟨1, by decide, rfl⟩
  · rename_i h
    rw [Bool.not_eq_false, Bool.and_eq_true] at h
    split
    · rename_i h2
      exact .inr ⟨h.1, h.2, h2, rfl⟩
    · exact .inl ⟨7, by decide, rfl⟩
theorem colB_le {kind how : Int} {l : RowM} (hall : l.all (fitV kind) = true) (hok : ∀ v ∈ l, v.ok) (hl : l.length ≤ 300) : (colB kind how l).1.length ≤ 500000 := by
  have hNi := nums_in (kind := kind) hok
  have hXi := texts_in hall
  have hNl : (numsK kind l).length ≤ 4096 := by
    unfold numsK numsM
    split
    · simp
    · rw [List.length_map]; exact Nat.le_trans (someM_le l) (by omega)
  have hXl : (textsK kind l).length ≤ 300 := by
    unfold textsK textsM
    split
    · rw [List.length_map]; exact Nat.le_trans (someM_le l) hl
    · simp
  have hrl := runsB_le (there_in l) (by rw [thereM_len]; omega)
  have hll := layP_le3 (kind := kind) (how := how) hNi hNl hXi hXl
  have h9 := numB_le9 (n := (runsB (thereM l)).length) (by omega)
  unfold colB
  rw [lay_parts]
  dsimp only
  rw [List.length_cons, List.length_append, List.length_append]
  omega
theorem nums_ok {l : RowM} (hok : ∀ v ∈ l, v.ok) : NumsIn l := fun v hv => (hok v hv).n
theorem ctakeM_in {kind : Int} {b : List UInt8} {l : RowM} (hk : 0 ≤ kind ∧ kind ≤ 255) (h : ctakeM kind b = some l) : l.length ≤ 4096 ∧ ∀ v ∈ l, v.ok := by
  unfold ctakeM at h
  obtain ⟨⟨th, r⟩, hs, h⟩ := Option.bind_eq_some_iff.1 h
  split at h
  · rename_i hc
    obtain ⟨⟨n, x⟩, ht, h⟩ := Option.bind_eq_some_iff.1 h
    obtain ⟨m, hj, h⟩ := Option.bind_eq_some_iff.1 h
    split at h
    · obtain rfl := Option.some.inj h
      obtain ⟨h1, -⟩ := splitM_in hs
      have h2 := takesM_in ht (Nat.le_trans (odd_le th) h1) hc
      obtain ⟨h3, h4⟩ := joinF_in kind hk th n x m hj h2.2.2.1 h2.2.2.2.1
      exact ⟨by rw [h3]; exact h1, h4⟩
    · cases h
  · cases h
/-- Take of what was put. -/
theorem ctake_put {kind how : Int} {X : RowM} (hk : kindOk kind = true) (hh : howOk how = true) (hall : X.all (fitV kind) = true) (hok : ∀ v ∈ X, v.ok) (hl : X.length ≤ 300) {w : World} {e : Ending} {w' : World} (h : CTakeOK kind (colB kind how X).1 w e w') :
    (∃ A d, e = .returned (.tuple #[.slice A X.length d, .int .u8 (colB kind how X).2, .int .i64 0]) ∧ Rd w' A (rcells X)) ∧ Below w.heap.size w w' := by
  obtain ⟨h1, h2⟩ := col_round hk hh hall (nums_ok hok) (by omega)
  obtain ⟨h | h | ⟨l, A, d, -, h3, he, hr⟩, hb⟩ := h
  · rw [hk] at h
    cases h.1
  · rw [h1] at h
    cases h.2.1
  · rw [h1] at h3
    obtain rfl := Option.some.inj h3
    rw [h2] at he
    exact ⟨⟨A, d, he, hr⟩, hb⟩
theorem CPutOK.uniB {kind how : Int} {l : RowM} {w w' : World} {e : Ending} (h : CPutOK kind how l w e w') {b : List UInt8} {u E : Int} (hb : cputM kind how l = (b, u, E)) {n : Nat} (hn : b.length = n) :
    (∃ A c, e = .returned (.tuple #[.slice A n c, .int .u8 u, .int .i64 E]) ∧ Own w' w.heap.size 5 1 A n c (Bs b)) ∧ Below w.heap.size w w' := by
  unfold CPutOK at h
  rw [hb] at h
  subst hn
  exact h
theorem rdTake9 {w : World} {A : Option Addr} {u : List UInt8} (h : Rd w A (Bs u)) (m : Nat) : Rd w A (Bs (u.take m)) := rdTake8 h m
end Go.Proofs.Ytojppmnmhdgnnaa
namespace Go.Proofs.Ytojppmnmhdgnnaa
set_option linter.unusedVariables false
set_option linter.unusedSimpArgs false
open Go.RowKit

theorem runsB_100 {l : List Int} (h : l.length ≤ 100) (hi : ∀ x ∈ l, -9223372036854775808 ≤ x ∧ x ≤ 9223372036854775807) : (runsB l).length ≤ 1809 := by
  have h1 := runsF_len l 0
  have h2 := fmap_le runB 18 (runsM l) fun r hr => by
    have b := (runsF_many l 0 r hr).2
    exact runB_le (hi _ (runsF_mem l 0 r hr)) (by omega)
  have h3 : (runsM l).length ≤ 100 := Nat.le_trans h1 h
  have h4 : (runsM l).length * 18 ≤ 100 * 18 := Nat.mul_le_mul_right _ h3
  have c := numB_le9 (n := (runsM l).length) (by omega)
  unfold runsB
  rw [List.length_append]
  omega
theorem frameB_100 {l : List Int} (h : ∀ x ∈ l, -9223372036854775808 ≤ x ∧ x ≤ 9223372036854775807) (hl : l.length ≤ 100) : (frameB l).length ≤ 900 := by
  unfold frameB
  have h1 := numB_le9 (n := l.length) (by omega)
  rw [List.length_append]
  split
  · simp only [List.length_nil]; omega
  · rename_i hne
    have h2 := numB_le9 (zigN_lt (h _ (least_mem hne)))
    have h3 := width_64 (moreM_lt h)
    have h4 := numB_le9 (n := widthM (moreM l)) (by omega)
    rw [List.length_append, List.length_append, packB_len, moreM_len]
    have h5 : l.length * widthM (moreM l) ≤ 100 * 64 := Nat.mul_le_mul hl h3
    unfold bytesN
    omega
theorem layP_100 {kind how : Int} {N : List Int} {X : List (List UInt8)} (hN : ∀ x ∈ N, -9223372036854775808 ≤ x ∧ x ≤ 9223372036854775807) (hNl : N.length ≤ 100) (hX : ∀ s ∈ X, s.length ≤ 1024) (hXl : X.length ≤ 100) : (layP kind how N X).1.length ≤ 210000 := by
  have h1 : (flatN N).length ≤ 900 := by
    have b := fmap_le (fun n => numB (zigN n)) 9 N fun x hx => numB_le9 (zigN_lt (hN x hx))
    unfold flatN
    omega
  have h2 : (flatX X).length ≤ 103300 := by
    have b := fmap_le (fun s : List UInt8 => numB s.length ++ s) 1033 X fun s hs => by
      have h1 := hX s hs
      have h2 := numB_le9 (n := s.length) (by omega)
      rw [List.length_append]
      omega
    unfold flatX
    omega
  have hp : (flatN N ++ flatX X).length ≤ 210000 := by rw [List.length_append]; omega
  unfold layP
  split
  · exact hp
  · split
    · have := runsB_100 hNl hN
      show (runsB N).length ≤ 210000
      omega
    · split
      · have := frameB_100 hN hNl
        show (frameB N).length ≤ 210000
        omega
      · split
        · cases hw : wordsB X with
          | none => exact hp
          | some b =>
            show b.length ≤ 210000
            unfold wordsB at hw
            cases ho : ofM X with
            | none => rw [ho] at hw; cases hw
            | some Wp =>
              obtain ⟨W, p⟩ := Wp
              obtain ⟨a1, a2, a3, a4⟩ := places_in ho
              obtain ⟨q, hq⟩ := putM_of ho
              have h3 := frameB_100 a4 (by omega)
              rw [ho, Option.bind_some, hq] at hw
              injection hw with hw
              dsimp only at hw
              unfold putM at hq
              rw [if_pos a3] at hq
              injection hq with hq
              have b1 := numB_le9 (n := W.length) (by omega)
              have b2 := putF_len W [] (by simp) (fun x hx => (rightW_le a3).1 x hx)
              have b3 : W.length * 1042 ≤ 200 * 1042 := Nat.mul_le_mul_right _ (by omega)
              rw [← hw, List.length_append, ← hq, List.length_append]
              omega
        · split
          · cases hd : deltaB N with
            | none => exact hp
            | some b =>
              show b.length ≤ 210000
              unfold deltaB at hd
              cases hs : stepsM 0 N with
              | none => rw [hs] at hd; cases hd
              | some s =>
                rw [hs] at hd
                injection hd with hd
                dsimp only at hd
                obtain ⟨s1, s2⟩ := stepsM_len N 0 s hs
                have := steps_part s N.length (by omega) (by omega) s2
                rw [← hd]
                omega
          · exact hp
theorem colB_100 {kind how : Int} {l : RowM} (hall : l.all (fitV kind) = true) (hok : ∀ v ∈ l, v.ok) (hl : l.length ≤ 100) : (colB kind how l).1.length ≤ 215000 ∧ 1 ≤ (colB kind how l).1.length := by
  have hNi := nums_in (kind := kind) hok
  have hXi := texts_in hall
  have hNl : (numsK kind l).length ≤ 100 := by
    unfold numsK numsM
    split
    · simp
    · rw [List.length_map]; exact Nat.le_trans (someM_le l) hl
  have hXl : (textsK kind l).length ≤ 100 := by
    unfold textsK textsM
    split
    · rw [List.length_map]; exact Nat.le_trans (someM_le l) hl
    · simp
  have hrl := runsB_100 (l := thereM l) (by rw [thereM_len]; omega) (there_in l)
  have hll := layP_100 (kind := kind) (how := how) hNi hNl hXi hXl
  have h9 := numB_le9 (n := (runsB (thereM l)).length) (by omega)
  unfold colB
  rw [lay_parts]
  dsimp only
  rw [List.length_cons, List.length_append, List.length_append]
  omega

theorem cput_good {kind how : Int} {l : RowM} (hk : kindOk kind = true) (hh : howOk how = true) (hall : l.all (fitV kind) = true) : cputM kind how l = ((colB kind how l).1, (colB kind how l).2, 0) := by
  unfold cputM
  rw [hk, hh, if_neg (by decide), if_pos hall]
/-- What the first loop has taken. -/
structure TopX (K : Int) (X : RowM) (j : Nat) : Prop where
  kind : 1 ≤ K ∧ K ≤ 3
  all_ : X.all (fitV K) = true
  ok : ∀ v ∈ X, v.ok
  le : X.length ≤ j
  h : X.length ≤ 100
theorem TopX.more {K : Int} {X : RowM} {j : Nat} (t : TopX K X j) {v : Va} (hj : j < 100) (hf : rightV v = true) (hk : v.k = K ∨ v.k = 0) (hv : v.ok) : TopX K (X ++ [v]) (j + 1) := by
  have := t.le
  refine ⟨t.kind, ?_, fun x hx => ?_, by simp; omega, by simp; omega⟩
  · rw [List.all_append, t.all_]
    unfold fitV
    rcases hk with hk | hk
    · simp [hf, hk]
    · simp [hf, hk]
  · rcases List.mem_append.1 hx with hx | hx
    · exact t.ok x hx
    · rw [List.mem_singleton] at hx
      subst hx
      exact hv
theorem TopX.skip {K : Int} {X : RowM} {j : Nat} (t : TopX K X j) : TopX K X (j + 1) := ⟨t.kind, t.all_, t.ok, by have := t.le; omega, t.h⟩
theorem TopX.first {K : Int} {X : RowM} (t : TopX K X 0) {v : Va} (hf : rightV v = true) (hk : v.k ≠ 0) : TopX v.k X 0 := by
  have h0 : X = [] := List.length_eq_zero_iff.1 (Nat.le_zero.1 t.le)
  subst h0
  refine ⟨?_, rfl, fun v h => (by cases h), by simp, by simp⟩
  rcases right_kinds hf with rfl | ⟨b, rfl⟩ | ⟨n, rfl⟩ | ⟨s, rfl, _⟩
  · exact absurd rfl hk
  · exact ⟨by dsimp only; omega, by dsimp only; omega⟩
  · exact ⟨by dsimp only; omega, by dsimp only; omega⟩
  · exact ⟨by dsimp only; omega, by dsimp only; omega⟩
end Go.Proofs.Ytojppmnmhdgnnaa
namespace Go.Proofs.Ytojppmnmhdgnnaa
set_option linter.unusedVariables false
set_option linter.unusedSimpArgs false
open Go.RowKit

attribute [local go_sem ↓] Go.wp_at_zero Go.wp_at_succ

theorem colB_used (kind how : Int) (l : RowM) : (colB kind how l).2 = how ∨ (colB kind how l).2 = 1 := by
  show (layM kind how l).2 = how ∨ (layM kind how l).2 = 1
  unfold layM
  split
  · exact .inr rfl
  · split
    · rename_i h; exact .inl h.symm
    · split
      · rename_i h; exact .inl h.symm
      · split
        · rename_i h
          split
          · exact .inl h.symm
          · exact .inr rfl
        · split
          · rename_i h
            split
            · exact .inl h.symm
            · exact .inr rfl
          · exact .inr rfl

set_option maxHeartbeats 16000000 in
set_option maxRecDepth 100000 in
theorem columnback_walk (kind : Int) (l : RowM) (n c : Nat) (A : Option Addr) (b : List UInt8) (nb cb : Nat) (B0 : Option Addr) (w : World) (hl : l.length = n) (hr : Rd w A (rcells l)) (hok : ∀ v ∈ l, v.ok) (hnc : n ≤ c) (hc : c ≤ 9223372036854775807) (hkb : 0 ≤ kind ∧ kind ≤ 255)
    (hbl : b.length = nb) (hbr : Rd w B0 (Bs b)) (hnb : nb ≤ cb) (hcb : cb ≤ 9223372036854775807) :
    Calls Try.prog 7 #[.int .u8 kind, .slice A n c, .slice B0 nb cb] w fun e w' => e = .returned (.bool true) ∧ Below w.heap.size w w' := by
  have hfw := Lib.hid (fun w' (hb : Below w.heap.size w w') => few_any l n c A w' hl (hr.below hb) hok hnc hc)
  have Hl := Lib.hid hl
  have Hr := Lib.hid hr
  have Hok := Lib.hid hok
  have Hbl := Lib.hid hbl
  have Hbr := Lib.hid hbr
  clear hl hr hok hnc hc hbl hbr
  go_enter Try.func7, Try.ntmps7
  go_wp2_with fail
  refine (shown_any w).mono ?_
  rintro e w0 ⟨rfl, hb0⟩
  have Hb := Lib.hid hb0
  clear hb0
  go_wp2_with fail
  refine (hfw.out w0 Hb.out).mono ?_
  rintro e u1 ⟨⟨K, rfl, hKn, hK3⟩, rfl⟩
  have HX0 := Lib.hid (rd_take Hr.out K)
  have HXok : Hid (∀ v ∈ l.take K, v.ok) := fun v hv => Hok.out v (List.mem_of_mem_take hv)
  have HK : Hid ((l.take K).length = K) := by show _ = _; rw [List.length_take, Hl.out]; omega
  generalize l.take K = X at *
  have Hb00 := Lib.hid Hb.out
  clear hfw
  go_wp2_with fail
  go_loopw [9] (fun v9 wr => ∃ h : Nat, v9 = .int .u8 (h : Int) ∧ 1 ≤ h ∧ h ≤ 6 ∧ Hid (Below w.heap.size w wr)) (fun v9 _ => 6 - (intOf v9).toNat)
  case atStart => exact ⟨1, rfl, by omega, by omega, Hb⟩
  case round =>
    obtain ⟨h, rfl, h1, h6, Hb⟩ := hrel
    by_cases h5 : h ≤ 5
    · have h5I : (h : Int) ≤ 5 := by omega
      have hw8 : IntKind.u8.wrap ((h : Int) + 1) = (h : Int) + 1 := by rw [IntKind.wrap_u8]; omega
      have hpu := Lib.hid (cputc_any kind (h : Int) X K c A wr HK.out (HX0.out.below Hb.out) (by omega) HXok.out hkb (by omega))
      rcases cput_two kind (h : Int) X with ⟨E, hE, hput⟩ | ⟨hk1, hh1, hall, hput⟩
      · have hpu2 := Lib.hid (hpu.out.mono fun _ _ h => CPutOK.uniB h hput rfl)
        have qE : (E != 0) = true := by rw [bne_iff_ne]; exact hE
        clear hpu hE hput
        dsimp only [List.length_nil] at hpu2
        go_wp2_with fail
        refine hpu2.out.mono ?_
        rintro e w2 ⟨⟨A2, c2, rfl, -⟩, hb2⟩
        have Hb2 := Lib.hid (Hb.out.trans (hb2.mono Hb.out.size))
        clear hb2 hpu2
        go_wp2_with fail
        go_roundw
        case rel => exact ⟨h + 1, by go_num, by omega, by omega, Hb2⟩
        case measure => (try simp only [intOf]); omega
      · obtain ⟨L, hL⟩ : ∃ L, (colB kind (h : Int) X).1.length = L := ⟨_, rfl⟩
        have hL5 := colB_le (how := (h : Int)) hall HXok.out (by rw [HK.out]; exact hK3)
        rw [hL] at hL5
        have hus := colB_used kind (h : Int) X
        have hpu2 := Lib.hid (hpu.out.mono fun _ _ h => CPutOK.uniB h hput hL)
        have htp := Lib.hid (fun (w1 w2 : World) (e : Ending) (h : CTakeOK kind (colB kind (h : Int) X).1 w1 e w2) => ctake_put hk1 hh1 hall HXok.out (by rw [HK.out]; exact hK3) h)
        rw [HK.out] at htp
        have HL := Lib.hid hL
        clear hpu hput hk1 hh1 hall hL
        generalize (colB kind (h : Int) X).2 = U at *
        generalize (colB kind (h : Int) X).1 = BB at *
        have gU : (U != U) = false := by simp
        go_wp2_with fail
        refine hpu2.out.mono ?_
        rintro e w2 ⟨⟨A2, c2, rfl, ho2⟩, hb2⟩
        have Hb2 := Lib.hid (Hb.out.trans (hb2.mono Hb.out.size))
        have hcap := ho2.cap
        unfold maxLen at hcap
        have htk := Lib.hid (ctake_any kind BB L c2 A2 w2 hkb HL.out ho2.rd hL5 hcap.1 (by omega))
        clear hb2 hpu2 ho2 hcap
        go_wp2_with fail
        refine htk.out.mono ?_
        intro e w3 h3
        obtain ⟨⟨A3, d3, rfl, hr3⟩, hb3⟩ := htp.out _ _ _ h3
        have Hb3 := Lib.hid (Hb2.out.trans (hb3.mono Hb2.out.size))
        have hsr := Lib.hid (samerow_any X X K K A3 A d3 c w3 HK.out HK.out hr3 (HX0.out.below Hb3.out) (by omega) (by omega))
        rw [show decide (X = X) = true from by simp] at hsr
        clear h3 hb3 hr3 htk htp
        by_cases hUh : U = (h : Int)
        · subst hUh
          go_wp2_with fail
          refine hsr.out.mono ?_
          rintro e w4 ⟨rfl, q, rfl⟩
          have Hb4 := Lib.hid (below_drewN' Hb3.out q)
          clear hsr
          go_wp2_with fail
          go_roundw
          case rel => exact ⟨h + 1, by go_num, by omega, by omega, Hb4⟩
          case measure => (try simp only [intOf]); omega
        · obtain rfl : U = 1 := hus.resolve_left hUh
          have q1 : ((1 : Int) != (h : Int)) = true := by rw [bne_iff_ne]; exact hUh
          clear hus hUh
          go_wp2_with fail
          refine hsr.out.mono ?_
          rintro e w4 ⟨rfl, q, rfl⟩
          have Hb4 := Lib.hid (below_drewN' Hb3.out q)
          clear hsr
          go_wp2_with fail
          go_roundw
          case rel => exact ⟨h + 1, by go_num, by omega, by omega, Hb4⟩
          case measure => (try simp only [intOf]); omega
    · obtain rfl : h = 6 := by omega
      obtain ⟨Y, hY⟩ : ∃ Y, b.take 4000 = Y := ⟨_, rfl⟩
      have Hyr : Hid (Rd w B0 (Bs Y)) := Lib.hid (by rw [← hY]; exact rdTake8 Hbr.out 4000)
      obtain ⟨m, hm⟩ : ∃ m, min nb 4000 = m := ⟨_, rfl⟩
      have hmI : min (nb : Int) 4000 = (m : Int) := by omega
      have hm0 : (0 : Int) ≤ (m : Int) := by omega
      have hmc : (m : Int) ≤ (cb : Int) := by omega
      have hm4 : m ≤ 4000 := by omega
      have hmcN : m ≤ cb := by omega
      have Hyl : Hid (Y.length = m) := by
        show _ = _
        rw [← hY, List.length_take, Hbl.out]
        omega
      clear hY hm
      have htk := Lib.hid (ctake_any kind Y m cb B0 wr hkb Hyl.out (Hyr.out.below Hb.out) (by omega) (by omega) hcb)
      go_wp2_with fail
      refine htk.out.mono ?_
      rintro e w5 ⟨⟨hk0, rfl⟩ | ⟨hk1, hno, rfl⟩ | ⟨l2, LA, ld, hk1, hso, rfl, hrl⟩, hb5⟩
      · have Hb5 := Lib.hid (Hb.out.trans (hb5.mono Hb.out.size))
        clear hb5 htk
        go_wp2_with fail
        go_ret
        exact ⟨rfl, Hb5.out⟩
      · have Hb5 := Lib.hid (Hb.out.trans (hb5.mono Hb.out.size))
        clear hb5 htk hno
        go_wp2_with fail
        go_ret
        exact ⟨rfl, Hb5.out⟩
      · have Hb5 := Lib.hid (Hb.out.trans (hb5.mono Hb.out.size))
        have Hyr5 := Lib.hid (Hyr.out.below Hb5.out)
        obtain ⟨hl4, hok2⟩ := ctakeM_in hkb hso
        have hput2 := ctakeM_put hso
        obtain ⟨L2, hL2⟩ : ∃ L2, l2.length = L2 := ⟨_, rfl⟩
        rw [hL2] at hl4 ⊢
        obtain ⟨H2, hH2⟩ : ∃ H2, howB Y = H2 := ⟨_, rfl⟩
        have hH2b : 0 ≤ H2 ∧ H2 ≤ 255 := by
          rw [← hH2]
          unfold howB
          have := (Y.headD 0).toNat_lt
          omega
        rw [hH2] at hput2 ⊢
        have hpu := Lib.hid ((cputc_any kind H2 l2 L2 ld LA w5 hL2 hrl hl4 hok2 hkb hH2b).mono fun _ _ h => CPutOK.uniB h hput2 Hyl.out)
        have gU : (H2 == H2) = true := by simp
        have gS : ((St8 Y).toList == (St8 Y).toList) = true := by simp
        clear hb5 htk hso hok2 hput2 hL2 hrl hH2
        go_wp2_with fail
        refine hpu.out.mono ?_
        rintro e w6 ⟨⟨A6, c6, rfl, ho6⟩, hb6⟩
        have Hb6 := Lib.hid (Hb5.out.trans (hb6.mono Hb5.out.size))
        have v1 := run_str w6 A6 Y m c6 Hyl.out ho6.rd
        have v2 := run_str w6 B0 Y m cb Hyl.out (Hyr5.out.below hb6)
        clear ho6 hb6 hpu
        go_wp2_with fail
        go_ret
        exact ⟨rfl, Hb6.out⟩
end Go.Proofs.Ytojppmnmhdgnnaa
