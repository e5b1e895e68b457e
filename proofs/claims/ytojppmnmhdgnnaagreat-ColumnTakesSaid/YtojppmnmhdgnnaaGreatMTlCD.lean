/- What a column's bytes tell lies in the ranges that Put asks for: plain data. The walk of column.Take. (Printed by gen_tld.py.) -/
import Derived.Test.YtojppmnmhdgnnaaGreatMTlAB
import Derived.Test.YtojppmnmhdgnnaaGreatMCoLQ
import Derived.Test.YtojppmnmhdgnnaaGreatMStRd
namespace Go.Proofs.YtojppmnmhdgnnaaGreat
set_option linter.unusedVariables false
set_option linter.unusedSimpArgs false
open Go.RowKit

theorem i64_and_one (x : Int) : bits .and .i64 x 1 = x % 2 := by
  show IntKind.i64.wrap ((BitVec.ofInt 64 x &&& BitVec.ofInt 64 1).toNat : Int) = _
  have h1 : BitVec.ofInt 64 1 = 1#64 := by decide
  have h2 : (1#64).toNat = 1 := by decide
  rw [h1, BitVec.toNat_and, h2, Nat.and_one_is_mod, BitVec.toNat_ofInt, IntKind.wrap_i64]
  omega
theorem odd_snoc {l : List Int} {i : Nat} (h : i < l.length) : oddM (l.take (i + 1)) = oddM (l.take i) + (l[i] % 2).toNat := by
  unfold oddM
  rw [List.take_succ_eq_append_getElem h, List.map_append, List.sum_append]
  simp
theorem odd_le : ∀ l : List Int, oddM l ≤ l.length
  | [] => Nat.le_refl _
  | x :: l => by
    have ih := odd_le l
    unfold oddM at *
    rw [List.map_cons, List.sum_cons, List.length_cons]
    omega
abbrev In64 (x : Int) : Prop := -9223372036854775808 ≤ x ∧ x ≤ 9223372036854775807
theorem runsRd_in : ∀ (n : Nat) (u : List UInt8) (x : List (Int × Nat) × List UInt8), runsRd n u = some x → ∀ r ∈ x.1, In64 r.1
  | 0, u, x, h => by
    rw [runsRd] at h
    cases h
    intro r hr
    cases hr
  | n + 1, u, x, h => by
    rw [runsRd] at h
    split at h
    · cases h
    · rename_i a v h1
      split at h
      · cases h
      · obtain ⟨y, hy, rfl⟩ := Option.map_eq_some_iff.1 h
        intro r hr
        rcases List.mem_cons.1 hr with rfl | hr
        · exact unzig_in (takeNum_lt h1).1
        · exact runsRd_in n _ y hy r hr
theorem runsTakeM_in {b : List UInt8} {l : List Int} (h : runsTakeM b = some l) : ∀ x ∈ l, In64 x := by
  unfold runsTakeM at h
  split at h
  · cases h
  · obtain ⟨y, hy, h⟩ := Option.bind_eq_some_iff.1 h
    split at h
    · cases h
      intro x hx
      obtain ⟨r, hr, hx⟩ := List.mem_flatMap.1 hx
      rw [List.mem_replicate] at hx
      rw [hx.2]
      exact runsRd_in _ _ y hy r hr
    · cases h
theorem unframeM_in {b : List UInt8} {l : List Int} (h : unframeM b = some l) : ∀ x ∈ l, In64 x := by
  unfold unframeM at h
  split at h
  · cases h
  · split at h
    · split at h
      · cases h
        intro x hx
        cases hx
      · cases h
    · split at h
      · cases h
      · split at h
        · cases h
        · rename_i z v h1
          split at h
          · cases h
          · split at h
            · cases h
            · split at h
              · rename_i hin
                cases h
                intro x hx
                obtain ⟨m, hm, rfl⟩ := List.mem_map.1 hx
                have h2 := unzig_in (takeNum_lt h1).1
                have h3 := hin m hm
                exact ⟨by omega, h3⟩
              · cases h
theorem deltaRd_in : ∀ (n : Nat) (a : Int) (u : List UInt8) (x : List Int × List UInt8), deltaRd n a u = some x → ∀ y ∈ x.1, In64 y
  | 0, a, u, x, h => by
    rw [deltaRd] at h
    cases h
    intro r hr
    cases hr
  | n + 1, a, u, x, h => by
    rw [deltaRd] at h
    split at h
    · cases h
    · split at h
      · rename_i hin
        obtain ⟨y, hy, rfl⟩ := Option.map_eq_some_iff.1 h
        intro r hr
        rcases List.mem_cons.1 hr with rfl | hr
        · exact hin
        · exact deltaRd_in n _ _ y hy r hr
      · cases h
theorem deltaTakeM_in {b : List UInt8} {l : List Int} (h : deltaTakeM b = some l) : ∀ x ∈ l, In64 x := by
  unfold deltaTakeM at h
  split at h
  · cases h
  · split at h
    · cases h
    · obtain ⟨x, hx, h⟩ := Option.bind_eq_some_iff.1 h
      split at h
      · cases h
        exact deltaRd_in _ _ _ _ hx
      · cases h
theorem numsRd_in : ∀ (n : Nat) (u : List UInt8) (x : List Int × List UInt8), numsRd n u = some x → x.1.length = n ∧ ∀ y ∈ x.1, In64 y
  | 0, u, x, h => by
    rw [numsRd] at h
    cases h
    exact ⟨rfl, fun r hr => by cases hr⟩
  | n + 1, u, x, h => by
    rw [numsRd] at h
    split at h
    · cases h
    · rename_i z v h1
      obtain ⟨y, hy, rfl⟩ := Option.map_eq_some_iff.1 h
      obtain ⟨e1, e2⟩ := numsRd_in n _ y hy
      refine ⟨by rw [List.length_cons, e1], fun r hr => ?_⟩
      rcases List.mem_cons.1 hr with rfl | hr
      · exact unzig_in (takeNum_lt h1).1
      · exact e2 r hr
theorem textsRd_in : ∀ (n : Nat) (u : List UInt8) (x : List (List UInt8) × List UInt8), textsRd n u = some x → x.1.length = n ∧ ∀ y ∈ x.1, y.length ≤ 1024
  | 0, u, x, h => by
    rw [textsRd] at h
    cases h
    exact ⟨rfl, fun r hr => by cases hr⟩
  | n + 1, u, x, h => by
    rw [textsRd] at h
    split at h
    · cases h
    · rename_i z v h1
      obtain ⟨y, hy, rfl⟩ := Option.map_eq_some_iff.1 h
      obtain ⟨e1, e2⟩ := textsRd_in n _ y hy
      refine ⟨by rw [List.length_cons, e1], fun r hr => ?_⟩
      rcases List.mem_cons.1 hr with rfl | hr
      · exact (takeText_suf h1).1
      · exact e2 r hr
theorem takeM_right {b : List UInt8} {W : List (List UInt8)} {r : List UInt8} (h : takeM b = some (W, r)) : rightW W = true := by
  unfold takeM at h
  split at h
  · cases h
  · split at h
    · cases h
    · split at h
      · cases h
      · split at h
        · rename_i hr
          cases h
          exact hr
        · cases h
theorem namedM_in {b : List UInt8} {x : List (List UInt8)} (h : namedM b = some x) : x.length ≤ 4096 ∧ ∀ s ∈ x, s.length ≤ 1024 := by
  unfold namedM at h
  obtain ⟨⟨W, r⟩, hW, h⟩ := Option.bind_eq_some_iff.1 h
  obtain ⟨ps, hp, h⟩ := Option.bind_eq_some_iff.1 h
  split at h
  · rename_i hin
    cases h
    refine ⟨by rw [List.length_map]; exact unframeM_len hp, fun s hs => ?_⟩
    obtain ⟨k, hk, rfl⟩ := List.mem_map.1 hs
    have h1 := hin k hk
    have h2 : k.toNat < W.length := by
      have := h1.2
      dsimp only at this
      omega
    show (W.getD k.toNat []).length ≤ 1024
    rw [List.getD_eq_getElem?_getD, List.getElem?_eq_getElem h2]
    exact (rightW_le (takeM_right hW)).1 _ (List.getElem_mem h2)
  · cases h
/-- What is taken: how much, and in which ranges. -/
theorem takesM_in {kind how : Int} {many : Nat} {b : List UInt8} {n : List Int} {x : List (List UInt8)} (h : takesM kind how many b = some (n, x)) (hm : many ≤ 4096) (hh : (decide (how = 3) = decide (kind = 3)) ∨ how = 1) :
    n.length ≤ 4096 ∧ x.length ≤ 4096 ∧ (∀ y ∈ n, In64 y) ∧ (∀ s ∈ x, s.length ≤ 1024) ∧ (kind = 3 → n = []) ∧ (¬ kind = 3 → x = []) := by
  have none_t : ∀ s ∈ ([] : List (List UInt8)), s.length ≤ 1024 := fun s hs => by cases hs
  have none_n : ∀ y ∈ ([] : List Int), In64 y := fun s hs => by cases hs
  unfold takesM at h
  split at h
  · unfold plainTk at h
    split at h
    · rename_i hk
      obtain ⟨y, hy, h⟩ := Option.bind_eq_some_iff.1 h
      split at h
      · cases h
        obtain ⟨e1, e2⟩ := textsRd_in _ _ _ hy
        exact ⟨Nat.zero_le _, by omega, none_n, e2, (fun _ => rfl), (fun h => absurd hk h)⟩
      · cases h
    · rename_i hk
      obtain ⟨y, hy, h⟩ := Option.bind_eq_some_iff.1 h
      split at h
      · cases h
        obtain ⟨e1, e2⟩ := numsRd_in _ _ _ hy
        exact ⟨by omega, Nat.zero_le _, e2, none_t, (fun h => absurd h hk), (fun _ => rfl)⟩
      · cases h
  · rename_i h1
    have hh2 : decide (how = 3) = decide (kind = 3) := hh.resolve_right h1
    split at h
    · rename_i h2
      have hk : ¬ kind = 3 := by intro hk; rw [h2, hk] at hh2; exact absurd hh2 (by decide)
      obtain ⟨y, hy, h⟩ := Option.map_eq_some_iff.1 h
      cases h
      exact ⟨runsTakeM_len hy, Nat.zero_le _, runsTakeM_in hy, none_t, (fun h => absurd h hk), (fun _ => rfl)⟩
    · split at h
      · rename_i h2
        have hk : kind = 3 := by
          rw [h2] at hh2
          exact of_decide_eq_true hh2.symm
        obtain ⟨y, hy, h⟩ := Option.map_eq_some_iff.1 h
        cases h
        obtain ⟨e1, e2⟩ := namedM_in hy
        exact ⟨Nat.zero_le _, e1, none_n, e2, (fun _ => rfl), (fun h => absurd hk h)⟩
      · rename_i h3
        have hk : ¬ kind = 3 := by
          intro hk
          rw [hk, decide_eq_false h3] at hh2
          exact absurd hh2 (by decide)
        split at h
        · obtain ⟨y, hy, h⟩ := Option.map_eq_some_iff.1 h
          cases h
          exact ⟨unframeM_len hy, Nat.zero_le _, unframeM_in hy, none_t, (fun h => absurd h hk), (fun _ => rfl)⟩
        · split at h
          · obtain ⟨y, hy, h⟩ := Option.map_eq_some_iff.1 h
            cases h
            exact ⟨deltaTakeM_len hy, Nat.zero_le _, deltaTakeM_in hy, none_t, (fun h => absurd h hk), (fun _ => rfl)⟩
          · cases h
theorem joinF_in (kind : Int) (hk : 0 ≤ kind ∧ kind ≤ 255) : ∀ (t n : List Int) (x : List (List UInt8)) (l : RowM), joinF kind t n x = some l → (∀ y ∈ n, In64 y) → (∀ s ∈ x, s.length ≤ 1024) → l.length = t.length ∧ ∀ v ∈ l, v.ok
  | [], n, x, l, h, _, _ => by
    rw [joinF] at h
    cases h
    exact ⟨rfl, fun v hv => by cases hv⟩
  | t :: r, n, x, l, h, hn, hx => by
    by_cases ht : t = 0
    · subst ht
      rw [joinF_null] at h
      obtain ⟨y, hy, rfl⟩ := Option.map_eq_some_iff.1 h
      obtain ⟨e1, e2⟩ := joinF_in kind hk r n x y hy hn hx
      refine ⟨by rw [List.length_cons, List.length_cons, e1], fun v hv => ?_⟩
      rcases List.mem_cons.1 hv with rfl | hv
      · exact Va.nil_ok
      · exact e2 v hv
    · rw [joinF_nz _ _ _ _ ht] at h
      split at h
      · cases x with
        | nil => cases h
        | cons s x =>
          obtain ⟨y, hy, rfl⟩ := Option.map_eq_some_iff.1 h
          obtain ⟨e1, e2⟩ := joinF_in kind hk r n x y hy hn fun s hs => hx s (List.mem_cons_of_mem _ hs)
          refine ⟨by rw [List.length_cons, List.length_cons, e1], fun v hv => ?_⟩
          rcases List.mem_cons.1 hv with rfl | hv
          · have := hx s (List.mem_cons_self ..)
            exact ⟨hk, ⟨by show (_ : Int) ≤ 0; omega, by show (0 : Int) ≤ _; omega⟩, by show s.length ≤ _; omega⟩
          · exact e2 v hv
      · cases n with
        | nil => cases h
        | cons m n =>
          obtain ⟨y, hy, rfl⟩ := Option.map_eq_some_iff.1 h
          obtain ⟨e1, e2⟩ := joinF_in kind hk r n x y hy (fun s hs => hn s (List.mem_cons_of_mem _ hs)) hx
          refine ⟨by rw [List.length_cons, List.length_cons, e1], fun v hv => ?_⟩
          rcases List.mem_cons.1 hv with rfl | hv
          · have := hn m (List.mem_cons_self ..)
            exact ⟨hk, this, by show 0 ≤ _; omega⟩
          · exact e2 v hv
theorem splitM_in {b : List UInt8} {l : List Int} {r : List UInt8} (h : splitM b = some (l, r)) : l.length ≤ 4096 ∧ r.length ≤ b.length := by
  cases b with
  | nil => cases h
  | cons f t =>
    rw [splitM] at h
    obtain ⟨⟨m, u⟩, hx, h⟩ := Option.bind_eq_some_iff.1 h
    split at h
    · cases h
    · obtain ⟨y, hy, h⟩ := Option.map_eq_some_iff.1 h
      cases h
      refine ⟨runsTakeM_len hy, ?_⟩
      have := (takeNum_lt hx).2
      rw [List.length_drop, List.length_cons]
      dsimp only
      omega
end Go.Proofs.YtojppmnmhdgnnaaGreat
namespace Go.Proofs.YtojppmnmhdgnnaaGreat
set_option linter.unusedVariables false
set_option linter.unusedSimpArgs false
open Go.RowKit

attribute [local go_sem ↓] Go.wp_at_zero Go.wp_at_succ

/-- How Take ends. -/
def CTakeOK (kind : Int) (b : List UInt8) (w : World) (e : Ending) (w' : World) : Prop :=
  ((kindOk kind = false ∧ e = .returned (.tuple #[.slice none 0 0, .int .u8 0, .int .i64 1])) ∨ (kindOk kind = true ∧ ctakeM kind b = none ∧ e = .returned (.tuple #[.slice none 0 0, .int .u8 0, .int .i64 6])) ∨ ∃ l A d, kindOk kind = true ∧ ctakeM kind b = some l ∧ e = .returned (.tuple #[.slice A l.length d, .int .u8 (howB b), .int .i64 0]) ∧ Rd w' A (rcells l)) ∧ Below w.heap.size w w'
theorem St8_eq_iff (a b : List UInt8) : ((St8 a).toList == (St8 b).toList) = decide (a = b) := by
  rw [St8_list, St8_list]
  by_cases h : a = b
  · subst h; simp
  · rw [decide_eq_false h, beq_eq_false_iff_ne]; exact h
theorem bytes_far (W : List UInt8) (kind : Int) (T N X : Option Addr) (a b c d e f : Nat) : True := trivial
/-- The parts are there, taken: what is still to do (the world W, block g). -/
structure TkAt (W : World) (g : Nat) (kind : Int) (T : Option Addr) (tn tc : Nat) (N : Option Addr) (nn nc : Nat) (X : Option Addr) (xn xc : Nat) (th n : List Int) (x : List (List UInt8)) : Prop where
  blk : Blk W g 40 [.int .u8 kind, .slice T tn tc, .slice N nn nc, .slice X xn xc]
  rT : Rd W T (icl th)
  rN : Rd W N (icl n)
  rX : Rd W X (wcl x)
  lT : th.length = tn
  lN : n.length = nn
  lX : x.length = xn
theorem join_any {W : World} {g tn tc nn nc xn xc : Nat} {T N X : Option Addr} {kind : Int} {th n : List Int} {x : List (List UInt8)} (h : TkAt W g kind T tn tc N nn nc X xn xc th n x) (hk : 0 ≤ kind ∧ kind ≤ 255) (htn : tn ≤ 4096) (hnn : n.length ≤ 4096) (hxn : x.length ≤ 4096) (h1 : kind = 3 → n = []) (h2 : ¬ kind = 3 → x = []) :
    Calls Tryz.prog 18 #[.pointer (some ⟨g, 0, none⟩)] W fun e w' => JoinOK (joinF kind th n x) W e w' := by
  have hb := h.blk
  have h3 := h.lN
  have h4 := h.lX
  by_cases hk3 : kind = 3
  · have hn0 := h1 hk3
    subst hn0
    obtain rfl : 0 = nn := h3
    exact join_texts kind th x g tn tc xn xc nc T X N W hk3 hk h.lT h.lX h.rT h.rX htn (by omega) hb
  · have hx0 := h2 hk3
    subst hx0
    obtain rfl : 0 = xn := h4
    exact join_nums kind th n g tn tc nn nc xc T N X W hk3 hk h.lT h.lN h.rT h.rN htn (by omega) hb

set_option maxHeartbeats 32000000 in
set_option maxRecDepth 100000 in
theorem ctake_any (kind : Int) (b : List UInt8) (n c : Nat) (A : Option Addr) (w : World) (hk : 0 ≤ kind ∧ kind ≤ 255) (hl : b.length = n) (hr : Rd w A (Bs b)) (hn : n ≤ 500000) (hnc : n ≤ c) (hc : c ≤ 9223372036854775807) :
    Calls Tryz.prog 4 #[.int .u8 kind, .slice A n c] w fun e w' => CTakeOK kind b w e w' := by
  have hcr := Lib.hid (cright2_any kind w)
  cases hko : kindOk kind
  · rw [hko] at hcr
    have Hko := Lib.hid hko
    clear hko hl hr
    go_enter Tryz.func4, Tryz.ntmps4
    go_wp2_with fail
    refine hcr.out.mono ?_
    rintro e w1 ⟨rfl, rfl⟩
    go_wp2_with fail
    go_ret3
    exact ⟨.inl ⟨Hko.out, rfl⟩, Below.refl _ _⟩
  · rw [hko] at hcr
    have Hko := Lib.hid hko
    have hsp := Lib.hid (split_any b n c A w hl hr hn hnc hc)
    have HM : Hid (ctakeM kind b = (splitM b).bind fun x => if (decide (howB b = 3) = decide (kind = 3)) ∨ howB b = 1 then (takesM kind (howB b) (oddM x.1) x.2).bind fun y => (joinF kind x.1 y.1 y.2).bind fun l => if cputM kind (howB b) l = (b, howB b, 0) then some l else none else none) := rfl
    have Hl := Lib.hid hl
    have Hr := Lib.hid hr
    have Hk := Lib.hid hk
    clear hko hl hr hk
    go_enter Tryz.func4, Tryz.ntmps4
    go_wp2_with fail
    refine hcr.out.mono ?_
    rintro e w0 ⟨rfl, rfl⟩
    go_wp2_with fail
    refine hsp.out.mono ?_
    rintro e w1 ⟨⟨hno, v1, v2, rfl⟩ | ⟨th, TA, tc, A2, m2, c2, rest, hso, rfl, hrl, hrc, hrT, hrR⟩, hb1⟩
    · have HN : Hid (ctakeM kind b = none) := by
        show _ = _
        rw [HM.out, hno]
        rfl
      have Hb1 := Lib.hid hb1
      clear hno hb1 hsp HM
      go_wp2_with fail
      go_ret3
      exact ⟨.inr (.inl ⟨Hko.out, HN.out, rfl⟩), Hb1.out⟩
    · have hne : b ≠ [] := by
        rintro rfl
        cases hso
      obtain ⟨hthl, hrle⟩ := splitM_in hso
      rw [Hl.out, hrl] at hrle
      obtain ⟨bb, bo, rfl, hrg⟩ := Hr.out (by simpa using hne)
      have Hb1 := Lib.hid hb1
      have Hrb1 := Lib.hid (Hr.out.below hb1)
      obtain ⟨H, hH⟩ : ∃ H : Nat, (b.headD 0).toNat = H := ⟨_, rfl⟩
      have hH8 : H < 256 := by rw [← hH]; exact (b.headD 0).toNat_lt
      have HH : Hid (howB b = (H : Int)) := by show _ = _; unfold howB; rw [hH]
      have c0 : ∀ w', Below w1.heap.size w1 w' → w'.cell? ⟨bb, bo, none⟩ = some (.int .u8 (H : Int)) := by
        intro w' hb'
        obtain ⟨b', o', e1, e2⟩ := (Hrb1.out.below hb') (by simpa using hne)
        cases e1
        have := e2 0 (B (b.headD 0)) (by cases b with | nil => exact absurd rfl hne | cons f t => rfl)
        rw [Nat.add_zero] at this
        rw [this]
        unfold B
        rw [hH]
      have c01 := c0 w1 (Below.refl _ _)
      have C0 := Lib.hid c0
      have hnI : (0 : Int) < (n : Int) := by
        have h1 := Hl.out
        have h2 := List.length_pos_iff.2 hne
        omega
      have hnN : 0 < n := by omega
      have HM1 : Hid (ctakeM kind b = if (decide ((H : Int) = 3) = decide (kind = 3)) ∨ (H : Int) = 1 then (takesM kind (H : Int) (oddM th) rest).bind fun y => (joinF kind th y.1 y.2).bind fun l => if cputM kind (H : Int) l = (b, (H : Int), 0) then some l else none else none) := by
        show _ = _
        rw [HM.out, hso, HH.out]
        rfl
      obtain ⟨m, hm⟩ : ∃ m, th.length = m := ⟨_, rfl⟩
      rw [hm] at hthl ⊢
      have Hm := Lib.hid hm
      have HrR := Lib.hid hrR
      have HrT := Lib.hid hrT
      have Hrl := Lib.hid hrl
      clear hso hb1 hsp HM hrg hne hH hm hrR hrT hrl c0 hcr
      by_cases hcond : (decide ((H : Int) = 3) = decide (kind = 3)) ∨ (H : Int) = 1
      · have HM2 : Hid (ctakeM kind b = (takesM kind (H : Int) (oddM th) rest).bind fun y => (joinF kind th y.1 y.2).bind fun l => if cputM kind (H : Int) l = (b, (H : Int), 0) then some l else none) := by
          show _ = _
          rw [HM1.out, if_pos hcond]
        have Hcond := Lib.hid hcond
        clear HM1
        have hbP : Below w1.heap.size w1 (w1.alloc (.cells #[.int .u8 kind, .slice TA m tc, .slice none 0 0, .slice none 0 0] 40)) := (Below.refl _ _).alloc (Nat.le_refl _) _
        have hgP := Blk.new w1 40 #[.int .u8 kind, .slice TA m tc, .slice none 0 0, .slice none 0 0]
        have HbP := Lib.hid hbP
        have HgP := Lib.hid hgP
        have c02 := C0.out _ hbP
        have HrT2 := Lib.hid (HrT.out.below hbP)
        have HrR2 := Lib.hid (HrR.out.below hbP)
        clear hbP hgP
        by_cases hk3 : kind = 3
        · have b2 : (kind == 3) = true := by rw [hk3]; rfl
          by_cases h1 : H = 1
          · subst h1
            clear hk3
            go_wp2_with fail
            go_loopw [11, 50] (fun v11 v50 wr => ∃ i o : Nat, v11 = .int .i64 (o : Int) ∧ v50 = .int .i64 (i : Int) ∧ i ≤ m ∧ o ≤ i ∧ Hid (o = oddM (th.take i)) ∧ wr = w1.alloc (.cells #[.int .u8 kind, .slice TA m tc, .slice none 0 0, .slice none 0 0] 40)) (fun _ v50 _ => m - (intOf v50).toNat)
            case atStart => exact ⟨0, 0, rfl, rfl, by omega, by omega, (by first | rfl | (show _ = _; simp [oddM])), rfl⟩
            case round =>
              obtain ⟨i, o, rfl, rfl, hi, ho, Ho, rfl⟩ := hrel
              by_cases him : i < m
              · have hiI : (i : Int) < (m : Int) := by omega
                have hi0 : (0 : Int) ≤ (i : Int) := by omega
                have hil : i < th.length := by rw [Hm.out]; exact him
                have Hsn := Lib.hid (odd_snoc hil)
                obtain ⟨bt, ot, hTA, ci⟩ := icl_get HrT2.out hil
                have hbit := i64_and_one th[i]
                obtain ⟨q, hq, hq1, Hq⟩ : ∃ q : Nat, th[i] % 2 = (q : Int) ∧ q ≤ 1 ∧ Hid ((th[i] % 2).toNat = q) := ⟨(th[i] % 2).toNat, by omega, by omega, rfl⟩
                rw [hq] at hbit
                have Hsn2 : Hid (o + q = oddM (th.take (i + 1))) := by
                  show _ = _
                  rw [Hsn.out, ← Ho.out, Hq.out]
                generalize th[i] = x at *
                subst hTA
                clear Hsn hq Hq hil
                go_wp2_with fail
                go_roundw
                case rel => exact ⟨i + 1, o + q, by go_num, by go_num, by omega, by omega, Hsn2, (by first | rfl | trivial)⟩
                case measure => simp only [intOf, Int.toNat_natCast]; omega
              · obtain rfl : i = m := by omega
                have Hod : Hid (o = oddM th) := by
                  show _ = _
                  have h := Ho.out
                  rw [List.take_of_length_le (by rw [Hm.out]; exact Nat.le_refl _)] at h
                  exact h
                have Hin0 : Hid (∀ (ns : List Int) (xs : List (List UInt8)), takesM kind ((1 : Nat) : Int) (oddM th) rest = some (ns, xs) → ns.length ≤ 4096 ∧ xs.length ≤ 4096 ∧ (∀ y ∈ ns, In64 y) ∧ (∀ s ∈ xs, s.length ≤ 1024) ∧ (kind = 3 → ns = []) ∧ (¬ kind = 3 → xs = [])) := Lib.hid fun ns xs h => takesM_in h (Nat.le_trans (odd_le th) (by rw [Hm.out]; omega)) Hcond.out
                clear Ho him
                have HM3 : Hid (ctakeM kind b = (plainTk kind o rest).bind fun y => (joinF kind th y.1 y.2).bind fun l => if cputM kind ((1 : Nat) : Int) l = (b, ((1 : Nat) : Int), 0) then some l else none) := by
                  show _ = _
                  rw [HM2.out, ← Hod.out]
                  rfl
                have hcl := Lib.hid (plain_any kind rest o m2 c2 w1.heap.size i tc A2 TA _ Hrl.out HrR2.out (by omega) (by omega) HgP.out)
                go_wp2_with fail
                refine hcl.out.mono ?_
                rintro e w3 ⟨⟨hno, E, hE, rfl⟩ | ⟨N, nn, nc, X, xn, xc, ns, xs, hso, hnn, hxn, rfl, hg3, hrN, hrX⟩, hk3⟩
                · have HN : Hid (ctakeM kind b = none) := by
                    show _ = _
                    rw [HM3.out, hno]
                    rfl
                  have hb3 : Below w1.heap.size w1 w3 := HbP.out.trans (hk3.below HbP.out.size)
                  have HbX := Lib.hid (Hb1.out.trans (hb3.mono Hb1.out.size))
                  have qE : (E != 0) = true := by rw [bne_iff_ne]; exact hE
                  clear hno hE hk3 hb3 HM3 HM2 hcl
                  go_wp2_with fail
                  go_ret3
                  exact ⟨.inr (.inl ⟨Hko.out, HN.out, rfl⟩), HbX.out⟩
                · have hb3 : Below w1.heap.size w1 w3 := HbP.out.trans (hk3.below HbP.out.size)
                  have Hb15 := Lib.hid hb3
                  have Hb5 := Lib.hid (Hb1.out.trans (hb3.mono Hb1.out.size))
                  have c03 := C0.out _ hb3
                  have Hat : Hid (TkAt w3 w1.heap.size kind TA i tc N nn nc X xn xc th ns xs) := ⟨hg3, HrT.out.below hb3, hrN, hrX, Hm.out, hnn, hxn⟩
                  have HM4 : Hid (ctakeM kind b = (joinF kind th ns xs).bind fun l => if cputM kind ((1 : Nat) : Int) l = (b, ((1 : Nat) : Int), 0) then some l else none) := by
                    show _ = _
                    rw [HM3.out, hso]
                    rfl
                  have hin := Lib.hid <| Hin0.out ns xs (by rw [← Hod.out]; exact hso)
                  clear hso hnn hxn hg3 hrN hrX hk3 hb3 hcl HM3 HM2 Hin0
                  have hjo := Lib.hid (join_any Hat.out Hk.out hthl hin.out.1 hin.out.2.1 hin.out.2.2.2.2.1 hin.out.2.2.2.2.2)
                  have Hin1 := Lib.hid hin.out.2.2.1
                  have Hin2 := Lib.hid hin.out.2.2.2.1
                  clear hin Hat
                  go_wp2_with fail
                  refine hjo.out.mono ?_
                  rintro e w6 ⟨⟨hno, rfl⟩ | ⟨l, LA, ld, hso, rfl, hrl⟩, hb6⟩
                  · have HN : Hid (ctakeM kind b = none) := by
                      show _ = _
                      rw [HM4.out, hno]
                      rfl
                    have Hb6 := Lib.hid (Hb5.out.trans (hb6.mono Hb5.out.size))
                    clear hno hb6 HM4 hjo
                    go_wp2_with fail
                    go_ret3
                    exact ⟨.inr (.inl ⟨Hko.out, HN.out, rfl⟩), Hb6.out⟩
                  · obtain ⟨hjl, hjok⟩ := joinF_in kind Hk.out _ _ _ _ hso Hin1.out Hin2.out
                    have HM5 : Hid (ctakeM kind b = if cputM kind ((1 : Nat) : Int) l = (b, ((1 : Nat) : Int), 0) then some l else none) := by
                      show _ = _
                      rw [HM4.out, hso]
                      rfl
                    obtain ⟨L, hL⟩ : ∃ L, l.length = L := ⟨_, rfl⟩
                    rw [hL] at hjl ⊢
                    have hL4 : L ≤ 4096 := by have := Hm.out; omega
                    have hpu := Lib.hid (cputc_any kind ((1 : Nat) : Int) l L ld LA w6 hL hrl hL4 hjok Hk.out (by omega))
                    have Hb6 := Lib.hid (Hb5.out.trans (hb6.mono Hb5.out.size))
                    have Hb16 := Lib.hid (Hb15.out.trans (hb6.mono Hb15.out.size))
                    have c06 := C0.out _ Hb16.out
                    have HL := Lib.hid hL
                    have Hrl6 := Lib.hid hrl
                    clear hso hjl hjok hL hrl hb6 HM4 hjo Hin1 Hin2
                    go_wp2_with fail
                    refine hpu.out.mono ?_
                    rintro e w7 ⟨⟨QA, qc, rfl, hop⟩, hb7⟩
                    have Hb7 := Lib.hid (Hb6.out.trans (hb7.mono Hb6.out.size))
                    have Hb17 := Lib.hid (Hb16.out.trans (hb7.mono Hb16.out.size))
                    have c07 := C0.out _ Hb17.out
                    have hs2 := run_str w7 (some ⟨bb, bo, none⟩) b n c Hl.out (Hrb1.out.below Hb17.out)
                    have hs1 := run_str w7 QA (cputM kind ((1 : Nat) : Int) l).1 _ qc rfl hop.rd
                    have Hrl7 := Lib.hid (Hrl6.out.below hb7)
                    clear hop hb7 hpu
                    obtain ⟨P, hP⟩ : ∃ P, cputM kind ((1 : Nat) : Int) l = P := ⟨_, rfl⟩
                    rw [hP] at hs1 HM5 ⊢
                    clear hP
                    obtain ⟨pb, pu, pe⟩ := P
                    dsimp only at hs1 ⊢
                    obtain ⟨pn, hpn⟩ : ∃ pn, pb.length = pn := ⟨_, rfl⟩
                    rw [hpn] at hs1 ⊢
                    clear hpn
                    by_cases hpe : pe = 0
                    · subst hpe
                      by_cases hpu : pu = ((1 : Nat) : Int)
                      · subst hpu
                        by_cases hpb : pb = b
                        · subst hpb
                          have HN : Hid (ctakeM kind pb = some l) := by
                            show _ = _
                            rw [HM5.out, if_pos rfl]
                          have q1 : ((St8 pb).toList == (St8 pb).toList) = true := by simp
                          have q2 : ((St8 pb).toList != (St8 pb).toList) = false := by simp
                          clear HM5
                          go_wp2_with fail
                          go_ret3
                          exact ⟨.inr (.inr ⟨l, LA, ld, Hko.out, HN.out, by rw [HL.out, HH.out]; rfl, Hrl7.out⟩), Hb7.out⟩
                        · have HN : Hid (ctakeM kind b = none) := by
                            show _ = _
                            rw [HM5.out, if_neg (fun h => hpb (congrArg Prod.fst h))]
                          have q1 : ((St8 pb).toList == (St8 b).toList) = false := by rw [St8_eq_iff, decide_eq_false hpb]
                          have q2 : ((St8 pb).toList != (St8 b).toList) = true := by show (!_) = true; rw [q1]; rfl
                          clear HM5 hpb
                          go_wp2_with fail
                          go_ret3
                          exact ⟨.inr (.inl ⟨Hko.out, HN.out, rfl⟩), Hb7.out⟩
                      · have HN : Hid (ctakeM kind b = none) := by
                          show _ = _
                          rw [HM5.out, if_neg (fun h => hpu (congrArg (fun z => z.2.1) h))]
                        have q1 : (pu != 1) = true := by rw [bne_iff_ne]; exact hpu
                        clear HM5 hpu
                        go_wp2_with fail
                        go_ret3
                        exact ⟨.inr (.inl ⟨Hko.out, HN.out, rfl⟩), Hb7.out⟩
                    · have HN : Hid (ctakeM kind b = none) := by
                        show _ = _
                        rw [HM5.out, if_neg (fun h => hpe (congrArg (fun z => z.2.2) h))]
                      have q1 : (pe != 0) = true := by rw [bne_iff_ne]; exact hpe
                      clear HM5 hpe
                      go_wp2_with fail
                      go_ret3
                      exact ⟨.inr (.inl ⟨Hko.out, HN.out, rfl⟩), Hb7.out⟩
          · obtain rfl : H = 3 := by
              rcases Hcond.out with h | h
              · rw [hk3] at h
                have h2 := of_decide_eq_true (h.trans (by decide))
                omega
              · omega
            clear hk3 h1
            go_wp2_with fail
            go_loopw [11, 50] (fun v11 v50 wr => ∃ i o : Nat, v11 = .int .i64 (o : Int) ∧ v50 = .int .i64 (i : Int) ∧ i ≤ m ∧ o ≤ i ∧ Hid (o = oddM (th.take i)) ∧ wr = w1.alloc (.cells #[.int .u8 kind, .slice TA m tc, .slice none 0 0, .slice none 0 0] 40)) (fun _ v50 _ => m - (intOf v50).toNat)
            case atStart => exact ⟨0, 0, rfl, rfl, by omega, by omega, (by first | rfl | (show _ = _; simp [oddM])), rfl⟩
            case round =>
              obtain ⟨i, o, rfl, rfl, hi, ho, Ho, rfl⟩ := hrel
              by_cases him : i < m
              · have hiI : (i : Int) < (m : Int) := by omega
                have hi0 : (0 : Int) ≤ (i : Int) := by omega
                have hil : i < th.length := by rw [Hm.out]; exact him
                have Hsn := Lib.hid (odd_snoc hil)
                obtain ⟨bt, ot, hTA, ci⟩ := icl_get HrT2.out hil
                have hbit := i64_and_one th[i]
                obtain ⟨q, hq, hq1, Hq⟩ : ∃ q : Nat, th[i] % 2 = (q : Int) ∧ q ≤ 1 ∧ Hid ((th[i] % 2).toNat = q) := ⟨(th[i] % 2).toNat, by omega, by omega, rfl⟩
                rw [hq] at hbit
                have Hsn2 : Hid (o + q = oddM (th.take (i + 1))) := by
                  show _ = _
                  rw [Hsn.out, ← Ho.out, Hq.out]
                generalize th[i] = x at *
                subst hTA
                clear Hsn hq Hq hil
                go_wp2_with fail
                go_roundw
                case rel => exact ⟨i + 1, o + q, by go_num, by go_num, by omega, by omega, Hsn2, (by first | rfl | trivial)⟩
                case measure => simp only [intOf, Int.toNat_natCast]; omega
              · obtain rfl : i = m := by omega
                have Hod : Hid (o = oddM th) := by
                  show _ = _
                  have h := Ho.out
                  rw [List.take_of_length_le (by rw [Hm.out]; exact Nat.le_refl _)] at h
                  exact h
                have Hin0 : Hid (∀ (ns : List Int) (xs : List (List UInt8)), takesM kind ((3 : Nat) : Int) (oddM th) rest = some (ns, xs) → ns.length ≤ 4096 ∧ xs.length ≤ 4096 ∧ (∀ y ∈ ns, In64 y) ∧ (∀ s ∈ xs, s.length ≤ 1024) ∧ (kind = 3 → ns = []) ∧ (¬ kind = 3 → xs = [])) := Lib.hid fun ns xs h => takesM_in h (Nat.le_trans (odd_le th) (by rw [Hm.out]; omega)) Hcond.out
                clear Ho him
                have HM3 : Hid (ctakeM kind b = ((namedM rest).map fun x => (([] : List Int), x)).bind fun y => (joinF kind th y.1 y.2).bind fun l => if cputM kind ((3 : Nat) : Int) l = (b, ((3 : Nat) : Int), 0) then some l else none) := by
                  show _ = _
                  rw [HM2.out]
                  rfl
                have hcl := Lib.hid (named_any kind rest m2 c2 w1.heap.size i tc A2 TA _ Hrl.out HrR2.out (by omega) hrc.1 hrc.2 HgP.out)
                go_wp2_with fail
                refine hcl.out.mono ?_
                rintro e w3 ⟨⟨hno, E, hE, rfl⟩ | ⟨N, nn, nc, X, xn, xc, ns, xs, hso, hnn, hxn, rfl, hg3, hrN, hrX⟩, hk3⟩
                · have HN : Hid (ctakeM kind b = none) := by
                    show _ = _
                    rw [HM3.out, hno]
                    rfl
                  have hb3 : Below w1.heap.size w1 w3 := HbP.out.trans (hk3.below HbP.out.size)
                  have HbX := Lib.hid (Hb1.out.trans (hb3.mono Hb1.out.size))
                  have qE : (E != 0) = true := by rw [bne_iff_ne]; exact hE
                  clear hno hE hk3 hb3 HM3 HM2 hcl
                  go_wp2_with fail
                  go_ret3
                  exact ⟨.inr (.inl ⟨Hko.out, HN.out, rfl⟩), HbX.out⟩
                · have hb3 : Below w1.heap.size w1 w3 := HbP.out.trans (hk3.below HbP.out.size)
                  have Hb15 := Lib.hid hb3
                  have Hb5 := Lib.hid (Hb1.out.trans (hb3.mono Hb1.out.size))
                  have c03 := C0.out _ hb3
                  have Hat : Hid (TkAt w3 w1.heap.size kind TA i tc N nn nc X xn xc th ns xs) := ⟨hg3, HrT.out.below hb3, hrN, hrX, Hm.out, hnn, hxn⟩
                  have HM4 : Hid (ctakeM kind b = (joinF kind th ns xs).bind fun l => if cputM kind ((3 : Nat) : Int) l = (b, ((3 : Nat) : Int), 0) then some l else none) := by
                    show _ = _
                    rw [HM3.out, hso]
                    rfl
                  have hin := Lib.hid <| Hin0.out ns xs (hso)
                  clear hso hnn hxn hg3 hrN hrX hk3 hb3 hcl HM3 HM2 Hin0
                  have hjo := Lib.hid (join_any Hat.out Hk.out hthl hin.out.1 hin.out.2.1 hin.out.2.2.2.2.1 hin.out.2.2.2.2.2)
                  have Hin1 := Lib.hid hin.out.2.2.1
                  have Hin2 := Lib.hid hin.out.2.2.2.1
                  clear hin Hat
                  go_wp2_with fail
                  refine hjo.out.mono ?_
                  rintro e w6 ⟨⟨hno, rfl⟩ | ⟨l, LA, ld, hso, rfl, hrl⟩, hb6⟩
                  · have HN : Hid (ctakeM kind b = none) := by
                      show _ = _
                      rw [HM4.out, hno]
                      rfl
                    have Hb6 := Lib.hid (Hb5.out.trans (hb6.mono Hb5.out.size))
                    clear hno hb6 HM4 hjo
                    go_wp2_with fail
                    go_ret3
                    exact ⟨.inr (.inl ⟨Hko.out, HN.out, rfl⟩), Hb6.out⟩
                  · obtain ⟨hjl, hjok⟩ := joinF_in kind Hk.out _ _ _ _ hso Hin1.out Hin2.out
                    have HM5 : Hid (ctakeM kind b = if cputM kind ((3 : Nat) : Int) l = (b, ((3 : Nat) : Int), 0) then some l else none) := by
                      show _ = _
                      rw [HM4.out, hso]
                      rfl
                    obtain ⟨L, hL⟩ : ∃ L, l.length = L := ⟨_, rfl⟩
                    rw [hL] at hjl ⊢
                    have hL4 : L ≤ 4096 := by have := Hm.out; omega
                    have hpu := Lib.hid (cputc_any kind ((3 : Nat) : Int) l L ld LA w6 hL hrl hL4 hjok Hk.out (by omega))
                    have Hb6 := Lib.hid (Hb5.out.trans (hb6.mono Hb5.out.size))
                    have Hb16 := Lib.hid (Hb15.out.trans (hb6.mono Hb15.out.size))
                    have c06 := C0.out _ Hb16.out
                    have HL := Lib.hid hL
                    have Hrl6 := Lib.hid hrl
                    clear hso hjl hjok hL hrl hb6 HM4 hjo Hin1 Hin2
                    go_wp2_with fail
                    refine hpu.out.mono ?_
                    rintro e w7 ⟨⟨QA, qc, rfl, hop⟩, hb7⟩
                    have Hb7 := Lib.hid (Hb6.out.trans (hb7.mono Hb6.out.size))
                    have Hb17 := Lib.hid (Hb16.out.trans (hb7.mono Hb16.out.size))
                    have c07 := C0.out _ Hb17.out
                    have hs2 := run_str w7 (some ⟨bb, bo, none⟩) b n c Hl.out (Hrb1.out.below Hb17.out)
                    have hs1 := run_str w7 QA (cputM kind ((3 : Nat) : Int) l).1 _ qc rfl hop.rd
                    have Hrl7 := Lib.hid (Hrl6.out.below hb7)
                    clear hop hb7 hpu
                    obtain ⟨P, hP⟩ : ∃ P, cputM kind ((3 : Nat) : Int) l = P := ⟨_, rfl⟩
                    rw [hP] at hs1 HM5 ⊢
                    clear hP
                    obtain ⟨pb, pu, pe⟩ := P
                    dsimp only at hs1 ⊢
                    obtain ⟨pn, hpn⟩ : ∃ pn, pb.length = pn := ⟨_, rfl⟩
                    rw [hpn] at hs1 ⊢
                    clear hpn
                    by_cases hpe : pe = 0
                    · subst hpe
                      by_cases hpu : pu = ((3 : Nat) : Int)
                      · subst hpu
                        by_cases hpb : pb = b
                        · subst hpb
                          have HN : Hid (ctakeM kind pb = some l) := by
                            show _ = _
                            rw [HM5.out, if_pos rfl]
                          have q1 : ((St8 pb).toList == (St8 pb).toList) = true := by simp
                          have q2 : ((St8 pb).toList != (St8 pb).toList) = false := by simp
                          clear HM5
                          go_wp2_with fail
                          go_ret3
                          exact ⟨.inr (.inr ⟨l, LA, ld, Hko.out, HN.out, by rw [HL.out, HH.out]; rfl, Hrl7.out⟩), Hb7.out⟩
                        · have HN : Hid (ctakeM kind b = none) := by
                            show _ = _
                            rw [HM5.out, if_neg (fun h => hpb (congrArg Prod.fst h))]
                          have q1 : ((St8 pb).toList == (St8 b).toList) = false := by rw [St8_eq_iff, decide_eq_false hpb]
                          have q2 : ((St8 pb).toList != (St8 b).toList) = true := by show (!_) = true; rw [q1]; rfl
                          clear HM5 hpb
                          go_wp2_with fail
                          go_ret3
                          exact ⟨.inr (.inl ⟨Hko.out, HN.out, rfl⟩), Hb7.out⟩
                      · have HN : Hid (ctakeM kind b = none) := by
                          show _ = _
                          rw [HM5.out, if_neg (fun h => hpu (congrArg (fun z => z.2.1) h))]
                        have q1 : (pu != 3) = true := by rw [bne_iff_ne]; exact hpu
                        clear HM5 hpu
                        go_wp2_with fail
                        go_ret3
                        exact ⟨.inr (.inl ⟨Hko.out, HN.out, rfl⟩), Hb7.out⟩
                    · have HN : Hid (ctakeM kind b = none) := by
                        show _ = _
                        rw [HM5.out, if_neg (fun h => hpe (congrArg (fun z => z.2.2) h))]
                      have q1 : (pe != 0) = true := by rw [bne_iff_ne]; exact hpe
                      clear HM5 hpe
                      go_wp2_with fail
                      go_ret3
                      exact ⟨.inr (.inl ⟨Hko.out, HN.out, rfl⟩), Hb7.out⟩
        · have b2 : (kind == 3) = false := by rw [beq_eq_false_iff_ne]; exact hk3
          have Hk3 := Lib.hid hk3
          by_cases h1 : H = 1
          · subst h1
            clear hk3
            go_wp2_with fail
            go_loopw [11, 50] (fun v11 v50 wr => ∃ i o : Nat, v11 = .int .i64 (o : Int) ∧ v50 = .int .i64 (i : Int) ∧ i ≤ m ∧ o ≤ i ∧ Hid (o = oddM (th.take i)) ∧ wr = w1.alloc (.cells #[.int .u8 kind, .slice TA m tc, .slice none 0 0, .slice none 0 0] 40)) (fun _ v50 _ => m - (intOf v50).toNat)
            case atStart => exact ⟨0, 0, rfl, rfl, by omega, by omega, (by first | rfl | (show _ = _; simp [oddM])), rfl⟩
            case round =>
              obtain ⟨i, o, rfl, rfl, hi, ho, Ho, rfl⟩ := hrel
              by_cases him : i < m
              · have hiI : (i : Int) < (m : Int) := by omega
                have hi0 : (0 : Int) ≤ (i : Int) := by omega
                have hil : i < th.length := by rw [Hm.out]; exact him
                have Hsn := Lib.hid (odd_snoc hil)
                obtain ⟨bt, ot, hTA, ci⟩ := icl_get HrT2.out hil
                have hbit := i64_and_one th[i]
                obtain ⟨q, hq, hq1, Hq⟩ : ∃ q : Nat, th[i] % 2 = (q : Int) ∧ q ≤ 1 ∧ Hid ((th[i] % 2).toNat = q) := ⟨(th[i] % 2).toNat, by omega, by omega, rfl⟩
                rw [hq] at hbit
                have Hsn2 : Hid (o + q = oddM (th.take (i + 1))) := by
                  show _ = _
                  rw [Hsn.out, ← Ho.out, Hq.out]
                generalize th[i] = x at *
                subst hTA
                clear Hsn hq Hq hil
                go_wp2_with fail
                go_roundw
                case rel => exact ⟨i + 1, o + q, by go_num, by go_num, by omega, by omega, Hsn2, (by first | rfl | trivial)⟩
                case measure => simp only [intOf, Int.toNat_natCast]; omega
              · obtain rfl : i = m := by omega
                have Hod : Hid (o = oddM th) := by
                  show _ = _
                  have h := Ho.out
                  rw [List.take_of_length_le (by rw [Hm.out]; exact Nat.le_refl _)] at h
                  exact h
                have Hin0 : Hid (∀ (ns : List Int) (xs : List (List UInt8)), takesM kind ((1 : Nat) : Int) (oddM th) rest = some (ns, xs) → ns.length ≤ 4096 ∧ xs.length ≤ 4096 ∧ (∀ y ∈ ns, In64 y) ∧ (∀ s ∈ xs, s.length ≤ 1024) ∧ (kind = 3 → ns = []) ∧ (¬ kind = 3 → xs = [])) := Lib.hid fun ns xs h => takesM_in h (Nat.le_trans (odd_le th) (by rw [Hm.out]; omega)) Hcond.out
                clear Ho him
                have HM3 : Hid (ctakeM kind b = (plainTk kind o rest).bind fun y => (joinF kind th y.1 y.2).bind fun l => if cputM kind ((1 : Nat) : Int) l = (b, ((1 : Nat) : Int), 0) then some l else none) := by
                  show _ = _
                  rw [HM2.out, ← Hod.out]
                  rfl
                have hcl := Lib.hid (plain_any kind rest o m2 c2 w1.heap.size i tc A2 TA _ Hrl.out HrR2.out (by omega) (by omega) HgP.out)
                go_wp2_with fail
                refine hcl.out.mono ?_
                rintro e w3 ⟨⟨hno, E, hE, rfl⟩ | ⟨N, nn, nc, X, xn, xc, ns, xs, hso, hnn, hxn, rfl, hg3, hrN, hrX⟩, hk3⟩
                · have HN : Hid (ctakeM kind b = none) := by
                    show _ = _
                    rw [HM3.out, hno]
                    rfl
                  have hb3 : Below w1.heap.size w1 w3 := HbP.out.trans (hk3.below HbP.out.size)
                  have HbX := Lib.hid (Hb1.out.trans (hb3.mono Hb1.out.size))
                  have qE : (E != 0) = true := by rw [bne_iff_ne]; exact hE
                  clear hno hE hk3 hb3 HM3 HM2 hcl
                  go_wp2_with fail
                  go_ret3
                  exact ⟨.inr (.inl ⟨Hko.out, HN.out, rfl⟩), HbX.out⟩
                · have hb3 : Below w1.heap.size w1 w3 := HbP.out.trans (hk3.below HbP.out.size)
                  have Hb15 := Lib.hid hb3
                  have Hb5 := Lib.hid (Hb1.out.trans (hb3.mono Hb1.out.size))
                  have c03 := C0.out _ hb3
                  have Hat : Hid (TkAt w3 w1.heap.size kind TA i tc N nn nc X xn xc th ns xs) := ⟨hg3, HrT.out.below hb3, hrN, hrX, Hm.out, hnn, hxn⟩
                  have HM4 : Hid (ctakeM kind b = (joinF kind th ns xs).bind fun l => if cputM kind ((1 : Nat) : Int) l = (b, ((1 : Nat) : Int), 0) then some l else none) := by
                    show _ = _
                    rw [HM3.out, hso]
                    rfl
                  have hin := Lib.hid <| Hin0.out ns xs (by rw [← Hod.out]; exact hso)
                  clear hso hnn hxn hg3 hrN hrX hk3 hb3 hcl HM3 HM2 Hin0
                  have hjo := Lib.hid (join_any Hat.out Hk.out hthl hin.out.1 hin.out.2.1 hin.out.2.2.2.2.1 hin.out.2.2.2.2.2)
                  have Hin1 := Lib.hid hin.out.2.2.1
                  have Hin2 := Lib.hid hin.out.2.2.2.1
                  clear hin Hat
                  go_wp2_with fail
                  refine hjo.out.mono ?_
                  rintro e w6 ⟨⟨hno, rfl⟩ | ⟨l, LA, ld, hso, rfl, hrl⟩, hb6⟩
                  · have HN : Hid (ctakeM kind b = none) := by
                      show _ = _
                      rw [HM4.out, hno]
                      rfl
                    have Hb6 := Lib.hid (Hb5.out.trans (hb6.mono Hb5.out.size))
                    clear hno hb6 HM4 hjo
                    go_wp2_with fail
                    go_ret3
                    exact ⟨.inr (.inl ⟨Hko.out, HN.out, rfl⟩), Hb6.out⟩
                  · obtain ⟨hjl, hjok⟩ := joinF_in kind Hk.out _ _ _ _ hso Hin1.out Hin2.out
                    have HM5 : Hid (ctakeM kind b = if cputM kind ((1 : Nat) : Int) l = (b, ((1 : Nat) : Int), 0) then some l else none) := by
                      show _ = _
                      rw [HM4.out, hso]
                      rfl
                    obtain ⟨L, hL⟩ : ∃ L, l.length = L := ⟨_, rfl⟩
                    rw [hL] at hjl ⊢
                    have hL4 : L ≤ 4096 := by have := Hm.out; omega
                    have hpu := Lib.hid (cputc_any kind ((1 : Nat) : Int) l L ld LA w6 hL hrl hL4 hjok Hk.out (by omega))
                    have Hb6 := Lib.hid (Hb5.out.trans (hb6.mono Hb5.out.size))
                    have Hb16 := Lib.hid (Hb15.out.trans (hb6.mono Hb15.out.size))
                    have c06 := C0.out _ Hb16.out
                    have HL := Lib.hid hL
                    have Hrl6 := Lib.hid hrl
                    clear hso hjl hjok hL hrl hb6 HM4 hjo Hin1 Hin2
                    go_wp2_with fail
                    refine hpu.out.mono ?_
                    rintro e w7 ⟨⟨QA, qc, rfl, hop⟩, hb7⟩
                    have Hb7 := Lib.hid (Hb6.out.trans (hb7.mono Hb6.out.size))
                    have Hb17 := Lib.hid (Hb16.out.trans (hb7.mono Hb16.out.size))
                    have c07 := C0.out _ Hb17.out
                    have hs2 := run_str w7 (some ⟨bb, bo, none⟩) b n c Hl.out (Hrb1.out.below Hb17.out)
                    have hs1 := run_str w7 QA (cputM kind ((1 : Nat) : Int) l).1 _ qc rfl hop.rd
                    have Hrl7 := Lib.hid (Hrl6.out.below hb7)
                    clear hop hb7 hpu
                    obtain ⟨P, hP⟩ : ∃ P, cputM kind ((1 : Nat) : Int) l = P := ⟨_, rfl⟩
                    rw [hP] at hs1 HM5 ⊢
                    clear hP
                    obtain ⟨pb, pu, pe⟩ := P
                    dsimp only at hs1 ⊢
                    obtain ⟨pn, hpn⟩ : ∃ pn, pb.length = pn := ⟨_, rfl⟩
                    rw [hpn] at hs1 ⊢
                    clear hpn
                    by_cases hpe : pe = 0
                    · subst hpe
                      by_cases hpu : pu = ((1 : Nat) : Int)
                      · subst hpu
                        by_cases hpb : pb = b
                        · subst hpb
                          have HN : Hid (ctakeM kind pb = some l) := by
                            show _ = _
                            rw [HM5.out, if_pos rfl]
                          have q1 : ((St8 pb).toList == (St8 pb).toList) = true := by simp
                          have q2 : ((St8 pb).toList != (St8 pb).toList) = false := by simp
                          clear HM5
                          go_wp2_with fail
                          go_ret3
                          exact ⟨.inr (.inr ⟨l, LA, ld, Hko.out, HN.out, by rw [HL.out, HH.out]; rfl, Hrl7.out⟩), Hb7.out⟩
                        · have HN : Hid (ctakeM kind b = none) := by
                            show _ = _
                            rw [HM5.out, if_neg (fun h => hpb (congrArg Prod.fst h))]
                          have q1 : ((St8 pb).toList == (St8 b).toList) = false := by rw [St8_eq_iff, decide_eq_false hpb]
                          have q2 : ((St8 pb).toList != (St8 b).toList) = true := by show (!_) = true; rw [q1]; rfl
                          clear HM5 hpb
                          go_wp2_with fail
                          go_ret3
                          exact ⟨.inr (.inl ⟨Hko.out, HN.out, rfl⟩), Hb7.out⟩
                      · have HN : Hid (ctakeM kind b = none) := by
                          show _ = _
                          rw [HM5.out, if_neg (fun h => hpu (congrArg (fun z => z.2.1) h))]
                        have q1 : (pu != 1) = true := by rw [bne_iff_ne]; exact hpu
                        clear HM5 hpu
                        go_wp2_with fail
                        go_ret3
                        exact ⟨.inr (.inl ⟨Hko.out, HN.out, rfl⟩), Hb7.out⟩
                    · have HN : Hid (ctakeM kind b = none) := by
                        show _ = _
                        rw [HM5.out, if_neg (fun h => hpe (congrArg (fun z => z.2.2) h))]
                      have q1 : (pe != 0) = true := by rw [bne_iff_ne]; exact hpe
                      clear HM5 hpe
                      go_wp2_with fail
                      go_ret3
                      exact ⟨.inr (.inl ⟨Hko.out, HN.out, rfl⟩), Hb7.out⟩
          · have hn3 : ¬ H = 3 := by
              rcases Hcond.out with h | h
              · intro h3
                rw [decide_eq_false hk3] at h
                exact of_decide_eq_false h (by omega)
              · omega
            by_cases h2 : H = 2
            · subst h2
              clear hk3 h1 hn3
              go_wp2_with fail
              go_loopw [11, 50] (fun v11 v50 wr => ∃ i o : Nat, v11 = .int .i64 (o : Int) ∧ v50 = .int .i64 (i : Int) ∧ i ≤ m ∧ o ≤ i ∧ Hid (o = oddM (th.take i)) ∧ wr = w1.alloc (.cells #[.int .u8 kind, .slice TA m tc, .slice none 0 0, .slice none 0 0] 40)) (fun _ v50 _ => m - (intOf v50).toNat)
              case atStart => exact ⟨0, 0, rfl, rfl, by omega, by omega, (by first | rfl | (show _ = _; simp [oddM])), rfl⟩
              case round =>
                obtain ⟨i, o, rfl, rfl, hi, ho, Ho, rfl⟩ := hrel
                by_cases him : i < m
                · have hiI : (i : Int) < (m : Int) := by omega
                  have hi0 : (0 : Int) ≤ (i : Int) := by omega
                  have hil : i < th.length := by rw [Hm.out]; exact him
                  have Hsn := Lib.hid (odd_snoc hil)
                  obtain ⟨bt, ot, hTA, ci⟩ := icl_get HrT2.out hil
                  have hbit := i64_and_one th[i]
                  obtain ⟨q, hq, hq1, Hq⟩ : ∃ q : Nat, th[i] % 2 = (q : Int) ∧ q ≤ 1 ∧ Hid ((th[i] % 2).toNat = q) := ⟨(th[i] % 2).toNat, by omega, by omega, rfl⟩
                  rw [hq] at hbit
                  have Hsn2 : Hid (o + q = oddM (th.take (i + 1))) := by
                    show _ = _
                    rw [Hsn.out, ← Ho.out, Hq.out]
                  generalize th[i] = x at *
                  subst hTA
                  clear Hsn hq Hq hil
                  go_wp2_with fail
                  go_roundw
                  case rel => exact ⟨i + 1, o + q, by go_num, by go_num, by omega, by omega, Hsn2, (by first | rfl | trivial)⟩
                  case measure => simp only [intOf, Int.toNat_natCast]; omega
                · obtain rfl : i = m := by omega
                  have Hod : Hid (o = oddM th) := by
                    show _ = _
                    have h := Ho.out
                    rw [List.take_of_length_le (by rw [Hm.out]; exact Nat.le_refl _)] at h
                    exact h
                  have Hin0 : Hid (∀ (ns : List Int) (xs : List (List UInt8)), takesM kind ((2 : Nat) : Int) (oddM th) rest = some (ns, xs) → ns.length ≤ 4096 ∧ xs.length ≤ 4096 ∧ (∀ y ∈ ns, In64 y) ∧ (∀ s ∈ xs, s.length ≤ 1024) ∧ (kind = 3 → ns = []) ∧ (¬ kind = 3 → xs = [])) := Lib.hid fun ns xs h => takesM_in h (Nat.le_trans (odd_le th) (by rw [Hm.out]; omega)) Hcond.out
                  clear Ho him
                  have HM3 : Hid (ctakeM kind b = ((runsTakeM rest).map fun x => (x, ([] : List (List UInt8)))).bind fun y => (joinF kind th y.1 y.2).bind fun l => if cputM kind ((2 : Nat) : Int) l = (b, ((2 : Nat) : Int), 0) then some l else none) := by
                    show _ = _
                    rw [HM2.out]
                    rfl
                  have hcl := Lib.hid (rtake_any rest m2 c2 A2 _ Hrl.out HrR2.out (by omega))
                  go_wp2_with fail
                  refine hcl.out.mono ?_
                  rintro e w3 ⟨⟨hno, E, hE, rfl⟩ | ⟨ns, N, nc, hso, rfl, hrN⟩, hb23⟩
                  · have HN : Hid (ctakeM kind b = none) := by
                      show _ = _
                      rw [HM3.out, hno]
                      rfl
                    have hb3 : Below w1.heap.size w1 w3 := HbP.out.trans (hb23.mono HbP.out.size)
                    have hg3 := HgP.out.below hb23
                    have y2 := hg3.cell 2
                    have f2 := hg3.frozen 2
                    simp only [List.getElem?_cons_zero, List.getElem?_cons_succ] at y2
                    have HbX := Lib.hid (Hb1.out.trans ((hb3.setCell (p := ⟨w1.heap.size, 2, none⟩) (Nat.le_refl _) (.slice none 0 0)).mono Hb1.out.size))
                    have qE : (E != 0) = true := by rw [bne_iff_ne]; exact hE
                    clear hno hE hb23 hb3 hg3 HM3 HM2 hcl
                    go_wp2_with fail
                    go_ret3
                    exact ⟨.inr (.inl ⟨Hko.out, HN.out, rfl⟩), HbX.out⟩
                  · have hb3 : Below w1.heap.size w1 w3 := HbP.out.trans (hb23.mono HbP.out.size)
                    have hg3 := HgP.out.below hb23
                    have y2 := hg3.cell 2
                    have f2 := hg3.frozen 2
                    simp only [List.getElem?_cons_zero, List.getElem?_cons_succ] at y2
                    obtain ⟨nn, hnn⟩ : ∃ nn, ns.length = nn := ⟨_, rfl⟩
                    rw [hnn]
                    have hb5 := hb3.setCell (p := ⟨w1.heap.size, 2, none⟩) (Nat.le_refl _) (.slice N nn nc)
                    have Hb15 := Lib.hid hb5
                    have Hb5 := Lib.hid (Hb1.out.trans (hb5.mono Hb1.out.size))
                    have c03 := C0.out _ hb5
                    have Hat : Hid (TkAt (w3.setCell ⟨w1.heap.size, 2, none⟩ (.slice N nn nc)) w1.heap.size kind TA i tc N nn nc none 0 0 th ns []) := ⟨hg3.set_ 2 _, HrT.out.below hb5, hrN.apart hg3 (icl_far _ _ _ _ _ _ _ _ _ _ _) (fun k _ hkg => heap_setCell_other _ _ _ _ hkg), Rd.nil _ _, Hm.out, hnn, rfl⟩
                    have HM4 : Hid (ctakeM kind b = (joinF kind th ns []).bind fun l => if cputM kind ((2 : Nat) : Int) l = (b, ((2 : Nat) : Int), 0) then some l else none) := by
                      show _ = _
                      rw [HM3.out, hso]
                      rfl
                    have hin := Lib.hid <| Hin0.out ns [] (by show (runsTakeM rest).map _ = _; rw [hso]; rfl)
                    clear hso hnn hrN hb23 hb3 hb5 hcl HM3 HM2 Hin0 hg3
                    go_wp2_with fail
                    generalize w3.setCell ⟨w1.heap.size, 2, none⟩ (.slice N nn nc) = w5 at *
                    have hjo := Lib.hid (join_any Hat.out Hk.out hthl hin.out.1 hin.out.2.1 hin.out.2.2.2.2.1 (fun _ => rfl))
                    have Hin1 := Lib.hid hin.out.2.2.1
                    have Hin2 := Lib.hid hin.out.2.2.2.1
                    clear hin Hat
                    go_wp2_with fail
                    refine hjo.out.mono ?_
                    rintro e w6 ⟨⟨hno, rfl⟩ | ⟨l, LA, ld, hso, rfl, hrl⟩, hb6⟩
                    · have HN : Hid (ctakeM kind b = none) := by
                        show _ = _
                        rw [HM4.out, hno]
                        rfl
                      have Hb6 := Lib.hid (Hb5.out.trans (hb6.mono Hb5.out.size))
                      clear hno hb6 HM4 hjo
                      go_wp2_with fail
                      go_ret3
                      exact ⟨.inr (.inl ⟨Hko.out, HN.out, rfl⟩), Hb6.out⟩
                    · obtain ⟨hjl, hjok⟩ := joinF_in kind Hk.out _ _ _ _ hso Hin1.out Hin2.out
                      have HM5 : Hid (ctakeM kind b = if cputM kind ((2 : Nat) : Int) l = (b, ((2 : Nat) : Int), 0) then some l else none) := by
                        show _ = _
                        rw [HM4.out, hso]
                        rfl
                      obtain ⟨L, hL⟩ : ∃ L, l.length = L := ⟨_, rfl⟩
                      rw [hL] at hjl ⊢
                      have hL4 : L ≤ 4096 := by have := Hm.out; omega
                      have hpu := Lib.hid (cputc_any kind ((2 : Nat) : Int) l L ld LA w6 hL hrl hL4 hjok Hk.out (by omega))
                      have Hb6 := Lib.hid (Hb5.out.trans (hb6.mono Hb5.out.size))
                      have Hb16 := Lib.hid (Hb15.out.trans (hb6.mono Hb15.out.size))
                      have c06 := C0.out _ Hb16.out
                      have HL := Lib.hid hL
                      have Hrl6 := Lib.hid hrl
                      clear hso hjl hjok hL hrl hb6 HM4 hjo Hin1 Hin2
                      go_wp2_with fail
                      refine hpu.out.mono ?_
                      rintro e w7 ⟨⟨QA, qc, rfl, hop⟩, hb7⟩
                      have Hb7 := Lib.hid (Hb6.out.trans (hb7.mono Hb6.out.size))
                      have Hb17 := Lib.hid (Hb16.out.trans (hb7.mono Hb16.out.size))
                      have c07 := C0.out _ Hb17.out
                      have hs2 := run_str w7 (some ⟨bb, bo, none⟩) b n c Hl.out (Hrb1.out.below Hb17.out)
                      have hs1 := run_str w7 QA (cputM kind ((2 : Nat) : Int) l).1 _ qc rfl hop.rd
                      have Hrl7 := Lib.hid (Hrl6.out.below hb7)
                      clear hop hb7 hpu
                      obtain ⟨P, hP⟩ : ∃ P, cputM kind ((2 : Nat) : Int) l = P := ⟨_, rfl⟩
                      rw [hP] at hs1 HM5 ⊢
                      clear hP
                      obtain ⟨pb, pu, pe⟩ := P
                      dsimp only at hs1 ⊢
                      obtain ⟨pn, hpn⟩ : ∃ pn, pb.length = pn := ⟨_, rfl⟩
                      rw [hpn] at hs1 ⊢
                      clear hpn
                      by_cases hpe : pe = 0
                      · subst hpe
                        by_cases hpu : pu = ((2 : Nat) : Int)
                        · subst hpu
                          by_cases hpb : pb = b
                          · subst hpb
                            have HN : Hid (ctakeM kind pb = some l) := by
                              show _ = _
                              rw [HM5.out, if_pos rfl]
                            have q1 : ((St8 pb).toList == (St8 pb).toList) = true := by simp
                            have q2 : ((St8 pb).toList != (St8 pb).toList) = false := by simp
                            clear HM5
                            go_wp2_with fail
                            go_ret3
                            exact ⟨.inr (.inr ⟨l, LA, ld, Hko.out, HN.out, by rw [HL.out, HH.out]; rfl, Hrl7.out⟩), Hb7.out⟩
                          · have HN : Hid (ctakeM kind b = none) := by
                              show _ = _
                              rw [HM5.out, if_neg (fun h => hpb (congrArg Prod.fst h))]
                            have q1 : ((St8 pb).toList == (St8 b).toList) = false := by rw [St8_eq_iff, decide_eq_false hpb]
                            have q2 : ((St8 pb).toList != (St8 b).toList) = true := by show (!_) = true; rw [q1]; rfl
                            clear HM5 hpb
                            go_wp2_with fail
                            go_ret3
                            exact ⟨.inr (.inl ⟨Hko.out, HN.out, rfl⟩), Hb7.out⟩
                        · have HN : Hid (ctakeM kind b = none) := by
                            show _ = _
                            rw [HM5.out, if_neg (fun h => hpu (congrArg (fun z => z.2.1) h))]
                          have q1 : (pu != 2) = true := by rw [bne_iff_ne]; exact hpu
                          clear HM5 hpu
                          go_wp2_with fail
                          go_ret3
                          exact ⟨.inr (.inl ⟨Hko.out, HN.out, rfl⟩), Hb7.out⟩
                      · have HN : Hid (ctakeM kind b = none) := by
                          show _ = _
                          rw [HM5.out, if_neg (fun h => hpe (congrArg (fun z => z.2.2) h))]
                        have q1 : (pe != 0) = true := by rw [bne_iff_ne]; exact hpe
                        clear HM5 hpe
                        go_wp2_with fail
                        go_ret3
                        exact ⟨.inr (.inl ⟨Hko.out, HN.out, rfl⟩), Hb7.out⟩
            · by_cases h4 : H = 4
              · subst h4
                clear hk3 h1 h2 hn3
                go_wp2_with fail
                go_loopw [11, 50] (fun v11 v50 wr => ∃ i o : Nat, v11 = .int .i64 (o : Int) ∧ v50 = .int .i64 (i : Int) ∧ i ≤ m ∧ o ≤ i ∧ Hid (o = oddM (th.take i)) ∧ wr = w1.alloc (.cells #[.int .u8 kind, .slice TA m tc, .slice none 0 0, .slice none 0 0] 40)) (fun _ v50 _ => m - (intOf v50).toNat)
                case atStart => exact ⟨0, 0, rfl, rfl, by omega, by omega, (by first | rfl | (show _ = _; simp [oddM])), rfl⟩
                case round =>
                  obtain ⟨i, o, rfl, rfl, hi, ho, Ho, rfl⟩ := hrel
                  by_cases him : i < m
                  · have hiI : (i : Int) < (m : Int) := by omega
                    have hi0 : (0 : Int) ≤ (i : Int) := by omega
                    have hil : i < th.length := by rw [Hm.out]; exact him
                    have Hsn := Lib.hid (odd_snoc hil)
                    obtain ⟨bt, ot, hTA, ci⟩ := icl_get HrT2.out hil
                    have hbit := i64_and_one th[i]
                    obtain ⟨q, hq, hq1, Hq⟩ : ∃ q : Nat, th[i] % 2 = (q : Int) ∧ q ≤ 1 ∧ Hid ((th[i] % 2).toNat = q) := ⟨(th[i] % 2).toNat, by omega, by omega, rfl⟩
                    rw [hq] at hbit
                    have Hsn2 : Hid (o + q = oddM (th.take (i + 1))) := by
                      show _ = _
                      rw [Hsn.out, ← Ho.out, Hq.out]
                    generalize th[i] = x at *
                    subst hTA
                    clear Hsn hq Hq hil
                    go_wp2_with fail
                    go_roundw
                    case rel => exact ⟨i + 1, o + q, by go_num, by go_num, by omega, by omega, Hsn2, (by first | rfl | trivial)⟩
                    case measure => simp only [intOf, Int.toNat_natCast]; omega
                  · obtain rfl : i = m := by omega
                    have Hod : Hid (o = oddM th) := by
                      show _ = _
                      have h := Ho.out
                      rw [List.take_of_length_le (by rw [Hm.out]; exact Nat.le_refl _)] at h
                      exact h
                    have Hin0 : Hid (∀ (ns : List Int) (xs : List (List UInt8)), takesM kind ((4 : Nat) : Int) (oddM th) rest = some (ns, xs) → ns.length ≤ 4096 ∧ xs.length ≤ 4096 ∧ (∀ y ∈ ns, In64 y) ∧ (∀ s ∈ xs, s.length ≤ 1024) ∧ (kind = 3 → ns = []) ∧ (¬ kind = 3 → xs = [])) := Lib.hid fun ns xs h => takesM_in h (Nat.le_trans (odd_le th) (by rw [Hm.out]; omega)) Hcond.out
                    clear Ho him
                    have HM3 : Hid (ctakeM kind b = ((unframeM rest).map fun x => (x, ([] : List (List UInt8)))).bind fun y => (joinF kind th y.1 y.2).bind fun l => if cputM kind ((4 : Nat) : Int) l = (b, ((4 : Nat) : Int), 0) then some l else none) := by
                      show _ = _
                      rw [HM2.out]
                      rfl
                    have hcl := Lib.hid (unframe_any rest m2 c2 A2 _ Hrl.out HrR2.out (by omega) hrc.1 hrc.2)
                    go_wp2_with fail
                    refine hcl.out.mono ?_
                    rintro e w3 ⟨⟨hno, E, hE, rfl⟩ | ⟨ns, N, nc, hso, rfl, hrN⟩, hb23⟩
                    · have HN : Hid (ctakeM kind b = none) := by
                        show _ = _
                        rw [HM3.out, hno]
                        rfl
                      have hb3 : Below w1.heap.size w1 w3 := HbP.out.trans (hb23.mono HbP.out.size)
                      have hg3 := HgP.out.below hb23
                      have y2 := hg3.cell 2
                      have f2 := hg3.frozen 2
                      simp only [List.getElem?_cons_zero, List.getElem?_cons_succ] at y2
                      have HbX := Lib.hid (Hb1.out.trans ((hb3.setCell (p := ⟨w1.heap.size, 2, none⟩) (Nat.le_refl _) (.slice none 0 0)).mono Hb1.out.size))
                      have qE : (E != 0) = true := by rw [bne_iff_ne]; exact hE
                      clear hno hE hb23 hb3 hg3 HM3 HM2 hcl
                      go_wp2_with fail
                      go_ret3
                      exact ⟨.inr (.inl ⟨Hko.out, HN.out, rfl⟩), HbX.out⟩
                    · have hb3 : Below w1.heap.size w1 w3 := HbP.out.trans (hb23.mono HbP.out.size)
                      have hg3 := HgP.out.below hb23
                      have y2 := hg3.cell 2
                      have f2 := hg3.frozen 2
                      simp only [List.getElem?_cons_zero, List.getElem?_cons_succ] at y2
                      obtain ⟨nn, hnn⟩ : ∃ nn, ns.length = nn := ⟨_, rfl⟩
                      rw [hnn]
                      have hb5 := hb3.setCell (p := ⟨w1.heap.size, 2, none⟩) (Nat.le_refl _) (.slice N nn nc)
                      have Hb15 := Lib.hid hb5
                      have Hb5 := Lib.hid (Hb1.out.trans (hb5.mono Hb1.out.size))
                      have c03 := C0.out _ hb5
                      have Hat : Hid (TkAt (w3.setCell ⟨w1.heap.size, 2, none⟩ (.slice N nn nc)) w1.heap.size kind TA i tc N nn nc none 0 0 th ns []) := ⟨hg3.set_ 2 _, HrT.out.below hb5, hrN.apart hg3 (icl_far _ _ _ _ _ _ _ _ _ _ _) (fun k _ hkg => heap_setCell_other _ _ _ _ hkg), Rd.nil _ _, Hm.out, hnn, rfl⟩
                      have HM4 : Hid (ctakeM kind b = (joinF kind th ns []).bind fun l => if cputM kind ((4 : Nat) : Int) l = (b, ((4 : Nat) : Int), 0) then some l else none) := by
                        show _ = _
                        rw [HM3.out, hso]
                        rfl
                      have hin := Lib.hid <| Hin0.out ns [] (by show (unframeM rest).map _ = _; rw [hso]; rfl)
                      clear hso hnn hrN hb23 hb3 hb5 hcl HM3 HM2 Hin0 hg3
                      go_wp2_with fail
                      generalize w3.setCell ⟨w1.heap.size, 2, none⟩ (.slice N nn nc) = w5 at *
                      have hjo := Lib.hid (join_any Hat.out Hk.out hthl hin.out.1 hin.out.2.1 hin.out.2.2.2.2.1 (fun _ => rfl))
                      have Hin1 := Lib.hid hin.out.2.2.1
                      have Hin2 := Lib.hid hin.out.2.2.2.1
                      clear hin Hat
                      go_wp2_with fail
                      refine hjo.out.mono ?_
                      rintro e w6 ⟨⟨hno, rfl⟩ | ⟨l, LA, ld, hso, rfl, hrl⟩, hb6⟩
                      · have HN : Hid (ctakeM kind b = none) := by
                          show _ = _
                          rw [HM4.out, hno]
                          rfl
                        have Hb6 := Lib.hid (Hb5.out.trans (hb6.mono Hb5.out.size))
                        clear hno hb6 HM4 hjo
                        go_wp2_with fail
                        go_ret3
                        exact ⟨.inr (.inl ⟨Hko.out, HN.out, rfl⟩), Hb6.out⟩
                      · obtain ⟨hjl, hjok⟩ := joinF_in kind Hk.out _ _ _ _ hso Hin1.out Hin2.out
                        have HM5 : Hid (ctakeM kind b = if cputM kind ((4 : Nat) : Int) l = (b, ((4 : Nat) : Int), 0) then some l else none) := by
                          show _ = _
                          rw [HM4.out, hso]
                          rfl
                        obtain ⟨L, hL⟩ : ∃ L, l.length = L := ⟨_, rfl⟩
                        rw [hL] at hjl ⊢
                        have hL4 : L ≤ 4096 := by have := Hm.out; omega
                        have hpu := Lib.hid (cputc_any kind ((4 : Nat) : Int) l L ld LA w6 hL hrl hL4 hjok Hk.out (by omega))
                        have Hb6 := Lib.hid (Hb5.out.trans (hb6.mono Hb5.out.size))
                        have Hb16 := Lib.hid (Hb15.out.trans (hb6.mono Hb15.out.size))
                        have c06 := C0.out _ Hb16.out
                        have HL := Lib.hid hL
                        have Hrl6 := Lib.hid hrl
                        clear hso hjl hjok hL hrl hb6 HM4 hjo Hin1 Hin2
                        go_wp2_with fail
                        refine hpu.out.mono ?_
                        rintro e w7 ⟨⟨QA, qc, rfl, hop⟩, hb7⟩
                        have Hb7 := Lib.hid (Hb6.out.trans (hb7.mono Hb6.out.size))
                        have Hb17 := Lib.hid (Hb16.out.trans (hb7.mono Hb16.out.size))
                        have c07 := C0.out _ Hb17.out
                        have hs2 := run_str w7 (some ⟨bb, bo, none⟩) b n c Hl.out (Hrb1.out.below Hb17.out)
                        have hs1 := run_str w7 QA (cputM kind ((4 : Nat) : Int) l).1 _ qc rfl hop.rd
                        have Hrl7 := Lib.hid (Hrl6.out.below hb7)
                        clear hop hb7 hpu
                        obtain ⟨P, hP⟩ : ∃ P, cputM kind ((4 : Nat) : Int) l = P := ⟨_, rfl⟩
                        rw [hP] at hs1 HM5 ⊢
                        clear hP
                        obtain ⟨pb, pu, pe⟩ := P
                        dsimp only at hs1 ⊢
                        obtain ⟨pn, hpn⟩ : ∃ pn, pb.length = pn := ⟨_, rfl⟩
                        rw [hpn] at hs1 ⊢
                        clear hpn
                        by_cases hpe : pe = 0
                        · subst hpe
                          by_cases hpu : pu = ((4 : Nat) : Int)
                          · subst hpu
                            by_cases hpb : pb = b
                            · subst hpb
                              have HN : Hid (ctakeM kind pb = some l) := by
                                show _ = _
                                rw [HM5.out, if_pos rfl]
                              have q1 : ((St8 pb).toList == (St8 pb).toList) = true := by simp
                              have q2 : ((St8 pb).toList != (St8 pb).toList) = false := by simp
                              clear HM5
                              go_wp2_with fail
                              go_ret3
                              exact ⟨.inr (.inr ⟨l, LA, ld, Hko.out, HN.out, by rw [HL.out, HH.out]; rfl, Hrl7.out⟩), Hb7.out⟩
                            · have HN : Hid (ctakeM kind b = none) := by
                                show _ = _
                                rw [HM5.out, if_neg (fun h => hpb (congrArg Prod.fst h))]
                              have q1 : ((St8 pb).toList == (St8 b).toList) = false := by rw [St8_eq_iff, decide_eq_false hpb]
                              have q2 : ((St8 pb).toList != (St8 b).toList) = true := by show (!_) = true; rw [q1]; rfl
                              clear HM5 hpb
                              go_wp2_with fail
                              go_ret3
                              exact ⟨.inr (.inl ⟨Hko.out, HN.out, rfl⟩), Hb7.out⟩
                          · have HN : Hid (ctakeM kind b = none) := by
                              show _ = _
                              rw [HM5.out, if_neg (fun h => hpu (congrArg (fun z => z.2.1) h))]
                            have q1 : (pu != 4) = true := by rw [bne_iff_ne]; exact hpu
                            clear HM5 hpu
                            go_wp2_with fail
                            go_ret3
                            exact ⟨.inr (.inl ⟨Hko.out, HN.out, rfl⟩), Hb7.out⟩
                        · have HN : Hid (ctakeM kind b = none) := by
                            show _ = _
                            rw [HM5.out, if_neg (fun h => hpe (congrArg (fun z => z.2.2) h))]
                          have q1 : (pe != 0) = true := by rw [bne_iff_ne]; exact hpe
                          clear HM5 hpe
                          go_wp2_with fail
                          go_ret3
                          exact ⟨.inr (.inl ⟨Hko.out, HN.out, rfl⟩), Hb7.out⟩
              · by_cases h5 : H = 5
                · subst h5
                  clear hk3 h1 h2 h4 hn3
                  go_wp2_with fail
                  go_loopw [11, 50] (fun v11 v50 wr => ∃ i o : Nat, v11 = .int .i64 (o : Int) ∧ v50 = .int .i64 (i : Int) ∧ i ≤ m ∧ o ≤ i ∧ Hid (o = oddM (th.take i)) ∧ wr = w1.alloc (.cells #[.int .u8 kind, .slice TA m tc, .slice none 0 0, .slice none 0 0] 40)) (fun _ v50 _ => m - (intOf v50).toNat)
                  case atStart => exact ⟨0, 0, rfl, rfl, by omega, by omega, (by first | rfl | (show _ = _; simp [oddM])), rfl⟩
                  case round =>
                    obtain ⟨i, o, rfl, rfl, hi, ho, Ho, rfl⟩ := hrel
                    by_cases him : i < m
                    · have hiI : (i : Int) < (m : Int) := by omega
                      have hi0 : (0 : Int) ≤ (i : Int) := by omega
                      have hil : i < th.length := by rw [Hm.out]; exact him
                      have Hsn := Lib.hid (odd_snoc hil)
                      obtain ⟨bt, ot, hTA, ci⟩ := icl_get HrT2.out hil
                      have hbit := i64_and_one th[i]
                      obtain ⟨q, hq, hq1, Hq⟩ : ∃ q : Nat, th[i] % 2 = (q : Int) ∧ q ≤ 1 ∧ Hid ((th[i] % 2).toNat = q) := ⟨(th[i] % 2).toNat, by omega, by omega, rfl⟩
                      rw [hq] at hbit
                      have Hsn2 : Hid (o + q = oddM (th.take (i + 1))) := by
                        show _ = _
                        rw [Hsn.out, ← Ho.out, Hq.out]
                      generalize th[i] = x at *
                      subst hTA
                      clear Hsn hq Hq hil
                      go_wp2_with fail
                      go_roundw
                      case rel => exact ⟨i + 1, o + q, by go_num, by go_num, by omega, by omega, Hsn2, (by first | rfl | trivial)⟩
                      case measure => simp only [intOf, Int.toNat_natCast]; omega
                    · obtain rfl : i = m := by omega
                      have Hod : Hid (o = oddM th) := by
                        show _ = _
                        have h := Ho.out
                        rw [List.take_of_length_le (by rw [Hm.out]; exact Nat.le_refl _)] at h
                        exact h
                      have Hin0 : Hid (∀ (ns : List Int) (xs : List (List UInt8)), takesM kind ((5 : Nat) : Int) (oddM th) rest = some (ns, xs) → ns.length ≤ 4096 ∧ xs.length ≤ 4096 ∧ (∀ y ∈ ns, In64 y) ∧ (∀ s ∈ xs, s.length ≤ 1024) ∧ (kind = 3 → ns = []) ∧ (¬ kind = 3 → xs = [])) := Lib.hid fun ns xs h => takesM_in h (Nat.le_trans (odd_le th) (by rw [Hm.out]; omega)) Hcond.out
                      clear Ho him
                      have HM3 : Hid (ctakeM kind b = ((deltaTakeM rest).map fun x => (x, ([] : List (List UInt8)))).bind fun y => (joinF kind th y.1 y.2).bind fun l => if cputM kind ((5 : Nat) : Int) l = (b, ((5 : Nat) : Int), 0) then some l else none) := by
                        show _ = _
                        rw [HM2.out]
                        rfl
                      have hcl := Lib.hid (dltake_any rest m2 c2 A2 _ Hrl.out HrR2.out (by omega))
                      go_wp2_with fail
                      refine hcl.out.mono ?_
                      rintro e w3 ⟨⟨hno, E, hE, rfl⟩ | ⟨ns, N, nc, hso, rfl, hrN⟩, hb23⟩
                      · have HN : Hid (ctakeM kind b = none) := by
                          show _ = _
                          rw [HM3.out, hno]
                          rfl
                        have hb3 : Below w1.heap.size w1 w3 := HbP.out.trans (hb23.mono HbP.out.size)
                        have hg3 := HgP.out.below hb23
                        have y2 := hg3.cell 2
                        have f2 := hg3.frozen 2
                        simp only [List.getElem?_cons_zero, List.getElem?_cons_succ] at y2
                        have HbX := Lib.hid (Hb1.out.trans ((hb3.setCell (p := ⟨w1.heap.size, 2, none⟩) (Nat.le_refl _) (.slice none 0 0)).mono Hb1.out.size))
                        have qE : (E != 0) = true := by rw [bne_iff_ne]; exact hE
                        clear hno hE hb23 hb3 hg3 HM3 HM2 hcl
                        go_wp2_with fail
                        go_ret3
                        exact ⟨.inr (.inl ⟨Hko.out, HN.out, rfl⟩), HbX.out⟩
                      · have hb3 : Below w1.heap.size w1 w3 := HbP.out.trans (hb23.mono HbP.out.size)
                        have hg3 := HgP.out.below hb23
                        have y2 := hg3.cell 2
                        have f2 := hg3.frozen 2
                        simp only [List.getElem?_cons_zero, List.getElem?_cons_succ] at y2
                        obtain ⟨nn, hnn⟩ : ∃ nn, ns.length = nn := ⟨_, rfl⟩
                        rw [hnn]
                        have hb5 := hb3.setCell (p := ⟨w1.heap.size, 2, none⟩) (Nat.le_refl _) (.slice N nn nc)
                        have Hb15 := Lib.hid hb5
                        have Hb5 := Lib.hid (Hb1.out.trans (hb5.mono Hb1.out.size))
                        have c03 := C0.out _ hb5
                        have Hat : Hid (TkAt (w3.setCell ⟨w1.heap.size, 2, none⟩ (.slice N nn nc)) w1.heap.size kind TA i tc N nn nc none 0 0 th ns []) := ⟨hg3.set_ 2 _, HrT.out.below hb5, hrN.apart hg3 (icl_far _ _ _ _ _ _ _ _ _ _ _) (fun k _ hkg => heap_setCell_other _ _ _ _ hkg), Rd.nil _ _, Hm.out, hnn, rfl⟩
                        have HM4 : Hid (ctakeM kind b = (joinF kind th ns []).bind fun l => if cputM kind ((5 : Nat) : Int) l = (b, ((5 : Nat) : Int), 0) then some l else none) := by
                          show _ = _
                          rw [HM3.out, hso]
                          rfl
                        have hin := Lib.hid <| Hin0.out ns [] (by show (deltaTakeM rest).map _ = _; rw [hso]; rfl)
                        clear hso hnn hrN hb23 hb3 hb5 hcl HM3 HM2 Hin0 hg3
                        go_wp2_with fail
                        generalize w3.setCell ⟨w1.heap.size, 2, none⟩ (.slice N nn nc) = w5 at *
                        have hjo := Lib.hid (join_any Hat.out Hk.out hthl hin.out.1 hin.out.2.1 hin.out.2.2.2.2.1 (fun _ => rfl))
                        have Hin1 := Lib.hid hin.out.2.2.1
                        have Hin2 := Lib.hid hin.out.2.2.2.1
                        clear hin Hat
                        go_wp2_with fail
                        refine hjo.out.mono ?_
                        rintro e w6 ⟨⟨hno, rfl⟩ | ⟨l, LA, ld, hso, rfl, hrl⟩, hb6⟩
                        · have HN : Hid (ctakeM kind b = none) := by
                            show _ = _
                            rw [HM4.out, hno]
                            rfl
                          have Hb6 := Lib.hid (Hb5.out.trans (hb6.mono Hb5.out.size))
                          clear hno hb6 HM4 hjo
                          go_wp2_with fail
                          go_ret3
                          exact ⟨.inr (.inl ⟨Hko.out, HN.out, rfl⟩), Hb6.out⟩
                        · obtain ⟨hjl, hjok⟩ := joinF_in kind Hk.out _ _ _ _ hso Hin1.out Hin2.out
                          have HM5 : Hid (ctakeM kind b = if cputM kind ((5 : Nat) : Int) l = (b, ((5 : Nat) : Int), 0) then some l else none) := by
                            show _ = _
                            rw [HM4.out, hso]
                            rfl
                          obtain ⟨L, hL⟩ : ∃ L, l.length = L := ⟨_, rfl⟩
                          rw [hL] at hjl ⊢
                          have hL4 : L ≤ 4096 := by have := Hm.out; omega
                          have hpu := Lib.hid (cputc_any kind ((5 : Nat) : Int) l L ld LA w6 hL hrl hL4 hjok Hk.out (by omega))
                          have Hb6 := Lib.hid (Hb5.out.trans (hb6.mono Hb5.out.size))
                          have Hb16 := Lib.hid (Hb15.out.trans (hb6.mono Hb15.out.size))
                          have c06 := C0.out _ Hb16.out
                          have HL := Lib.hid hL
                          have Hrl6 := Lib.hid hrl
                          clear hso hjl hjok hL hrl hb6 HM4 hjo Hin1 Hin2
                          go_wp2_with fail
                          refine hpu.out.mono ?_
                          rintro e w7 ⟨⟨QA, qc, rfl, hop⟩, hb7⟩
                          have Hb7 := Lib.hid (Hb6.out.trans (hb7.mono Hb6.out.size))
                          have Hb17 := Lib.hid (Hb16.out.trans (hb7.mono Hb16.out.size))
                          have c07 := C0.out _ Hb17.out
                          have hs2 := run_str w7 (some ⟨bb, bo, none⟩) b n c Hl.out (Hrb1.out.below Hb17.out)
                          have hs1 := run_str w7 QA (cputM kind ((5 : Nat) : Int) l).1 _ qc rfl hop.rd
                          have Hrl7 := Lib.hid (Hrl6.out.below hb7)
                          clear hop hb7 hpu
                          obtain ⟨P, hP⟩ : ∃ P, cputM kind ((5 : Nat) : Int) l = P := ⟨_, rfl⟩
                          rw [hP] at hs1 HM5 ⊢
                          clear hP
                          obtain ⟨pb, pu, pe⟩ := P
                          dsimp only at hs1 ⊢
                          obtain ⟨pn, hpn⟩ : ∃ pn, pb.length = pn := ⟨_, rfl⟩
                          rw [hpn] at hs1 ⊢
                          clear hpn
                          by_cases hpe : pe = 0
                          · subst hpe
                            by_cases hpu : pu = ((5 : Nat) : Int)
                            · subst hpu
                              by_cases hpb : pb = b
                              · subst hpb
                                have HN : Hid (ctakeM kind pb = some l) := by
                                  show _ = _
                                  rw [HM5.out, if_pos rfl]
                                have q1 : ((St8 pb).toList == (St8 pb).toList) = true := by simp
                                have q2 : ((St8 pb).toList != (St8 pb).toList) = false := by simp
                                clear HM5
                                go_wp2_with fail
                                go_ret3
                                exact ⟨.inr (.inr ⟨l, LA, ld, Hko.out, HN.out, by rw [HL.out, HH.out]; rfl, Hrl7.out⟩), Hb7.out⟩
                              · have HN : Hid (ctakeM kind b = none) := by
                                  show _ = _
                                  rw [HM5.out, if_neg (fun h => hpb (congrArg Prod.fst h))]
                                have q1 : ((St8 pb).toList == (St8 b).toList) = false := by rw [St8_eq_iff, decide_eq_false hpb]
                                have q2 : ((St8 pb).toList != (St8 b).toList) = true := by show (!_) = true; rw [q1]; rfl
                                clear HM5 hpb
                                go_wp2_with fail
                                go_ret3
                                exact ⟨.inr (.inl ⟨Hko.out, HN.out, rfl⟩), Hb7.out⟩
                            · have HN : Hid (ctakeM kind b = none) := by
                                show _ = _
                                rw [HM5.out, if_neg (fun h => hpu (congrArg (fun z => z.2.1) h))]
                              have q1 : (pu != 5) = true := by rw [bne_iff_ne]; exact hpu
                              clear HM5 hpu
                              go_wp2_with fail
                              go_ret3
                              exact ⟨.inr (.inl ⟨Hko.out, HN.out, rfl⟩), Hb7.out⟩
                          · have HN : Hid (ctakeM kind b = none) := by
                              show _ = _
                              rw [HM5.out, if_neg (fun h => hpe (congrArg (fun z => z.2.2) h))]
                            have q1 : (pe != 0) = true := by rw [bne_iff_ne]; exact hpe
                            clear HM5 hpe
                            go_wp2_with fail
                            go_ret3
                            exact ⟨.inr (.inl ⟨Hko.out, HN.out, rfl⟩), Hb7.out⟩
                · have HN : Hid (ctakeM kind b = none) := by
                    show _ = _
                    rw [HM2.out]
                    unfold takesM
                    rw [if_neg (by omega), if_neg (by omega), if_neg (by omega), if_neg (by omega), if_neg (by omega)]
                    rfl
                  have g1 : ((H : Int) == 1) = false := by rw [beq_eq_false_iff_ne]; omega
                  have g2 : ((H : Int) == 2) = false := by rw [beq_eq_false_iff_ne]; omega
                  have g3 : ((H : Int) == 3) = false := by rw [beq_eq_false_iff_ne]; omega
                  have g4 : ((H : Int) == 4) = false := by rw [beq_eq_false_iff_ne]; omega
                  have g5 : ((H : Int) == 5) = false := by rw [beq_eq_false_iff_ne]; omega
                  have g6 : ((H : Int) != 1) = true := by rw [bne_iff_ne]; omega
                  have HbX := Lib.hid (Hb1.out.trans (HbP.out.mono Hb1.out.size))
                  clear hk3 h1 h2 h4 h5 hn3 HM2
                  go_wp2_with fail
                  go_loopw [11, 50] (fun v11 v50 wr => ∃ i o : Nat, v11 = .int .i64 (o : Int) ∧ v50 = .int .i64 (i : Int) ∧ i ≤ m ∧ o ≤ i ∧ Hid (o = oddM (th.take i)) ∧ wr = w1.alloc (.cells #[.int .u8 kind, .slice TA m tc, .slice none 0 0, .slice none 0 0] 40)) (fun _ v50 _ => m - (intOf v50).toNat)
                  case atStart => exact ⟨0, 0, rfl, rfl, by omega, by omega, (by first | rfl | (show _ = _; simp [oddM])), rfl⟩
                  case round =>
                    obtain ⟨i, o, rfl, rfl, hi, ho, Ho, rfl⟩ := hrel
                    by_cases him : i < m
                    · have hiI : (i : Int) < (m : Int) := by omega
                      have hi0 : (0 : Int) ≤ (i : Int) := by omega
                      have hil : i < th.length := by rw [Hm.out]; exact him
                      have Hsn := Lib.hid (odd_snoc hil)
                      obtain ⟨bt, ot, hTA, ci⟩ := icl_get HrT2.out hil
                      have hbit := i64_and_one th[i]
                      obtain ⟨q, hq, hq1, Hq⟩ : ∃ q : Nat, th[i] % 2 = (q : Int) ∧ q ≤ 1 ∧ Hid ((th[i] % 2).toNat = q) := ⟨(th[i] % 2).toNat, by omega, by omega, rfl⟩
                      rw [hq] at hbit
                      have Hsn2 : Hid (o + q = oddM (th.take (i + 1))) := by
                        show _ = _
                        rw [Hsn.out, ← Ho.out, Hq.out]
                      generalize th[i] = x at *
                      subst hTA
                      clear Hsn hq Hq hil
                      go_wp2_with fail
                      go_roundw
                      case rel => exact ⟨i + 1, o + q, by go_num, by go_num, by omega, by omega, Hsn2, (by first | rfl | trivial)⟩
                      case measure => simp only [intOf, Int.toNat_natCast]; omega
                    · obtain rfl : i = m := by omega
                      have Hod : Hid (o = oddM th) := by
                        show _ = _
                        have h := Ho.out
                        rw [List.take_of_length_le (by rw [Hm.out]; exact Nat.le_refl _)] at h
                        exact h
                      have Hin0 : Hid (∀ (ns : List Int) (xs : List (List UInt8)), takesM kind (H : Int) (oddM th) rest = some (ns, xs) → ns.length ≤ 4096 ∧ xs.length ≤ 4096 ∧ (∀ y ∈ ns, In64 y) ∧ (∀ s ∈ xs, s.length ≤ 1024) ∧ (kind = 3 → ns = []) ∧ (¬ kind = 3 → xs = [])) := Lib.hid fun ns xs h => takesM_in h (Nat.le_trans (odd_le th) (by rw [Hm.out]; omega)) Hcond.out
                      clear Ho him
                      go_wp2_with fail
                      go_ret3
                      exact ⟨.inr (.inl ⟨Hko.out, HN.out, rfl⟩), HbX.out⟩
      · have HN : Hid (ctakeM kind b = none) := by
          show _ = _
          rw [HM1.out, if_neg hcond]
        by_cases e1 : (H : Int) = 3
        · have e2 : ¬ kind = 3 := fun e2 => hcond (.inl (by rw [e1, e2]))
          obtain rfl : H = 3 := by omega
          have b2 : (kind == 3) = false := by rw [beq_eq_false_iff_ne]; exact e2
          clear HM1 hcond e1 e2
          go_wp2_with fail
          go_ret3
          exact ⟨.inr (.inl ⟨Hko.out, HN.out, rfl⟩), Hb1.out⟩
        · have e2 : kind = 3 := by
            by_cases e2 : kind = 3
            · exact e2
            · exact absurd (.inl (by rw [decide_eq_false e1, decide_eq_false e2])) hcond
          have e3 : ¬ (H : Int) = 1 := fun h => hcond (.inr h)
          have b1 : ((H : Int) == 3) = false := by rw [beq_eq_false_iff_ne]; exact e1
          have b2 : (kind == 3) = true := by rw [e2]; rfl
          have b3 : ((H : Int) != 1) = true := by rw [bne_iff_ne]; exact e3
          clear HM1 hcond e1 e2 e3
          go_wp2_with fail
          go_ret3
          exact ⟨.inr (.inl ⟨Hko.out, HN.out, rfl⟩), Hb1.out⟩
end Go.Proofs.YtojppmnmhdgnnaaGreat
