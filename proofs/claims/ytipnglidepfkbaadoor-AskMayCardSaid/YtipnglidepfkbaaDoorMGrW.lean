/- Walks: where nodes end, and why something can't be asked, as the reference finds it; what comes of nodes from the last one on: plain laws. Rows of numbers. -/
import Derived.Test.YtipnglidepfkbaaDoorMGlO
import Derived.Test.YtipnglidepfkbaaDoorMGrT
import Derived.Test.YtipnglidepfkbaaDoorMGrA
import Derived.Test.YtipnglidepfkbaaDoorProg
namespace Go.Proofs.YtipnglidepfkbaaDoor
set_option linter.unusedVariables false
set_option linter.unusedSimpArgs false
open Go.RowKit

attribute [local go_sem ↓] Go.wp_at_zero Go.wp_at_succ

theorem may_kids {kinds : List Int} {x : Nd} (h : mayN kinds x = true) : rkids x = x.parts := by
  obtain ⟨op, col, kids, v⟩ := x
  rw [mayN_ref] at h
  unfold rkids Nd.parts
  dsimp only
  split at h
  · cases h
  · split at h
    · cases h
    · rename_i h1 h2
      by_cases h4 : op = 4
      · rw [if_pos h4, if_neg (by omega), if_pos h4]
      · rw [if_neg h4]
        by_cases hm : op = 2 ∨ op = 3
        · rw [if_pos hm]
        · rw [if_neg hm, if_neg h4]
          omega
theorem may_op {kinds : List Int} {x : Nd} (h : mayN kinds x = true) : 1 ≤ x.op ∧ x.op ≤ 8 := by
  obtain ⟨op, col, kids, v⟩ := x
  rw [mayN_ref] at h
  split at h
  · cases h
  · dsimp only; omega
theorem may_col {kinds : List Int} {x : Nd} (h : mayN kinds x = true) (ha : x.asks = true) : 0 ≤ x.col ∧ x.col < (kinds.length : Int) := by
  obtain ⟨op, col, kids, v⟩ := x
  unfold Nd.asks at ha
  have ha := of_decide_eq_true ha
  rw [mayN_ref] at h
  dsimp only at ha ⊢
  split at h
  · cases h
  · split at h
    · cases h
    · split at h
      · cases h
      · omega

set_option maxHeartbeats 4000000 in
set_option maxRecDepth 100000 in
theorem rend_c (kinds : List Int) (l : List Nd) (L : Option Addr) (n c : Nat) (w : World) (hl : l.length = n) (hL : Rd w L (ncells l)) (hn : n ≤ 1000) (hm : ∀ x ∈ l, mayN kinds x = true) :
    Calls Tryd.prog 25 #[.slice L n c, .int .i64 0] w fun e w' => (∃ E : Int, e = .returned (.int .i64 E) ∧ (E = (n : Int) ↔ ends 1 l = true)) ∧ Below w.heap.size w w' := by
  have Hl := Lib.hid hl
  have HL := Lib.hid hL
  have Hk := Lib.hid hm
  clear hl hL hm
  go_enter Tryd.func25, Tryd.ntmps25
  go_wp2_with fail
  go_loopw [1, 5] (fun va vn wr => ∃ (j d : Nat), va = .int .i64 j ∧ vn = .int .i64 d ∧ j ≤ n ∧ d ≤ 1 + 40 * j ∧ Hid (ends 1 l = ends (d : Int) (l.drop j)) ∧ Hid (Below w.heap.size w wr)) (fun va _ _ => n - (intOf va).toNat)
  case atStart => exact ⟨0, 1, rfl, rfl, by omega, by omega, rfl, Below.refl _ _⟩
  case round =>
    obtain ⟨j, d, rfl, rfl, hj, hd, Heq, Hb⟩ := hrel
    by_cases hd0 : 0 < d
    · have hdI : (0 : Int) < (d : Int) := by omega
      by_cases hjn : j < n
      · have hjI : (j : Int) < (n : Int) := by omega
        have hjI' : ¬ (n : Int) ≤ (j : Int) := by omega
        have hjI0 : (0 : Int) ≤ (j : Int) := by omega
        have hjl : j < l.length := by rw [Hl.out]; exact hjn
        have hg := List.getElem?_eq_getElem hjl
        have hdr := List.drop_eq_getElem_cons hjl
        obtain ⟨b, o, rfl, c0, c1, c2, c3, c4, c5⟩ := node_cells (HL.out.below Hb.out) hg
        have hmx := Hk.out l[j] (List.getElem_mem hjl)
        have hpx := may_parts hmx
        have heq := Heq.out
        rw [hdr, ends, decide_eq_true hdI, Bool.true_and] at heq
        have hK := fun w' => rkids_c l[j] w'
        rw [may_kids hmx] at hK
        have hK := Lib.hid hK
        clear hmx
        generalize l[j] = x at *
        obtain ⟨op, col, kids, k, nn, s⟩ := x
        unfold Nd.agg at hK
        dsimp only at c0 c1 c2 c3 c4 c5 hK
        generalize (Nd.mk op col kids ⟨k, nn, s⟩).parts = P at *
        obtain ⟨p, rfl⟩ := Int.eq_ofNat_of_zero_le hpx.1
        have hw1 : IntKind.i64.wrap ((d : Int) - 1) = (d : Int) - 1 := by rw [IntKind.wrap_i64]; omega
        have hw2 : IntKind.i64.wrap ((d : Int) - 1 + (p : Int)) = (d : Int) - 1 + (p : Int) := by rw [IntKind.wrap_i64]; omega
        have Heq2 := Lib.hid heq
        clear heq hg hdr hjl Heq
        go_wp2_with fail
        refine (hK.out _).mono ?_
        rintro e w1 ⟨rfl, hb1⟩
        have Hb1 := Lib.hid (Hb.out.trans (hb1.mono Hb.out.size))
        clear hb1 c0 c1 c2 c3 c4 c5
        go_wp2_with fail
        go_roundw
        case rel => exact ⟨j + 1, d + p - 1, by go_num, by go_num, by omega, by omega, (by show _ = _; rw [Heq2.out]; congr 1; omega), Hb1⟩
        case measure => simp [intOf]; omega
      · obtain rfl : j = n := by omega
        have hf : Hid (ends 1 l = false) := by
          show _ = _
          rw [Heq.out, List.drop_eq_nil_of_le (by rw [Hl.out]; omega), ends]
          exact decide_eq_false (by omega)
        clear Heq
        go_wp2_with fail
        go_ret
        rw [hf.out]
        exact ⟨⟨-1, rfl, by constructor; omega; intro h; cases h⟩, Hb.out⟩
    · obtain rfl : d = 0 := by omega
      have hf : Hid (j = n ↔ ends 1 l = true) := by
        show _ ↔ _
        rw [Heq.out, show ((0 : Nat) : Int) = 0 from rfl, ends_zero, decide_eq_true_iff, List.drop_eq_nil_iff, Hl.out]
        omega
      clear Heq
      go_wp2_with fail
      go_ret
      exact ⟨⟨j, rfl, by rw [← hf.out]; omega⟩, Hb.out⟩

set_option maxHeartbeats 4000000 in
set_option maxRecDepth 100000 in
theorem rright_c (kinds : List Int) (K : Option Addr) (kn kc : Nat) (l : List Nd) (L : Option Addr) (n c : Nat) (w : World) (hK : Rd w K (kcells kinds)) (hkn : kinds.length = kn) (hs : ∀ x ∈ l, x.v.s.length ≤ 1000000) (hl : l.length = n) (hL : Rd w L (ncells l)) (hn : n ≤ 1000000) (hT : Lib.Utf8Tabs 0 1 w) :
    Calls Tryd.prog 9 #[.slice K kn kc, .slice L n c] w fun e w' => e = .returned (.int .i64 (if rightN kinds l = true then 0 else 140)) ∧ Below w.heap.size w w' := by
  have hR : Hid (rightN kinds l = (decide (1 ≤ l.length ∧ l.length ≤ 40) && l.all (mayN kinds) && ends 1 l)) := rfl
  rw [hl] at hR
  have ho := Lib.hid (fun x (hx : x ∈ l) w' (hb : Below w.heap.size w w') => rone_c kinds K kn kc x w' (hK.below hb) hkn (hs x hx) (Utf8Tabs_below hT hb))
  have he := Lib.hid (fun (hm : l.all (mayN kinds) = true) (hn40 : n ≤ 1000) w' (hb : Below w.heap.size w w') => rend_c kinds l L n c w' hl (hL.below hb) hn40 (List.all_eq_true.1 hm))
  have Hl := Lib.hid hl
  have HL := Lib.hid hL
  generalize rightN kinds l = R at *
  obtain ⟨V, hV⟩ : ∃ V : Int, V = if R = true then 0 else 140 := ⟨_, rfl⟩
  rw [← hV]
  have HV := Lib.hid hV
  clear hV hK hkn hs hl hL hT
  by_cases h1 : n < 1
  · rw [decide_eq_false (by omega), Bool.false_and, Bool.false_and] at hR
    have h1I : (n : Int) < 1 := by omega
    clear he ho
    go_enter Tryd.func9, Tryd.ntmps9
    go_wp2_with fail
    go_ret
    rw [HV.out, hR.out]
    exact ⟨rfl, Below.refl _ _⟩
  · have h1I : ¬ (n : Int) < 1 := by omega
    by_cases h40 : 40 < n
    · rw [decide_eq_false (by omega), Bool.false_and, Bool.false_and] at hR
      have h40I : (40 : Int) < (n : Int) := by omega
      clear he ho
      go_enter Tryd.func9, Tryd.ntmps9
      go_wp2_with fail
      go_ret
      rw [HV.out, hR.out]
      exact ⟨rfl, Below.refl _ _⟩
    · rw [decide_eq_true (by omega), Bool.true_and] at hR
      have h40I : ¬ (40 : Int) < (n : Int) := by omega
      go_enter Tryd.func9, Tryd.ntmps9
      go_wp2_with fail
      go_loopw [5] (fun vi wr => ∃ j : Nat, vi = .int .i64 j ∧ j ≤ n ∧ Hid ((l.take j).all (mayN kinds) = true) ∧ Hid (Below w.heap.size w wr)) (fun vi _ => n - (intOf vi).toNat)
      case atStart => exact ⟨0, rfl, by omega, rfl, Below.refl _ _⟩
      case round =>
        obtain ⟨j, rfl, hj, Hall, Hb⟩ := hrel
        by_cases hjn : j < n
        · have hjI : (j : Int) < (n : Int) := by omega
          have hjI0 : (0 : Int) ≤ (j : Int) := by omega
          have hjl : j < l.length := by rw [Hl.out]; exact hjn
          have hg := List.getElem?_eq_getElem hjl
          obtain ⟨b, o, rfl, c0, c1, c2, c3, c4, c5⟩ := node_cells (HL.out.below Hb.out) hg
          have hx := ho.out l[j] (List.getElem_mem hjl) wr Hb.out
          have Htk := Lib.hid (List.take_succ_eq_append_getElem hjl)
          have Hmm := Lib.hid (List.getElem_mem hjl)
          generalize l[j] = x at *
          have hRx : mayN kinds x = true ∨ mayN kinds x = false := by cases mayN kinds x <;> simp
          obtain ⟨op, col, kids, k, nn, s⟩ := x
          unfold Nd.agg at hx
          dsimp only at c0 c1 c2 c3 c4 c5 hx
          rcases hRx with hRx | hRx
          · rw [hRx] at hx
            have Hx := Lib.hid hx
            have HR := Lib.hid hRx
            clear hx hg hjl hRx
            go_wp2_with fail
            refine Hx.out.mono ?_
            rintro e w1 ⟨rfl, hb1⟩
            have Hb1 := Lib.hid (Hb.out.trans (hb1.mono Hb.out.size))
            go_wp2_with fail
            go_roundw
            case rel => exact ⟨j + 1, by go_num, by omega, (by show _ = _; rw [Htk.out, List.all_append, Hall.out]; simp [HR.out]), Hb1⟩
            case measure => simp [intOf]; omega
          · rw [hRx] at hx
            have Hx := Lib.hid hx
            have HR : Hid (l.all (mayN kinds) = false) := by
              show _ = _
              rw [List.all_eq_false]
              exact ⟨_, Hmm.out, by rw [hRx]; simp⟩
            clear hx hg hjl hRx he
            go_wp2_with fail
            refine Hx.out.mono ?_
            rintro e w1 ⟨rfl, hb1⟩
            have Hb1 := Lib.hid (Hb.out.trans (hb1.mono Hb.out.size))
            go_wp2_with fail
            go_ret
            rw [HV.out, hR.out, HR.out]
            exact ⟨rfl, Hb1.out⟩
        · have HA : l.all (mayN kinds) = true := by
            have := Hall.out
            rw [List.take_of_length_le (by rw [Hl.out]; omega)] at this
            exact this
          have He := Lib.hid (he.out HA (by omega) wr Hb.out)
          rw [HA, Bool.true_and] at hR
          clear he HA Hall ho
          go_wp2_with fail
          refine He.out.mono ?_
          rintro e w2 ⟨⟨E, rfl, hE⟩, hb2⟩
          have Hb2 := Lib.hid (Hb.out.trans (hb2.mono Hb.out.size))
          rw [← hR.out] at hE
          clear hb2 He hR
          cases R
          · have hne : (E != (n : Int)) = true := by
              have : ¬ E = (n : Int) := fun h => by have := hE.1 h; cases this
              simpa using this
            clear hE
            go_wp2_with fail
            go_ret
            rw [HV.out]
            exact ⟨rfl, Hb2.out⟩
          · obtain rfl : E = (n : Int) := hE.2 rfl
            clear hE
            go_wp2_with fail
            go_ret
            rw [HV.out]
            exact ⟨rfl, Hb2.out⟩

/-! ### From the last node on -/
def pops (op : Int) : Nat → Int → List Int → Option (Int × List Int)
  | 0, a, st => some (a, st)
  | k + 1, a, x :: st => pops op k (joinT op a x) st
  | _ + 1, _, [] => none
def fo (r : RowM) : List Nd → Option (List Int)
  | [] => some []
  | n :: t => (fo r t).bind fun st => if n.asks then some (leafM n (colAt r n.col) :: st) else (pops n.op n.parts.toNat (firstT n.op) st).map fun p => p.1 :: p.2
theorem evs_pops {r : RowM} {g : List Nd → Option (Int × List Nd)} (hg : ∀ t x t' st', g t = some (x, t') → fo r t' = some st' → fo r t = some (x :: st')) (op : Int) :
    ∀ (k : Nat) (a : Int) (t : List Nd) (x : Int) (t' : List Nd) (st' : List Int), evs g op k a t = some (x, t') → fo r t' = some st' → ∃ st, fo r t = some st ∧ pops op k a st = some (x, st')
  | 0, a, t, x, t', st', h, hf => by
    rw [evs] at h
    cases h
    exact ⟨st', hf, rfl⟩
  | k + 1, a, t, x, t', st', h, hf => by
    rw [evs] at h
    split at h
    · cases h
    · rename_i y t1 hy
      obtain ⟨st1, h1, h2⟩ := evs_pops hg op k _ t1 x t' st' h hf
      exact ⟨y :: st1, hg _ _ _ _ hy h1, h2⟩
theorem ev_fo (r : RowM) : ∀ (f : Nat) (t : List Nd) (x : Int) (t' : List Nd) (st' : List Int), ev r f t = some (x, t') → fo r t' = some st' → fo r t = some (x :: st')
  | 0, t, x, t', st', h, _ => by rw [ev] at h; cases h
  | f + 1, [], x, t', st', h, _ => by rw [ev] at h; cases h
  | f + 1, n :: t, x, t', st', h, hf => by
    rw [ev] at h
    rw [fo]
    split at h
    · rename_i ha
      cases h
      rw [hf, Option.bind_some, if_pos ha]
    · rename_i ha
      obtain ⟨st, h1, h2⟩ := evs_pops (fun t x t' st' => ev_fo r f t x t' st') _ _ _ _ _ _ _ h hf
      rw [h1, Option.bind_some, if_neg ha, h2]
      rfl
theorem fo_drop (r : RowM) : ∀ (l : List Nd) (j : Nat), (fo r l).isSome = true → (fo r (l.drop j)).isSome = true
  | l, 0, h => h
  | [], j + 1, h => h
  | n :: t, j + 1, h => by
    rw [List.drop_succ_cons]
    refine fo_drop r t j ?_
    rw [fo] at h
    cases hf : fo r t with
    | none => rw [hf] at h; cases h
    | some st => rfl
theorem right_fo {kinds : List Int} {l : List Nd} {r : RowM} (hr : r.length = kinds.length) (h : rightN kinds l = true) : fo r l = some [evalM l r] := by
  have wl := right_whole h
  rw [← hr] at wl
  obtain ⟨x, hx⟩ := whole_ev r wl
  rw [evalM_of wl hx]
  exact ev_fo r _ _ _ _ _ hx rfl
end Go.Proofs.YtipnglidepfkbaaDoor
namespace Go.Proofs.YtipnglidepfkbaaDoor
set_option linter.unusedVariables false
set_option linter.unusedSimpArgs false
open Go.RowKit

def icl (l : List Int) : List Value := l.map (Value.int .i64)
theorem icl_len (l : List Int) : (icl l).length = l.length := List.length_map _
theorem icl_append (l m : List Int) : icl (l ++ m) = icl l ++ icl m := List.map_append
theorem icl_one (l : List Int) : ∀ u ∈ icl l, u.oneCell' = true := by
  intro u hu
  obtain ⟨x, _, rfl⟩ := List.mem_map.1 hu
  rfl
theorem icl_get {l : List Int} {j : Nat} (h : j < l.length) : (icl l)[j]? = some (.int .i64 l[j]) := by
  unfold icl
  rw [List.getElem?_map, List.getElem?_eq_getElem h]
  rfl
theorem Eint' : ElemT Tryd.prog 40 3 1 8 (.int .i64 0) := ElemT.mk' (by kernel_rfl) (by kernel_rfl) rfl (by omega)
theorem icl_snoc (l : List Int) (x : Int) : icl (l ++ [x]) = icl l ++ [.int .i64 x] := icl_append l [x]
theorem Own.shrink {w : World} {base : Nat} {e : TypeId} {A : Option Addr} {n c : Nat} {xs : List Value} (h : Own w base e 1 A n c xs) {m : Nat} (hm : m ≤ n) (hA : A ≠ none) : Own w base e 1 A m c (xs.take m) := by
  have hl := h.1
  refine ⟨by rw [List.length_take, hl]; omega, ?_⟩
  rcases h.2 with ⟨hv, h0⟩ | ⟨g, cap, cur, hv, hg, hh, hnc, hcm, hcs, ht⟩
  · injection hv with h1 h2 h3
    exact absurd h1 hA
  · injection hv with h1 h2 h3
    subst h1; subst h3
    refine .inr ⟨g, c, cur, rfl, hg, hh, by omega, hcm, hcs, ?_⟩
    rw [← ht, List.take_take, Nat.mul_one, Nat.mul_one, Nat.min_eq_left hm]
end Go.Proofs.YtipnglidepfkbaaDoor
