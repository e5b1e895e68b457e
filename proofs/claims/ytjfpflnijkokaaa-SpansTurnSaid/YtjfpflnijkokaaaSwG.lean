/- The walk of the reference's Set: of each place whether it is in spans. -/
import Derived.Test.YtjfpflnijkokaaaSwD
namespace Go.Proofs.Ytjfpflnijkokaaa
open Go.RowKit

attribute [local go_sem ↓] Go.wp_at_zero Go.wp_at_succ

/-- Of each place whether it is in a set. -/
def setL (f : Nat → Bool) : List Bool := (List.range 4096).map f
theorem setL_len (f : Nat → Bool) : (setL f).length = 4096 := by unfold setL; rw [List.length_map, List.length_range]
theorem setL_congr {f g : Nat → Bool} (h : ∀ t, t < 4096 → f t = g t) : setL f = setL g := by
  unfold setL
  exact List.map_congr_left fun t ht => h t (List.mem_range.1 ht)
theorem setL_get (f : Nat → Bool) {k : Nat} (hk : k < 4096) : (setL f)[k]? = some (f k) := by
  unfold setL
  rw [List.getElem?_map, List.getElem?_range hk]
  rfl
theorem setL_set (f : Nat → Bool) {k : Nat} (hk : k < 4096) : (setL f).set k true = setL (fun t => f t || decide (t = k)) := by
  apply List.ext_getElem?
  intro i
  rw [List.getElem?_set]
  by_cases hi : i < 4096
  · rw [setL_get _ hi, setL_get _ hi]
    by_cases e : k = i
    · subst e
      rw [if_pos rfl, if_pos (by rw [setL_len]; exact hk)]
      simp
    · rw [if_neg e]
      have : decide (i = k) = false := decide_eq_false (fun h => e h.symm)
      rw [this, Bool.or_false]
  · have h1 : (setL f)[i]? = none := List.getElem?_eq_none (by rw [setL_len]; omega)
    have h2 : (setL fun t => f t || decide (t = k))[i]? = none := List.getElem?_eq_none (by rw [setL_len]; omega)
    rw [h1, h2]
    split
    · rename_i e
      omega
    · rfl
def bcl (l : List Bool) : List Value := l.map Value.bool
theorem bcl_len (l : List Bool) : (bcl l).length = l.length := List.length_map _
theorem Ebool : ElemT Try.prog 46 4 1 1 (.bool false) := ElemT.mk' (by kernel_rfl) (by kernel_rfl) rfl (by omega)
theorem bcl_set (l : List Bool) (k : Nat) (b : Bool) : (bcl l).set k (.bool b) = bcl (l.set k b) := by unfold bcl; rw [List.map_set]

def SetOK (f : Nat → Bool) (w : World) (e : Ending) (w' : World) : Prop :=
  (∃ g, e = .returned (.slice (some ⟨g, 0, none⟩) 4096 4096) ∧ Own w' w.heap.size 4 1 (some ⟨g, 0, none⟩) 4096 4096 (bcl (setL f))) ∧ Below w.heap.size w w'

theorem hasS_snoc (l : List SpanM) (s : SpanM) (k : Int) : hasS (l ++ [s]) k = (hasS l k || (decide (s.1 ≤ k) && decide (k < s.2))) := by
  unfold hasS
  rw [List.any_append]
  simp

theorem setL_setC (f g : Nat → Bool) {k : Nat} (hk : k < 4096) (h : ∀ t, t < 4096 → (f t || decide (t = k)) = g t) : (bcl (setL f)).set k (.bool true) = bcl (setL g) := by
  rw [bcl_set, setL_set f hk, setL_congr h]
/-- A place more is set. -/
theorem bset {w : World} {base g : Nat} {f h : Nat → Bool} (ho : Own w base 4 1 (some ⟨g, 0, none⟩) 4096 4096 (bcl (setL f))) {k : Nat} (hk : k < 4096) (hh : ∀ t, t < 4096 → (f t || decide (t = k)) = h t) :
    Own (w.setCell ⟨g, k, none⟩ (.bool true)) base 4 1 (some ⟨g, 0, none⟩) 4096 4096 (bcl (setL h)) ∧ w.grownBy (w.setCell ⟨g, k, none⟩ (.bool true)) (some g) ∧ w.frozen? ⟨g, k, none⟩ = false := by
  have h1 := ho.put (i := k) (by omega) (.bool true)
  rw [setL_setC f h hk hh] at h1
  exact h1
theorem bset_cell {w : World} {base g : Nat} {f : Nat → Bool} (ho : Own w base 4 1 (some ⟨g, 0, none⟩) 4096 4096 (bcl (setL f))) {k : Nat} (hk : k < 4096) : w.cell? ⟨g, k, none⟩ = some (.bool (f k)) := by
  obtain ⟨b, o, e, hr⟩ := ho.rd (by intro e; have := congrArg List.length e; rw [bcl_len, setL_len, List.length_nil] at this; omega)
  cases e
  have := hr k (.bool (f k)) (by unfold bcl; rw [List.getElem?_map, setL_get f hk]; rfl)
  rwa [Nat.zero_add] at this
theorem make_set : (madeCells (Value.cells (.bool false)) (4096 * 1)).toList = bcl (setL fun _ => false) := by
  rw [show (Value.cells (.bool false)) = #[.bool false] from rfl, toList_madeCells_one]
  unfold bcl setL
  rw [List.map_map]
  show _ = List.map (fun _ => Value.bool false) (List.range 4096)
  rw [List.map_const', List.length_range]

set_option maxHeartbeats 16000000 in
set_option maxRecDepth 100000 in
theorem rset_any (l : List SpanM) (n c : Nat) (A : Option Addr) (w : World) (hl : l.length = n) (hr : Rd w A (spc l)) (hn : n ≤ 5000) :
    Calls Try.prog 29 #[.slice A n c] w fun e w' => SetOK (fun t => rightS l && onS l t) w e w' := by
  have hri := Lib.hid (fun w' (h : Below w.heap.size w w') => srright_any l n c A w' hl (hr.below h) (by omega))
  have Hl := Lib.hid hl
  have Hr := Lib.hid hr
  have Hgood := Lib.hid (fun (h : rightS l = true) => ((rightS_spec l).1 h))
  cases hR : rightS l
  · change Calls _ _ _ _ (fun e w' => SetOK (fun _ => false) w e w')
    have hn0 : Hid (n = 0 → False) := fun h => by
      have : l = [] := List.eq_nil_of_length_eq_zero (by omega)
      rw [this] at hR
      exact absurd hR (by decide)
    rw [hR] at hri
    clear hl hr hR Hgood
    go_enter Try.func29, Try.ntmps29
    go_wp2_with (first | (at_builtin; refine hold ?_) | (at_make; refine hold ?_))
    (with_reducible refine unhold ?_)
    refine wpList_mkn rfl _ _ _ rfl Ebool w.heap.size _ _ _ _ 4096 rfl rfl rfl rfl (by omega) (by unfold maxLen; omega) (Nat.le_refl _) ?_
    intro w1 ho1 hb1 _
    rw [make_set] at ho1
    have Ho1 := Lib.hid ho1
    have Hb1 := Lib.hid hb1
    clear ho1 hb1
    go_wp2_with fail
    go_loopw [4] (fun vi wr => vi = .int .i64 0 ∧ wr = w1) (fun _ _ => 0)
    case atStart => exact ⟨rfl, rfl⟩
    case round =>
      obtain ⟨rfl, rfl⟩ := hrel
      by_cases hz : 0 < n
      · have hzI : (0 : Int) < (n : Int) := by omega
        go_wp2_with fail
        refine (hri.out _ Hb1.out).mono ?_
        rintro e w2 ⟨rfl, q, rfl⟩
        go_wp2_with fail
        go_ret
        exact ⟨⟨_, rfl, Ho1.out⟩, below_drewN' Hb1.out q⟩
      · exact (hn0.out (by omega)).elim
  · change Calls _ _ _ _ (fun e w' => SetOK (fun t => hasS l (t : Int)) w e w')
    have hgood := Hgood.out hR
    have Hgd := Lib.hid hgood
    rw [hR] at hri
    clear hl hr hR Hgood hgood
    go_enter Try.func29, Try.ntmps29
    go_wp2_with (first | (at_builtin; refine hold ?_) | (at_make; refine hold ?_))
    (with_reducible refine unhold ?_)
    refine wpList_mkn rfl _ _ _ rfl Ebool w.heap.size _ _ _ _ 4096 rfl rfl rfl rfl (by omega) (by unfold maxLen; omega) (Nat.le_refl _) ?_
    intro w1 ho1 hb1 _
    rw [make_set] at ho1
    have Ho1 := Lib.hid ho1
    have Hb1 := Lib.hid hb1
    clear ho1 hb1
    go_wp2_with fail
    go_loopw [4] (fun vi wr => ∃ (j : Nat), vi = .int .i64 (j : Int) ∧ j ≤ n ∧ Hid (Own wr w.heap.size 4 1 (some ⟨w.heap.size, 0, none⟩) 4096 4096 (bcl (setL fun t => hasS (l.take j) (t : Int)))) ∧ Hid (Below w.heap.size w wr)) (fun vi _ => n - (intOf vi).toNat)
    case atStart => exact ⟨0, rfl, by omega, Ho1.out, Hb1.out⟩
    case round =>
      obtain ⟨j, rfl, hj, Ho, Hb⟩ := hrel
      by_cases hjn : j < n
      · have hjl : j < l.length := by rw [Hl.out]; exact hjn
        have hjI : (j : Int) < (n : Int) := by omega
        have hj0 : (0 : Int) ≤ (j : Int) := by omega
        have hok := Hgd.out.2 _ (List.getElem_mem hjl)
        have hlt := Hgd.out.1.1 _ (List.getElem_mem hjl)
        have Hcell : Hid (∀ w', Below w.heap.size w w' → ∃ bk o, A = some ⟨bk, o, none⟩ ∧ w'.cell? ⟨bk, o + j * 2, none⟩ = some (.int .i64 l[j].1) ∧ w'.cell? ⟨bk, o + j * 2 + 1, none⟩ = some (.int .i64 l[j].2)) := fun w' h => (Hr.out.below h).span hjl
        have Htk : Hid (∀ k : Int, hasS (l.take (j + 1)) k = (hasS (l.take j) k || (decide (l[j].1 ≤ k) && decide (k < l[j].2)))) := fun k => by
          rw [List.take_succ_eq_append_getElem hjl, hasS_snoc]
        generalize l[j] = s at *
        obtain ⟨a, b⟩ := s
        dsimp only at hok hlt Hcell Htk
        obtain ⟨hok1, hok2⟩ := hok
        obtain ⟨a', rfl⟩ : ∃ a' : Nat, a = (a' : Int) := ⟨a.toNat, by omega⟩
        obtain ⟨D, rfl⟩ : ∃ D : Nat, b = ((a' + D : Nat) : Int) := ⟨(b - a').toNat, by omega⟩
        have hD : a' + D ≤ 4096 := by omega
        clear hlt hok1 hok2 hjl
        go_wp2_with fail
        refine (hri.out _ Hb.out).mono ?_
        rintro e w2 ⟨rfl, q, rfl⟩
        have Hb2 : Hid (Below w.heap.size w (wr.drewN q)) := below_drewN' Hb.out q
        have Ho2 : Hid (Own (wr.drewN q) w.heap.size 4 1 (some ⟨w.heap.size, 0, none⟩) 4096 4096 (bcl (setL fun t => hasS (l.take j) (t : Int)))) := Ho.out
        clear Ho Hb
        obtain ⟨w2, hw2⟩ : ∃ w2, wr.drewN q = w2 := ⟨_, rfl⟩
        rw [hw2] at Ho2 Hb2 ⊢
        clear hw2
        obtain ⟨bk, o, hA, c0, _⟩ := Hcell.out _ Hb2.out
        subst hA
        have Hc2 : Hid (∀ w', Below w.heap.size w w' → w'.cell? ⟨bk, o + j * 2 + 1, none⟩ = some (.int .i64 ((a' + D : Nat) : Int))) := fun w' h => by
          obtain ⟨b', o', e, _, h1⟩ := Hcell.out w' h
          cases e
          exact h1
        clear Hcell Hr hri
        go_wp2_with fail
        go_loopw [5] (fun vk wr => ∃ (i : Nat), vk = .int .i64 ((a' + i : Nat) : Int) ∧ i ≤ D ∧ Hid (Own wr w.heap.size 4 1 (some ⟨w.heap.size, 0, none⟩) 4096 4096 (bcl (setL fun t => hasS (l.take j) (t : Int) || (decide (a' ≤ t) && decide (t < a' + i))))) ∧ Hid (Below w.heap.size w wr)) (fun vk _ => a' + D - (intOf vk).toNat)
        case atStart =>
          refine ⟨0, rfl, by omega, ?_, Hb2.out⟩
          have : setL (fun t => hasS (l.take j) (t : Int) || (decide (a' ≤ t) && decide (t < a' + 0))) = setL fun t => hasS (l.take j) (t : Int) := setL_congr fun t _ => by
            by_cases h : a' ≤ t
            · rw [decide_eq_false (show ¬ t < a' + 0 by omega)]
              simp
            · rw [decide_eq_false h]
              simp
          show Own _ _ _ _ _ _ _ _
          rw [this]
          exact Ho2.out
        case round =>
          obtain ⟨i, rfl, hi, Hoi, Hbi⟩ := hrel
          have c1 := Hc2.out _ Hbi.out
          by_cases hiD : i < D
          · have hiI : ((a' + i : Nat) : Int) < ((a' + D : Nat) : Int) := by omega
            have hk0 : (0 : Int) ≤ ((a' + i : Nat) : Int) := by omega
            have hk1 : ((a' + i : Nat) : Int) < 4096 := by omega
            have hset := bset (h := fun t => hasS (l.take j) (t : Int) || (decide (a' ≤ t) && decide (t < a' + (i + 1)))) Hoi.out (k := a' + i) (by omega) (fun t _ => by
              rw [Bool.or_assoc]
              congr 1
              by_cases h1 : t = a' + i
              · subst h1
                simp
              · rw [decide_eq_false h1, Bool.or_false]
                congr 1
                exact decide_eq_decide.2 (by omega))
            have hfr := hset.2.2
            obtain ⟨old, hold⟩ : ∃ old, wr.cell? ⟨w.heap.size, a' + i, none⟩ = some (.bool old) := ⟨_, bset_cell Hoi.out (k := a' + i) (by omega)⟩
            have Hset := Lib.hid (fun d => (show Own ((wr.drewN d).setCell ⟨w.heap.size, a' + i, none⟩ (.bool true)) _ _ _ _ _ _ _ from hset.1))
            have Hbs := Lib.hid (fun d => (show Below w.heap.size w ((wr.drewN d).setCell ⟨w.heap.size, a' + i, none⟩ (.bool true)) from (below_drewN' Hbi.out d).setCell (p := ⟨w.heap.size, a' + i, none⟩) (Nat.le_refl _) _))
            have hset0 := Lib.hid (show Own (wr.setCell ⟨w.heap.size, a' + i, none⟩ (.bool true)) _ _ _ _ _ _ _ from hset.1)
            have hbs0 := Lib.hid (show Below w.heap.size w (wr.setCell ⟨w.heap.size, a' + i, none⟩ (.bool true)) from Hbi.out.setCell (p := ⟨w.heap.size, a' + i, none⟩) (Nat.le_refl _) _)
            clear hset Hoi Hbi
            generalize hk : a' + i = k at *
            go_wp2_with fail
            go_roundw
            case rel => exact ⟨i + 1, by go_num, by omega, hset0, hbs0⟩
            case measure => simp only [intOf, Int.toNat_natCast]; omega
          · obtain rfl : i = D := by omega
            have Ho9 : Hid (Own wr w.heap.size 4 1 (some ⟨w.heap.size, 0, none⟩) 4096 4096 (bcl (setL fun t => hasS (l.take (j + 1)) (t : Int)))) := by
              show Own _ _ _ _ _ _ _ _
              have : setL (fun t => hasS (l.take (j + 1)) (t : Int)) = setL fun t => hasS (l.take j) (t : Int) || (decide (a' ≤ t) && decide (t < a' + i)) := setL_congr fun t _ => by
                rw [Htk.out]
                congr 2
                · exact decide_eq_decide.2 (by omega)
                · exact decide_eq_decide.2 (by omega)
              rw [this]
              exact Hoi.out
            clear Hoi
            go_wp2_with fail
            go_roundw
            case rel => exact ⟨j + 1, by go_num, by omega, Ho9, Hbi⟩
            case measure => simp only [intOf, Int.toNat_natCast]; omega
      · obtain rfl : j = n := by omega
        have Ho9 : Hid (Own wr w.heap.size 4 1 (some ⟨w.heap.size, 0, none⟩) 4096 4096 (bcl (setL fun t => hasS l (t : Int)))) := by
          show Own _ _ _ _ _ _ _ _
          have h9 := Ho.out
          rw [List.take_of_length_le (by rw [Hl.out]; exact Nat.le_refl _)] at h9
          exact h9
        clear Ho
        go_wp2_with fail
        go_ret
        exact ⟨⟨_, rfl, Ho9.out⟩, Hb.out⟩
end Go.Proofs.Ytjfpflnijkokaaa
