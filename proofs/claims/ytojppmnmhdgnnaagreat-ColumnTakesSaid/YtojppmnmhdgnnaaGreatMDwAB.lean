/- Walks: lists of texts; Go's library on them (Less, BinarySearch, Search, ContainsFunc). Walks: whether words may be, and where a text stands among them: the program's. -/
import Derived.Test.YtojppmnmhdgnnaaGreatMDiQF
import Derived.Test.YtojppmnmhdgnnaaGreatMStRd
import Derived.Test.YtojppmnmhdgnnaaGreatMBaCr
import Derived.Sort.Walk0
import Derived.Shelf.Abstract
import Derived.Laws.Cover1
import Derived.Deep.QuietTactic
import Derived.BigQuiet
import Derived.Test.YtojppmnmhdgnnaaGreatMShelf
namespace Go.Proofs.YtojppmnmhdgnnaaGreat
set_option linter.unusedVariables false
set_option linter.unusedSimpArgs false
open Go.RowKit

attribute [local go_sem ↓] Go.wp_at_zero Go.wp_at_succ

def wcl (l : List (List UInt8)) : List Value := l.map fun x => .string (St8 x)
theorem wcl_len (l : List (List UInt8)) : (wcl l).length = l.length := List.length_map _
theorem wcl_get {l : List (List UInt8)} {j : Nat} (h : j < l.length) : (wcl l)[j]? = some (.string (St8 l[j])) := by
  unfold wcl
  rw [List.getElem?_map, List.getElem?_eq_getElem h]
  rfl
theorem wcl_append (l m : List (List UInt8)) : wcl (l ++ m) = wcl l ++ wcl m := List.map_append
theorem wcl_one (l : List (List UInt8)) : ∀ u ∈ wcl l, u.oneCell' = true := by
  intro u hu
  obtain ⟨x, _, rfl⟩ := List.mem_map.1 hu
  rfl
theorem Estr : ElemT Tryz.prog 27 9 1 16 (.string ⟨#[]⟩) := ElemT.mk' (by kernel_rfl) (by kernel_rfl) rfl (by omega)
theorem Rd.word {w : World} {A : Option Addr} {l : List (List UInt8)} (h : Rd w A (wcl l)) {j : Nat} (hj : j < l.length) : ∃ b o, A = some ⟨b, o, none⟩ ∧ w.cell? ⟨b, o + j, none⟩ = some (.string (St8 l[j])) := by
  obtain ⟨b, o, e, _, _, c⟩ := h.get (k := j) (by rw [wcl_len]; exact hj)
  refine ⟨b, o, e, ?_⟩
  rw [c]
  unfold wcl
  rw [List.getElem_map]
theorem less_St8 (a b : List UInt8) : Op.bytesLess (St8 a).toList (St8 b).toList = decide (a < b) := by rw [St8_list, St8_list, bytesLess_eq]

theorem cnan_any (s : ByteArray) (w : World) : Calls Tryz.prog 122 #[.string s] w fun e w' => e = .returned (.bool false) ∧ w = w' := by
  have hn : (s.toList == s.toList) = true := by simp
  go_enter Tryz.func122, Tryz.ntmps122
  go_wp2_with fail
  go_ret
  exact ⟨rfl, rfl⟩
theorem snan_any (s : ByteArray) (w : World) : Calls Tryz.prog 112 #[.string s] w fun e w' => e = .returned (.bool false) ∧ w = w' := by
  have hn : (s.toList == s.toList) = true := by simp
  go_enter Tryz.func112, Tryz.ntmps112
  go_wp2_with fail
  go_ret
  exact ⟨rfl, rfl⟩
theorem less_any (a b : List UInt8) (w : World) : Calls Tryz.prog 111 #[.string (St8 a), .string (St8 b)] w fun e w' => e = .returned (.bool (decide (a < b))) ∧ w = w' := by
  have hl := less_St8 a b
  generalize decide (a < b) = R at *
  go_enter Tryz.func111, Tryz.ntmps111
  go_wp2_with fail
  refine (cnan_any _ _).mono ?_
  rintro e w1 ⟨rfl, rfl⟩
  go_wp2_with fail
  go_ret
  exact ⟨rfl, rfl⟩
theorem long_any (s : List UInt8) (w : World) : Calls Tryz.prog 81 #[.string (St8 s)] w fun e w' => e = .returned (.bool (decide (1024 < s.length))) ∧ w' = w := by
  have hs := St8_size s
  have hd : decide ((1024 : Int) < (s.length : Int)) = decide (1024 < s.length) := by
    by_cases h : 1024 < s.length
    · rw [decide_eq_true h, decide_eq_true (by omega)]
    · rw [decide_eq_false h, decide_eq_false (by omega)]
  have Hd := Lib.hid hd
  clear hd
  go_enter Tryz.func81, Tryz.ntmps81
  go_wp2_with fail
  go_ret
  rw [← Hd.out]
  exact ⟨rfl, rfl⟩
set_option maxRecDepth 100000 in
theorem lindex_any (l : List (List UInt8)) (n c : Nat) (A : Option Addr) (w : World) (hl : l.length = n) (hr : Rd w A (wcl l)) (hn : n ≤ 1000000) :
    Calls Tryz.prog 108 #[.slice A n c, .func (.func 81) #[] #[]] w fun e w' => (∃ i : Int, e = .returned (.int .i64 i) ∧ (decide (0 ≤ i) = longs l) ∧ i ≤ 1000000) ∧ w = w' := by
  have eg : ∀ args w, (callFunc 81 args).run Tryz.prog w = .ok (.enter 81 args) w := Go.Proofs.enters_of Tryz.func81 (by kernel_rfl) rfl
  have Hl := Lib.hid hl
  clear hl
  go_enter Tryz.func108, Tryz.ntmps108
  go_wp2_with fail
  go_loop [8] (fun i => ∃ j : Nat, j ≤ n ∧ i = .int .i64 j ∧ Hid (∀ x ∈ l.take j, ¬ 1024 < x.length)) (fun i => n - (intOf i).toNat)
  case atStart => exact ⟨0, by omega, rfl, fun v h => by simp at h⟩
  case round =>
    obtain ⟨j, hj, rfl, hall⟩ := hrel
    by_cases hlt : j < n
    · have hjl : j < l.length := by rw [Hl.out]; exact hlt
      obtain ⟨b, o, rfl, c0⟩ := hr.word hjl
      have htk := Lib.hid (List.take_succ_eq_append_getElem (l := l) (i := j) hjl)
      have hmem := Lib.hid (List.getElem_mem hjl)
      generalize l[j] = v at *
      have hri := long_any v w
      clear hr hjl
      by_cases hv : 1024 < v.length
      · rw [decide_eq_true hv] at hri
        have hf : Hid (longs l = true) := by
          show _ = _
          exact List.any_eq_true.2 ⟨v, hmem.out, decide_eq_true hv⟩
        have Hri := Lib.hid hri
        clear hri hv
        go_wp2_with fail
        refine Hri.out.mono ?_
        rintro e w2 ⟨rfl, rfl⟩
        go_wp2_with fail
        go_ret
        rw [hf.out]
        exact ⟨⟨_, rfl, by simp, by omega⟩, rfl⟩
      · rw [decide_eq_false hv] at hri
        have Hri := Lib.hid hri
        have Hv := Lib.hid hv
        clear hri hv
        go_wp2_with fail
        refine Hri.out.mono ?_
        rintro e w2 ⟨rfl, rfl⟩
        go_wp2_with fail
        go_round
        case rel =>
          refine ⟨j + 1, by omega, by go_num, fun u hu => ?_⟩
          rw [htk.out] at hu
          rcases List.mem_append.1 hu with hu | hu
          · exact hall.out u hu
          · rw [List.mem_singleton.1 hu]; exact Hv.out
        case measure => simp [intOf]; omega
    · obtain rfl : j = n := by omega
      have hf : Hid (longs l = false) := by
        show _ = _
        refine List.any_eq_false.2 fun u hu => ?_
        rw [decide_eq_true_eq]
        refine hall.out u ?_
        rw [List.take_of_length_le (by rw [Hl.out]; exact Nat.le_refl _)]
        exact hu
      go_wp2_with fail
      go_ret
      rw [hf.out]
      exact ⟨⟨_, rfl, by simp, by omega⟩, rfl⟩
theorem longs_any (l : List (List UInt8)) (n c : Nat) (A : Option Addr) (w : World) (hl : l.length = n) (hr : Rd w A (wcl l)) (hn : n ≤ 1000000) :
    Calls Tryz.prog 102 #[.slice A n c, .func (.func 81) #[] #[]] w fun e w' => e = .returned (.bool (longs l)) ∧ w = w' := by
  have hi := Lib.hid (lindex_any l n c A w hl hr hn)
  generalize longs l = R at *
  clear hl hr
  go_enter Tryz.func102, Tryz.ntmps102
  go_wp2_with fail
  refine hi.out.mono ?_
  rintro e w1 ⟨⟨i, rfl, hd, hi6⟩, rfl⟩
  go_wp2_with fail
  go_ret
  exact ⟨rfl, rfl⟩

set_option maxHeartbeats 4000000 in
set_option maxRecDepth 100000 in
/-- Behind slices.BinarySearch, among words in order. -/
theorem bsearch_any (l : List (List UInt8)) (s : List UInt8) (n c : Nat) (A : Option Addr) (w : World) (hl : l.length = n) (hr : Rd w A (wcl l)) (hn : n ≤ 1000000) (hs : l.Pairwise (· < ·)) :
    Calls Tryz.prog 106 #[.slice A n c, .string (St8 s)] w fun e w' => e = .returned (.tuple #[.int .i64 (wahd s l : Nat), .bool (decide (l[wahd s l]? = some s))]) ∧ w = w' := by
  have Hl := Lib.hid hl
  have Hs := Lib.hid (fun (i j : Nat) (hij : i < j) (hj : j < l.length) => List.pairwise_iff_getElem.1 hs i j (Nat.lt_trans hij hj) hj hij)
  obtain ⟨K, hK⟩ : ∃ K, wahd s l = K := ⟨_, rfl⟩
  obtain ⟨D, hD⟩ : ∃ D, decide (l[K]? = some s) = D := ⟨_, rfl⟩
  rw [hK, hD]
  have HK := Lib.hid hK
  have HD := Lib.hid hD
  clear hl hs hK hD
  go_enter Tryz.func106, Tryz.ntmps106
  go_wp2_with fail
  go_loop [7, 8] (fun vl vh => ∃ lo hi : Nat, vl = .int .i64 lo ∧ vh = .int .i64 hi ∧ lo ≤ hi ∧ hi ≤ n ∧ Hid (∀ i x, i < lo → l[i]? = some x → x < s) ∧ Hid (∀ i x, hi ≤ i → l[i]? = some x → ¬ x < s)) (fun vl vh => (intOf vh).toNat - (intOf vl).toNat)
  case atStart => exact ⟨0, n, rfl, rfl, by omega, by omega, fun i x h => by omega, fun i x h hx => by have := (List.getElem?_eq_some_iff.1 hx).1; have := Hl.out; omega⟩
  case round =>
    obtain ⟨lo, hi, rfl, rfl, hlh, hhn, Hlo, Hhi⟩ := hrel
    by_cases hlt : lo < hi
    · obtain ⟨m, hmI, hm1, hm2⟩ : ∃ m : Nat, ((lo : Int) + (hi : Int)) / 2 = (m : Int) ∧ lo ≤ m ∧ m < hi := ⟨(lo + hi) / 2, by omega, by omega, by omega⟩
      have hml : m < l.length := by rw [Hl.out]; omega
      obtain ⟨b, o, rfl, c0⟩ := hr.word hml
      have hmg := List.getElem?_eq_getElem hml
      have Hup : Hid (∀ i x, i < m + 1 → l[i]? = some x → x ≤ l[m]) := fun i x hi hx => by
        obtain ⟨hil, rfl⟩ := List.getElem?_eq_some_iff.1 hx
        by_cases e : i = m
        · subst e; exact List.le_refl _
        · exact List.le_of_lt (Hs.out i m (by omega) hml)
      have Hdn : Hid (∀ i x, m ≤ i → l[i]? = some x → l[m] ≤ x) := fun i x hi hx => by
        obtain ⟨hil, rfl⟩ := List.getElem?_eq_some_iff.1 hx
        by_cases e : i = m
        · subst e; exact List.le_refl _
        · exact List.le_of_lt (Hs.out m i (by omega) hil)
      have hm0 : (0 : Int) ≤ (m : Int) := by omega
      have hmn : (m : Int) < (n : Int) := by omega
      have hle := Lib.hid (less_any l[m] s w)
      generalize l[m] = v at *
      clear hr hml hmg
      by_cases hv : v < s
      · rw [decide_eq_true hv] at hle
        have Hlo2 : Hid (∀ i x, i < m + 1 → l[i]? = some x → x < s) := fun i x hi hx => List.lt_of_le_of_lt (Hup.out i x hi hx) hv
        clear hv Hup Hdn
        go_wp2_with fail
        refine hle.out.mono ?_
        rintro e w2 ⟨rfl, rfl⟩
        go_wp2_with fail
        go_round
        case rel => exact ⟨m + 1, hi, by go_num, rfl, by omega, hhn, Hlo2, Hhi⟩
        case measure => simp only [intOf, Int.toNat_natCast]; omega
      · rw [decide_eq_false hv] at hle
        have Hhi2 : Hid (∀ i x, m ≤ i → l[i]? = some x → ¬ x < s) := fun i x hi hx h => hv (List.lt_of_le_of_lt (Hdn.out i x hi hx) h)
        clear hv Hup Hdn
        go_wp2_with fail
        refine hle.out.mono ?_
        rintro e w2 ⟨rfl, rfl⟩
        go_wp2_with fail
        go_round
        case rel => exact ⟨lo, m, rfl, rfl, by omega, by omega, Hlo, Hhi2⟩
        case measure => simp only [intOf, Int.toNat_natCast]; omega
    · obtain rfl : lo = hi := by omega
      have hk : Hid (wahd s l = lo) := wahd_at s l lo (by rw [Hl.out]; exact hhn) Hlo.out (fun x hx => Hhi.out lo x (by omega) hx)
      have HKl : Hid (K = lo) := HK.out.symm.trans hk.out
      by_cases hin : lo < n
      · have hml : lo < l.length := by rw [Hl.out]; exact hin
        obtain ⟨b, o, rfl, c0⟩ := hr.word hml
        have hmg := List.getElem?_eq_getElem hml
        have HDl : Hid (decide (some l[lo] = some s) = D) := by
          show _ = _
          rw [← HD.out, HKl.out, hmg]
        have hinI : (lo : Int) < (n : Int) := by omega
        have hin0 : (0 : Int) ≤ (lo : Int) := by omega
        generalize l[lo] = v at *
        have hc := St8_cmp v s
        clear hr hml hmg
        by_cases hv : v = s
        · rw [decide_eq_true hv] at hc
          have hd : Hid (decide (some v = some s) = true) := decide_eq_true (by rw [hv])
          clear hv
          go_wp2_with fail
          go_ret2
          rw [HKl.out, ← HDl.out, hd.out]
          exact ⟨rfl, rfl⟩
        · rw [decide_eq_false hv] at hc
          have hd : Hid (decide (some v = some s) = false) := decide_eq_false (fun e => hv (Option.some.inj e))
          have hnn := Lib.hid (snan_any (St8 v) w)
          clear hv
          go_wp2_with fail
          refine hnn.out.mono ?_
          rintro e w2 ⟨rfl, rfl⟩
          go_wp2_with fail
          go_ret2
          rw [HKl.out, ← HDl.out, hd.out]
          exact ⟨rfl, rfl⟩
      · have hno : l[lo]? = none := List.getElem?_eq_none (by rw [Hl.out]; omega)
        have HDl : Hid (D = false) := by
          show _ = _
          rw [← HD.out, HKl.out, hno]
          rfl
        have hinI : decide ((lo : Int) < (n : Int)) = false := decide_eq_false (by omega)
        go_wp2_with fail
        go_ret2
        rw [HKl.out, HDl.out]
        exact ⟨rfl, rfl⟩
end Go.Proofs.YtojppmnmhdgnnaaGreat
namespace Go.Proofs.YtojppmnmhdgnnaaGreat
set_option linter.unusedVariables false
set_option linter.unusedSimpArgs false
open Go.RowKit

attribute [local go_sem ↓] Go.wp_at_zero Go.wp_at_succ

theorem getD_of {l : List (List UInt8)} {j : Nat} (h : j < l.length) : l.getD j [] = l[j] := by
  rw [List.getD_eq_getElem?_getD, List.getElem?_eq_getElem h]
  rfl

/-- What a search tells is how many places are still ahead. -/
theorem search_count {n k : Nat} {q : Nat → Bool} (hk : k ≤ n) (h1 : ∀ t, t < k → q t = true) (h2 : ∀ t, k ≤ t → t < n → q t = false) : (List.range n).countP q = k := by
  obtain ⟨d, rfl⟩ : ∃ d, n = k + d := ⟨n - k, by omega⟩
  rw [List.range_add, List.countP_append, List.countP_map]
  have a1 : (List.range k).countP q = k := by
    rw [List.countP_eq_length.2 (fun t ht => h1 t (List.mem_range.1 ht)), List.length_range]
  have a2 : (List.range d).countP (q ∘ fun x => k + x) = 0 := by
    refine List.countP_eq_zero.2 fun t ht => ?_
    have := List.mem_range.1 ht
    show ¬ q (k + t) = true
    rw [h2 (k + t) (by omega) (by omega)]
    decide
  omega

/-! ### The closures -/
theorem beg_prefix (x s : List UInt8) : Lib.hasPrefix x s = begW x s := by
  unfold Lib.hasPrefix begW
  by_cases h : s <+: x
  · rw [List.isPrefixOf_iff_prefix.2 h, decide_eq_true (List.prefix_iff_eq_take.1 h).symm]
  · have e : s.isPrefixOf x = false := by
      cases hh : s.isPrefixOf x with
      | false => rfl
      | true => exact absurd (List.isPrefixOf_iff_prefix.1 hh) h
    rw [e, decide_eq_false (fun e2 => h (List.prefix_iff_eq_take.2 e2.symm))]
end Go.Proofs.YtojppmnmhdgnnaaGreat
