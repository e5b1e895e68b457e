/- Walks: whether words may be, and where a text stands among them: the program's. -/
import Derived.Test.YtphoccjeakdkeaaDwA
import Derived.Test.YtphoccjeakdkeaaShelf
namespace Go.Proofs.Ytphoccjeakdkeaa
open Go.RowKit

attribute [local go_sem ↓] Go.wp_at_zero Go.wp_at_succ

theorem getD_of {l : List (List UInt8)} {j : Nat} (h : j < l.length) : l.getD j [] = l[j] := by
  rw [List.getD_eq_getElem?_getD, List.getElem?_eq_getElem h]
  rfl

set_option maxHeartbeats 4000000 in
set_option maxRecDepth 100000 in
/-- Behind sort.Search. -/
theorem search_any (g : Nat) (cb : Array Value) (n : Nat) (p : Nat → Bool) (w : World) (eg : ∀ args w, (callFunc g args).run Try.prog w = .ok (.enter g args) w) (hn : n ≤ 1000000)
    (hf : ∀ (i : Nat) (w' : World), i < n → Below w.heap.size w w' → Calls Try.prog g (#[.int .i64 i] ++ cb) w' fun e w'' => e = .returned (.bool (p i)) ∧ Below w'.heap.size w' w'')
    (hm : ∀ a b, a ≤ b → b < n → p a = true → p b = true) :
    Calls Try.prog 37 #[.int .i64 n, .func (.func g) #[] cb] w fun e w' => (∃ k : Nat, e = .returned (.int .i64 k) ∧ k ≤ n ∧ (∀ t, t < k → p t = false) ∧ (∀ t, k ≤ t → t < n → p t = true)) ∧ Below w.heap.size w w' := by
  have Hf := Lib.hid hf
  have Hm := Lib.hid hm
  clear hf hm
  go_enter Try.func37, Try.ntmps37
  go_wp2_with fail
  go_loopw [5, 6] (fun vl vh wr => ∃ lo hi : Nat, vl = .int .i64 lo ∧ vh = .int .i64 hi ∧ lo ≤ hi ∧ hi ≤ n ∧ Hid (∀ t, t < lo → p t = false) ∧ Hid (∀ t, hi ≤ t → t < n → p t = true) ∧ Hid (Below w.heap.size w wr)) (fun vl vh _ => (intOf vh).toNat - (intOf vl).toNat)
  case atStart => exact ⟨0, n, rfl, rfl, by omega, by omega, fun t h => absurd h (Nat.not_lt_zero _), fun t h hx => absurd hx (by omega), Below.refl _ _⟩
  case round =>
    obtain ⟨lo, hi, rfl, rfl, hlh, hhn, Hlo, Hhi, Hb⟩ := hrel
    by_cases hlt : lo < hi
    · obtain ⟨m, hmI, hm1, hm2⟩ : ∃ m : Nat, ((lo : Int) + (hi : Int)) / 2 = (m : Int) ∧ lo ≤ m ∧ m < hi := ⟨(lo + hi) / 2, by omega, by omega, by omega⟩
      have hc := Hf.out m wr (by omega) Hb.out
      cases hp : p m
      · rw [hp] at hc
        have Hc := Lib.hid hc
        have Hlo2 : Hid (∀ t, t < m + 1 → p t = false) := fun t ht => by
          cases h : p t with
          | false => rfl
          | true => exact absurd (Hm.out t m (by omega) (by omega) h) (by rw [hp]; decide)
        clear hc hp
        go_wp2_with fail
        refine Hc.out.mono ?_
        rintro e w2 ⟨rfl, hb2⟩
        have Hb2 := Lib.hid (Hb.out.trans (hb2.mono Hb.out.size))
        clear hb2
        go_wp2_with fail
        go_roundw
        case rel => exact ⟨m + 1, hi, by go_num, rfl, by omega, hhn, Hlo2, Hhi, Hb2⟩
        case measure => simp only [intOf, Int.toNat_natCast]; omega
      · rw [hp] at hc
        have Hc := Lib.hid hc
        have Hhi2 : Hid (∀ t, m ≤ t → t < n → p t = true) := fun t ht htn => Hm.out m t ht htn hp
        clear hc hp
        go_wp2_with fail
        refine Hc.out.mono ?_
        rintro e w2 ⟨rfl, hb2⟩
        have Hb2 := Lib.hid (Hb.out.trans (hb2.mono Hb.out.size))
        clear hb2
        go_wp2_with fail
        go_roundw
        case rel => exact ⟨lo, m, rfl, rfl, by omega, by omega, Hlo, Hhi2, Hb2⟩
        case measure => simp only [intOf, Int.toNat_natCast]; omega
    · obtain rfl : lo = hi := by omega
      go_wp2_with fail
      go_ret
      exact ⟨⟨lo, rfl, hhn, Hlo.out, Hhi.out⟩, Hb.out⟩

/-- What a search tells is how many places are still ahead. -/
theorem search_count {n k : Nat} {q : Nat → Bool} (hk : k ≤ n) (h1 : ∀ t, t < k → q t = true) (h2 : ∀ t, k ≤ t → t < n → q t = false) : (List.range n).countP q = k := by
  obtain ⟨d, rfl⟩ : ∃ d, n = k + d := ⟨n - k, by omega⟩
  rw [List.range_add, List.countP_append, List.countP_map]
  have a1 : (List.range k).countP q = k := by
    rw [List.countP_eq_length.2 (fun t ht => h1 t (List.mem_range.1 ht)), List.length_range]
  have a2 : (List.range d).countP (q ∘ fun x => k + x) = 0 := by
    refine List.countP_eq_zero.2 fun t ht => ?_
    have := List.mem_range.1 ht
    show ¬ q (k + t) = true
    rw [h2 (k + t) (by omega) (by omega)]
    decide
  omega

/-! ### The closures -/
set_option maxRecDepth 100000 in
theorem fromc_any (l : List (List UInt8)) (s : List UInt8) (n c p1 p2 i : Nat) (A : Option Addr) (w : World) (hl : l.length = n) (hr : Rd w A (wcl l)) (h1 : Blk w p1 22 [.slice A n c]) (h2 : Blk w p2 9 [.string (St8 s)]) (hi : i < n) :
    Calls Try.prog 38 #[.int .i64 (i : Nat), .pointer (some ⟨p1, 0, none⟩), .pointer (some ⟨p2, 0, none⟩)] w fun e w' => e = .returned (.bool (!decide (l.getD i [] < s))) ∧ Below w.heap.size w w' := by
  have k1 := h1.cell 0
  have k2 := h2.cell 0
  simp only [List.getElem?_cons_zero] at k1 k2
  have hil : i < l.length := by rw [hl]; exact hi
  obtain ⟨b, o, rfl, c0⟩ := hr.word hil
  rw [getD_of hil]
  have hls := less_St8 l[i] s
  have hiI : (i : Int) < (n : Int) := by omega
  have hi0 : (0 : Int) ≤ (i : Int) := by omega
  generalize decide (l[i] < s) = R at *
  generalize l[i] = x at *
  clear h1 h2 hr hl hil
  go_enter Try.func38, Try.ntmps38
  go_wp2_with fail
  go_quiet (fail)
  go_wp2_with fail
  go_ret
  exact ⟨rfl, below_drewN' (Below.refl _ _) _⟩
theorem beg_prefix (x s : List UInt8) : Lib.hasPrefix x s = begW x s := by
  unfold Lib.hasPrefix begW
  by_cases h : s <+: x
  · rw [List.isPrefixOf_iff_prefix.2 h, decide_eq_true (List.prefix_iff_eq_take.1 h).symm]
  · have e : s.isPrefixOf x = false := by
      cases hh : s.isPrefixOf x with
      | false => rfl
      | true => exact absurd (List.isPrefixOf_iff_prefix.1 hh) h
    rw [e, decide_eq_false (fun e2 => h (List.prefix_iff_eq_take.2 e2.symm))]
theorem pref_any (x s : List UInt8) (w : World) : Calls Try.prog 40 #[.string (St8 x), .string (St8 s)] w fun e w' => e = .returned (.bool (begW x s)) ∧ w' = w := by
  refine (Try.strings_HasPrefix (St8 x) (St8 s) w).mono ?_
  rintro e w' ⟨rfl, rfl⟩
  refine ⟨?_, rfl⟩
  have e1 : (St8 x).data.toList = x := by unfold St8; simp
  have e2 : (St8 s).data.toList = s := by unfold St8; simp
  rw [e1, e2, beg_prefix]
set_option maxRecDepth 100000 in
theorem behindc_any (l : List (List UInt8)) (s : List UInt8) (n c p1 p2 i : Nat) (A : Option Addr) (w : World) (hl : l.length = n) (hr : Rd w A (wcl l)) (h1 : Blk w p1 22 [.slice A n c]) (h2 : Blk w p2 9 [.string (St8 s)]) (hi : i < n) :
    Calls Try.prog 39 #[.int .i64 (i : Nat), .pointer (some ⟨p1, 0, none⟩), .pointer (some ⟨p2, 0, none⟩)] w fun e w' => e = .returned (.bool (!(decide (l.getD i [] < s) || begW (l.getD i []) s))) ∧ Below w.heap.size w w' := by
  have k1 := h1.cell 0
  have k2 := h2.cell 0
  simp only [List.getElem?_cons_zero] at k1 k2
  have hil : i < l.length := by rw [hl]; exact hi
  obtain ⟨b, o, rfl, c0⟩ := hr.word hil
  rw [getD_of hil]
  have hls := less_St8 l[i] s
  have hpf := Lib.hid (fun w' => pref_any l[i] s w')
  have hiI : (i : Int) < (n : Int) := by omega
  have hi0 : (0 : Int) ≤ (i : Int) := by omega
  generalize decide (l[i] < s) = R at *
  generalize begW l[i] s = G at *
  generalize l[i] = x at *
  clear h1 h2 hr hl hil
  cases R
  · go_enter Try.func39, Try.ntmps39
    go_wp2_with fail
    go_quiet (first | (go_at_call 40; exact Calls.quiet_of_same (hpf.out _)))
    go_wp2_with fail
    go_ret
    exact ⟨rfl, below_drewN' (Below.refl _ _) _⟩
  · go_enter Try.func39, Try.ntmps39
    go_wp2_with fail
    go_quiet (fail)
    go_wp2_with fail
    go_ret
    exact ⟨rfl, below_drewN' (Below.refl _ _) _⟩
end Go.Proofs.Ytphoccjeakdkeaa
