/- Walks: the reference's letters of a text. -/
import Derived.Test.YtipnglidepfkbaaDoorAkS
import Derived.Test.YtipnglidepfkbaaDoorGlM
import Derived.Test.YtipnglidepfkbaaDoorShelf
namespace Go.Proofs.YtipnglidepfkbaaDoor
open Go.RowKit

attribute [local go_sem ↓] Go.wp_at_zero Go.wp_at_succ

theorem decodeGo_dec {l : List UInt8} (h : l ≠ []) : Lib.decodeGo (St8 l) = dec l := by
  have h0 : ¬ (St8 l).size = 0 := by
    rw [St8_size]
    intro e
    exact h (List.eq_nil_of_length_eq_zero e)
  simp only [Lib.decodeGo, h0, if_false]
  rw [dec_at, List.drop_zero]

set_option maxHeartbeats 4000000 in
set_option maxRecDepth 100000 in
theorem rletters_any (s : List UInt8) (w : World) (hs : s.length ≤ 1000000) (hT : Lib.Utf8Tabs 0 1 w) :
    Calls Tryd.prog 84 #[.string (St8 s)] w fun e w' => ∃ A c, e = .returned (.slice A (letters s).length c) ∧ Own w' w.heap.size 9 1 A (letters s).length c (scells (letters s)) ∧ Below w.heap.size w w' := by
  go_enter Tryd.func84, Tryd.ntmps84
  go_wp2_with fail
  go_loopw [0, 3] (fun vs vl wr => ∃ (p n c : Nat) (A : Option Addr) (pre : List (List UInt8)), vs = .string (St8 (s.drop p)) ∧ vl = .slice A n c ∧ p ≤ s.length ∧ n ≤ p ∧ Hid (pre.length = n) ∧ Hid (pre ++ letters (s.drop p) = letters s) ∧ Hid (Own wr w.heap.size 9 1 A n c (scells pre)) ∧ Hid (Below w.heap.size w wr)) (fun vs _ _ => match vs with | .string b => b.size | _ => 0)
  case atStart => exact ⟨0, 0, 0, none, [], by rw [List.drop_zero], rfl, by omega, by omega, rfl, by show _ = _; rw [List.drop_zero, List.nil_append], Own.nil _ _ _ _, Below.refl _ _⟩
  case round =>
    obtain ⟨p, n, c, A, pre, rfl, rfl, hps, hnp, Hn, Heq, Ho, Hb⟩ := hrel
    have hsz := St8_size (s.drop p)
    have hdl : (s.drop p).length = s.length - p := List.length_drop
    by_cases hp : p < s.length
    · have hne : s.drop p ≠ [] := by
        intro e
        rw [List.drop_eq_nil_iff] at e
        omega
      have hdb := dec_bounds _ hne
      have hlc := letters_cons hne
      have hcall := Tryd.utf8_DecodeRuneInString (St8 (s.drop p)) wr (Utf8Tabs_below hT Hb.out)
      rw [decodeGo_dec hne] at hcall
      have hex1 := St8_extract (s.drop p) 0 (dec (s.drop p)).2
      have hex2 := St8_extract (s.drop p) (dec (s.drop p)).2 (s.drop p).length
      rw [List.drop_zero, Nat.sub_zero] at hex1
      rw [List.take_of_length_le (by rw [List.length_drop]; exact Nat.le_refl _), List.drop_drop] at hex2
      rw [List.drop_drop] at hlc
      rw [hdl] at hdb hex2 hsz
      have Hsl := Lib.hid (St8_size (s.drop (p + (dec (s.drop p)).2)))
      generalize hD : dec (s.drop p) = D at *
      obtain ⟨dr, dw⟩ := D
      dsimp only at hcall hdb hex1 hex2 hlc Hsl
      have heq := Heq.out
      rw [hlc] at heq
      have Heq2 := Lib.hid heq
      have Hcall := Lib.hid hcall
      have Hex1 := Lib.hid hex1
      have Hex2 := Lib.hid hex2
      have hI1 : (0 : Int) < ((s.length - p : Nat) : Int) := by omega
      have hI2 : (0 : Int) ≤ (dw : Int) := by omega
      have hI3 : (dw : Int) ≤ ((s.length - p : Nat) : Int) := by omega
      have hI4 : dw ≤ s.length - p := by omega
      clear hcall hex1 hex2 heq hlc hD hne Heq hT
      go_wp2_with fail
      refine Hcall.out.mono ?_
      rintro e w1 ⟨rfl, hb1⟩
      have ho1 := Own.below Ho.out hb1
      have hb1' := Hb.out.trans (hb1.mono Hb.out.size)
      have hbW : Below w1.heap.size w1 (w1.alloc (.cells #[.string (St8 ((s.drop p).take dw))] 9)) := (Below.refl _ _).alloc (Nat.le_refl _) _
      have hnew := (Blk.new w1 9 #[.string (St8 ((s.drop p).take dw))]).range
      have ho3 := Own.below ho1 hbW
      have hb3 := hb1'.trans (hbW.mono hb1'.size)
      have hz1 := hb1'.size
      clear Ho Hb hb1
      go_wp2_with (first | (at_builtin; refine hold ?_) | (at_make; refine hold ?_))
      rw [Hex1.out]
      (with_reducible refine unhold ?_)
      refine wpList_apd rfl _ _ _ rfl Estr w.heap.size _ n _ (scells pre) rfl ho3 _ 1 _ [.string (St8 ((s.drop p).take dw))] rfl rfl (fun _ => ⟨_, _, rfl, hnew⟩) (by simp [Value.oneCell']) (n + 1) rfl _ rfl (by omega) (by omega) (by rw [World.size_alloc]; omega) ?_
      intro A5 c5 w9 ho10 hg10 _
      have Hb10 := Lib.hid (hb3.grown hg10 hb3.size ho3.row_ge)
      rw [scells_snoc] at ho10
      have Ho10 := Lib.hid ho10
      clear hbW hnew ho3 hb3 ho10 hg10 ho1 hb1'
      go_wp2_with fail
      rw [Hex2.out]
      go_roundw
      case rel => exact ⟨p + dw, n + 1, c5, A5, _, rfl, rfl, by omega, by omega, (by show _ = _; rw [List.length_append, Hn.out]; rfl), (by show _ = _; rw [List.append_assoc]; exact Heq2.out), Ho10, Hb10⟩
      case measure => show (St8 _).size < (St8 _).size; rw [Hsl.out, hsz, List.length_drop]; omega
    · obtain rfl : p = s.length := by omega
      have hfin : Hid (pre = letters s) := by
        show _ = _
        have := Heq.out
        rw [List.drop_eq_nil_of_le (Nat.le_refl _), letters_nil, List.append_nil] at this
        exact this
      rw [hdl, Nat.sub_self] at hsz
      clear hdl Heq
      go_wp2_with fail
      go_ret
      rw [← hfin.out, Hn.out]
      exact ⟨_, _, rfl, Ho.out, Hb.out⟩
end Go.Proofs.YtipnglidepfkbaaDoor
