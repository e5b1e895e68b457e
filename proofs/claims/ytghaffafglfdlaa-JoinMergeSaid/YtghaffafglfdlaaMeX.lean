/- Walks: rows in order joined. -/
import Derived.Test.YtghaffafglfdlaaMeW
import Derived.Test.YtghaffafglfdlaaJoH
namespace Go.Proofs.Ytghaffafglfdlaa
open Go.RowKit

attribute [local go_sem ↓] Go.wp_at_zero Go.wp_at_succ

theorem merge_neg1 (A A' : Option Addr) (n c n' c' : Nat) (l r : Int) (w : World) (h : l < 0) :
    Calls Try.prog 24 #[.slice A n c, .slice A' n' c', .int .i64 l, .int .i64 r] w fun e w' => e = .returned (.tuple #[.slice none 0 0, .int .i64 1]) ∧ w = w' := by
  go_enter Try.func24, Try.ntmps24
  go_wp2_with fail
  go_ret2
  exact ⟨rfl, rfl⟩
theorem merge_neg2 (A A' : Option Addr) (n c n' c' : Nat) (l r : Int) (w : World) (h0 : ¬ l < 0) (h : r < 0) :
    Calls Try.prog 24 #[.slice A n c, .slice A' n' c', .int .i64 l, .int .i64 r] w fun e w' => e = .returned (.tuple #[.slice none 0 0, .int .i64 1]) ∧ w = w' := by
  go_enter Try.func24, Try.ntmps24
  go_wp2_with fail
  go_ret2
  exact ⟨rfl, rfl⟩
theorem merge_no (ra rb : List RowM) (ha hb : List Value) (n c n' c' : Nat) (A A' : Option Addr) (l r : Int) (w : World) (hn : ra.length = n) (hn' : rb.length = n') (hA : Rd w A ha) (hA' : Rd w A' hb) (hRa : Rows w ha ra) (hRb : Rows w hb rb) (hn1 : n ≤ 1000) (hn2 : n' ≤ 1000) (h0 : ¬ l < 0) (h1 : ¬ r < 0) (hs : inOrderB ra l = false ∨ inOrderB rb r = false) :
    Calls Try.prog 24 #[.slice A n c, .slice A' n' c', .int .i64 l, .int .i64 r] w fun e w' => e = .returned (.tuple #[.slice none 0 0, .int .i64 1]) ∧ Below w.heap.size w w' := by
  have hb1 : Below w.heap.size w (w.alloc (.cells #[.int .i64 l, .bool false] 54)) := (Below.refl _ _).alloc (Nat.le_refl _) _
  have hk := Blk.new w 54 #[.int .i64 l, .bool false]
  have hc := osorted_any ra ha n c A w.heap.size 1 l _ hn (hA.below hb1) (hRa.below hb1) (by omega) (hk.cell 0) (hk.cell 1)
  have Hb := Lib.hid (fun (w3 : World) (hb3 : Below w.heap.size w w3) => osorted_any rb hb n' c' A' w3.heap.size 1 r (w3.alloc (.cells #[.int .i64 r, .bool false] 54)) hn' ((hA'.below hb3).below ((Below.refl _ _).alloc (Nat.le_refl _) _)) ((hRb.below hb3).below ((Below.refl _ _).alloc (Nat.le_refl _) _)) (by omega) ((Blk.new w3 54 #[.int .i64 r, .bool false]).cell 0) ((Blk.new w3 54 #[.int .i64 r, .bool false]).cell 1))
  by_cases hsa : inOrderB ra l = false
  · rw [hsa] at hc
    have Hc := Lib.hid hc
    clear hc hk hs hn hn' hA hA' hRa hRb hsa Hb
    go_enter Try.func24, Try.ntmps24
    go_wp2_with fail
    refine Hc.out.mono ?_
    rintro e w3 ⟨rfl, hb3⟩
    go_wp2_with fail
    go_ret2
    exact ⟨rfl, hb1.trans (hb3.mono hb1.size)⟩
  · have hsa' : inOrderB ra l = true := by simpa using hsa
    have hsb : inOrderB rb r = false := hs.resolve_left hsa
    rw [hsa'] at hc
    rw [hsb] at Hb
    have Hc := Lib.hid hc
    clear hc hk hs hn hn' hA hA' hRa hRb hsa hsa' hsb
    go_enter Try.func24, Try.ntmps24
    go_wp2_with fail
    refine Hc.out.mono ?_
    rintro e w3 ⟨rfl, hb3⟩
    have hb03 := hb1.trans (hb3.mono hb1.size)
    have hbA : Below w3.heap.size w3 (w3.alloc (.cells #[.int .i64 r, .bool false] 54)) := (Below.refl _ _).alloc (Nat.le_refl _) _
    have Hc2 := Lib.hid (Hb.out w3 hb03)
    go_wp2_with fail
    refine Hc2.out.mono ?_
    rintro e w4 ⟨rfl, hb4⟩
    go_wp2_with fail
    go_ret2
    exact ⟨rfl, hb03.trans ((hbA.trans (hb4.mono hbA.size)).mono hb03.size)⟩
end Go.Proofs.Ytghaffafglfdlaa
