/- Walks: a value that may be, as bytes: both ways at once. -/
import Derived.Test.YtjjmnjgkodiibaaMOcU
namespace Go.Proofs.Ytjjmnjgkodiibaa
open Go.RowKit

theorem vput_nil : vput ⟨0, 0, []⟩ = [byteN 0] := rfl
theorem vput_bool (n : Int) : vput ⟨1, n, []⟩ = byteN 1 :: numB (zigN n) := rfl
theorem vput_int (n : Int) : vput ⟨2, n, []⟩ = byteN 2 :: numB (zigN n) := rfl
theorem vput_txt (s : List UInt8) : vput ⟨3, 0, s⟩ = byteN 3 :: (numB s.length ++ s) := rfl

theorem rput_any (b : List UInt8) (bl bc : Nat) (v : Va) (A : Option Addr) (w : World) (hb : b.length = bl) (hr : Rd w A (Bs b)) (hbl : bl ≤ 100000) (hv : rightV v = true) (hok : v.ok) :
    Calls Try.prog 63 #[.slice A bl bc, v.agg] w fun e w' => ∃ A' c', e = .returned (.slice A' (bl + (vput v).length) c') ∧ Own w' w.heap.size 5 1 A' (bl + (vput v).length) c' (Bs (b ++ vput v)) ∧ Below w.heap.size w w' := by
  rcases right_kinds hv with rfl | ⟨t, rfl⟩ | ⟨n, rfl⟩ | ⟨s, rfl, hs⟩
  · rw [vput_nil]
    exact rput_nil b bl bc A w hb hr hbl
  · cases t
    · rw [vput_bool, List.length_cons, Nat.add_comm _ 1]
      exact rput_no b bl bc A w hb hr hbl
    · rw [vput_bool, List.length_cons, Nat.add_comm _ 1]
      exact rput_yes b bl bc A w hb hr hbl
  · rw [vput_int, List.length_cons, Nat.add_comm _ 1]
    exact rput_int b bl bc n hok.n A w hb hr hbl
  · rw [vput_txt, List.length_cons, List.length_append, Nat.add_comm _ 1]
    exact rput_txt b bl bc s s.length hs rfl A w hb hr hbl

theorem cput_any (b : List UInt8) (bl bc : Nat) (v : Va) (A : Option Addr) (w : World) (hb : b.length = bl) (hr : Rd w A (Bs b)) (hbl : bl ≤ 100000) (hv : rightV v = true) (hok : v.ok) :
    Calls Try.prog 68 #[.slice A bl bc, v.agg] w fun e w' => ∃ A' c', e = .returned (.slice A' (bl + (vput v).length) c') ∧ Own w' w.heap.size 5 1 A' (bl + (vput v).length) c' (Bs (b ++ vput v)) ∧ Below w.heap.size w w' := by
  rcases right_kinds hv with rfl | ⟨t, rfl⟩ | ⟨n, rfl⟩ | ⟨s, rfl, hs⟩
  · rw [vput_nil]
    exact cput_nil b bl bc A w hb hr hbl
  · cases t
    · rw [vput_bool, List.length_cons, Nat.add_comm _ 1]
      exact cput_no b bl bc A w hb hr hbl
    · rw [vput_bool, List.length_cons, Nat.add_comm _ 1]
      exact cput_yes b bl bc A w hb hr hbl
  · rw [vput_int, List.length_cons, Nat.add_comm _ 1]
    exact cput_int b bl bc n hok.n A w hb hr hbl
  · rw [vput_txt, List.length_cons, List.length_append, Nat.add_comm _ 1]
    exact cput_txt b bl bc s s.length hs rfl A w hb hr hbl

theorem vput_le {v : Va} (hv : rightV v = true) (hok : v.ok) : (vput v).length ≤ 1034 := by
  rcases right_kinds hv with rfl | ⟨t, rfl⟩ | ⟨n, rfl⟩ | ⟨s, rfl, hs⟩
  · rw [vput_nil]; decide
  · have h0 : -9223372036854775808 ≤ (if t = true then (1 : Int) else 0) ∧ (if t = true then (1 : Int) else 0) ≤ 9223372036854775807 := by split <;> omega
    have := numB_len (zigN_lt h0)
    rw [vput_bool, List.length_cons]
    omega
  · have := numB_len (zigN_lt (n := n) hok.n)
    rw [vput_int, List.length_cons]
    omega
  · have := numB_len (n := s.length) (by omega)
    rw [vput_txt, List.length_cons, List.length_append]
    omega
end Go.Proofs.Ytjjmnjgkodiibaa
