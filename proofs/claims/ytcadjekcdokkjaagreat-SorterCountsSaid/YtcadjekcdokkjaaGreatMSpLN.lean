/- What the statements of layer 5 share: lists that are compared, and the document's examples. Walks: the first rows of a list, of not too many bytes; those that may be laid; the document's example. The walk of shown: the document's example. -/
import Derived.Test.YtcadjekcdokkjaaGreatMPgC
import Derived.Test.YtcadjekcdokkjaaGreatMSpDU
namespace Go.Proofs.YtcadjekcdokkjaaGreat
set_option linter.unusedVariables false
set_option linter.unusedSimpArgs false
open Go.RowKit
attribute [local go_sem ↓] Go.wp_at_zero Go.wp_at_succ
end Go.Proofs.YtcadjekcdokkjaaGreat
namespace Go.Proofs.YtcadjekcdokkjaaGreat
set_option linter.unusedVariables false
set_option linter.unusedSimpArgs false
open Go.RowKit
attribute [local go_sem ↓] Go.wp_at_zero Go.wp_at_succ
theorem rdTake {w : World} {A : Option Addr} {xs : List Value} (h : Rd w A xs) (n : Nat) : Rd w A (xs.take n) := by
 intro hn
 obtain ⟨b, o, e, hr⟩ := h (fun h0 => hn (by rw [h0, List.take_nil]))
 have := Rd.part hr 0 n
 rw [List.drop_zero, Nat.add_zero] at this
 exact ⟨b, o, e, this⟩
theorem used_none (n : Nat) : Pg.used (List.replicate n none) = 0 := by simp [Pg.used]
def txtR (r : RowM) : Nat := (r.map fun v => v.s.length).sum
def txts (rs : List RowM) : Nat := (rs.map txtR).sum
theorem txtR_snoc (r : RowM) (v : Va) : txtR (r ++ [v]) = txtR r + v.s.length := by simp [txtR]
theorem txts_snoc (rs : List RowM) (r : RowM) : txts (rs ++ [r]) = txts rs + txtR r := by simp [txts]
theorem vput_le2 {v : Va} (hv : rightV v = true) (hok : v.ok) : (vput v).length ≤ 10 + v.s.length := by
 rcases right_kinds hv with rfl | ⟨t, rfl⟩ | ⟨n, rfl⟩ | ⟨s, rfl, hs⟩
 ·rw [vput_nil]; decide
 ·have h0 : -9223372036854775808 ≤ (if t = true then (1 : Int) else 0) ∧ (if t = true then (1 : Int) else 0) ≤ 9223372036854775807 := by split <;> omega
  have := numB_len (zigN_lt h0)
  rw [vput_bool, List.length_cons]
  omega
 ·have := numB_len (zigN_lt (n := n) hok.n)
  rw [vput_int, List.length_cons]
  omega
 ·have := numB_len (n := s.length) (by omega)
  rw [vput_txt, List.length_cons, List.length_append]
  show _ ≤ 10 + s.length
  omega
theorem vputs_le2 : ∀ {r : RowM}, (∀ v ∈ r, rightV v = true) → (∀ v ∈ r, v.ok) → (r.flatMap vput).length ≤ 10 * r.length + txtR r
 | [], _, _ => by simp
 | v :: r, h1, h2 => by
  have := vputs_le2 (r := r) (fun u hu => h1 u (by simp [hu])) (fun u hu => h2 u (by simp [hu]))
  have := vput_le2 (h1 v (by simp)) (h2 v (by simp))
  rw [List.flatMap_cons, List.length_append, List.length_cons]
  have : txtR (v :: r) = v.s.length + txtR r := by simp [txtR]
  omega
theorem rowB_le2 {r : RowM} (hm : mayR r = 0) (h2 : ∀ v ∈ r, v.ok) : (rowB r).length ≤ 321 + txtR r := by
 obtain ⟨h32, h1⟩ := may_right hm
 have := vputs_le2 h1 h2
 have : (numB r.length).length = 1 := by unfold numB; rw [if_pos (by omega)]; rfl
 unfold rowB
 rw [List.length_append]
 omega
theorem rowsB_le2 : ∀ {rs : List RowM}, (∀ r ∈ rs, mayR r = 0) → (∀ r ∈ rs, ∀ v ∈ r, v.ok) → (rowsB rs).length ≤ 321 * rs.length + txts rs
 | [], _, _ => by simp [rowsB]
 | r :: rs, h1, h2 => by
  have := rowsB_le2 (rs := rs) (fun u hu => h1 u (by simp [hu])) (fun u hu => h2 u (by simp [hu]))
  have := rowB_le2 (h1 r (by simp)) (h2 r (by simp))
  have e : rowsB (r :: rs) = rowB r ++ rowsB rs := by simp [rowsB]
  have : txts (r :: rs) = txtR r + txts rs := by simp [txts]
  rw [e, List.length_append, List.length_cons]
  omega
end Go.Proofs.YtcadjekcdokkjaaGreat
namespace Go.Proofs.YtcadjekcdokkjaaGreat
set_option linter.unusedVariables false
set_option linter.unusedSimpArgs false
open Go.RowKit
attribute [local go_sem ↓] Go.wp_at_zero Go.wp_at_succ
end Go.Proofs.YtcadjekcdokkjaaGreat
