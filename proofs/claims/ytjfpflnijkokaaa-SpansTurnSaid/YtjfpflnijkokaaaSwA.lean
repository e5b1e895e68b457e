/- Lists of spans in memory. -/
import Derived.Test.YtjfpflnijkokaaaBase
import Derived.Test.YtjfpflnijkokaaaIn
import Derived.Test.YtjfpflnijkokaaaLst
import Derived.Test.YtjfpflnijkokaaaJoW
import Derived.Test.YtjfpflnijkokaaaSpnP
namespace Go.Proofs.Ytjfpflnijkokaaa
open Go.RowKit

attribute [local go_sem ↓] Go.wp_at_zero Go.wp_at_succ

def spc (l : List SpanM) : List Value := l.flatMap fun s => [.int .i64 s.1, .int .i64 s.2]
theorem spc_len (l : List SpanM) : (spc l).length = l.length * 2 := flat_len _ 2 (fun _ => rfl) l
theorem spc_append (l m : List SpanM) : spc (l ++ m) = spc l ++ spc m := List.flatMap_append
theorem spc_one (l : List SpanM) : ∀ u ∈ spc l, u.oneCell' = true := by
  intro u hu
  obtain ⟨s, _, hs⟩ := List.mem_flatMap.1 hu
  rcases List.mem_cons.1 hs with rfl | hs
  · rfl
  · rw [List.mem_singleton.1 hs]; rfl
theorem Espan : ElemT Try.prog 24 40 2 16 (.agg #[.int .i64 0, .int .i64 0]) := ElemT.mk' (by kernel_rfl) (by kernel_rfl) rfl (by omega)
theorem Rd.span {w : World} {A : Option Addr} {l : List SpanM} (h : Rd w A (spc l)) {j : Nat} (hj : j < l.length) :
    ∃ b o, A = some ⟨b, o, none⟩ ∧ w.cell? ⟨b, o + j * 2, none⟩ = some (.int .i64 l[j].1) ∧ w.cell? ⟨b, o + j * 2 + 1, none⟩ = some (.int .i64 l[j].2) := by
  have h0 := flat_get (fun s : SpanM => [Value.int .i64 s.1, .int .i64 s.2]) 2 (fun _ => rfl) l j l[j] 0 (List.getElem?_eq_getElem hj) (by omega)
  have h1 := flat_get (fun s : SpanM => [Value.int .i64 s.1, .int .i64 s.2]) 2 (fun _ => rfl) l j l[j] 1 (List.getElem?_eq_getElem hj) (by omega)
  simp only [List.getElem?_cons_zero, List.getElem?_cons_succ, Nat.add_zero] at h0 h1
  obtain ⟨b, o, e, hr⟩ := h (by
    intro e
    have := congrArg List.length e
    rw [spc_len, List.length_nil] at this
    omega)
  refine ⟨b, o, e, hr (j * 2) _ h0, ?_⟩
  have := hr (j * 2 + 1) _ h1
  rwa [← Nat.add_assoc] at this
theorem spans_of {w : World} {X : Option Addr} {n c : Nat} (h : Reads Try.prog w 24 [.slice X n c]) : ∃ l : List SpanM, l.length = n ∧ Rd w X (spc l) ∧ (∀ s ∈ l, (-9223372036854775808 ≤ s.1 ∧ s.1 ≤ 9223372036854775807) ∧ (-9223372036854775808 ≤ s.2 ∧ s.2 ≤ 9223372036854775807)) ∧ n ≤ c ∧ c ≤ maxLen := by
  refine Reads.list (fun s : SpanM => [Value.int .i64 s.1, .int .i64 s.2]) (fun s => (-9223372036854775808 ≤ s.1 ∧ s.1 ≤ 9223372036854775807) ∧ (-9223372036854775808 ≤ s.2 ∧ s.2 ≤ 9223372036854775807)) 2 (by omega) (fun _ => rfl) Try.underlying24 (by kernel_rfl) (fun cs hcs => ?_) h
  obtain ⟨hlen, hf⟩ := hcs.cells Try.underlying40 (by kernel_rfl) (by kernel_rfl)
  match cs, hlen with
  | [c0, c1], _ =>
    obtain ⟨_, e0, f0⟩ := hf 0 _ rfl
    obtain ⟨_, e1, f1⟩ := hf 1 _ rfl
    cases e0; cases e1
    obtain ⟨a, h0, w0⟩ := f0.int Try.underlying3
    obtain ⟨b, h1, w1⟩ := f1.int Try.underlying3
    cases h0; cases h1
    exact ⟨(a, b), rfl, wf_i64_bounds w0, wf_i64_bounds w1⟩
end Go.Proofs.Ytjfpflnijkokaaa
