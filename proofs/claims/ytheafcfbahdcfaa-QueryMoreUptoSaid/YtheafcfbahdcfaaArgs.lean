/- Arguments that came in, as lists: slices of bytes and of numbers. -/
import Derived.Test.YtheafcfbahdcfaaBase
import Derived.Test.YtheafcfbahdcfaaCrcM
import Derived.ProofKit
import Derived.OpenShut
import Derived.ShutString
import Derived.ChangeOld
namespace Go.Proofs.Ytheafcfbahdcfaa
open Go.RowKit

/-- A slice of integers that came in: nil, or a row of cap cells, of which the first len are its elements. -/
def IsRow (k : IntKind) (w : World) (a : Option Addr) (len cap : Nat) (zs : List Int) : Prop :=
  (a = none ∧ len = 0 ∧ cap = 0 ∧ zs = []) ∨
  ∃ x, a = some x ∧ len ≤ cap ∧ cap ≤ maxLen ∧ zs.length = cap ∧ (∀ i, i < zs.length → w.cell? (x.add i) = some (.int k (zs.getD i 0))) ∧ ∀ n ∈ zs, (Lit.int k n).wf = true

theorem rd_of_cells {w : World} {x : Addr} {xs : List Value} (h : ∀ i u, xs[i]? = some u → w.cell? (x.add i) = some u) : Rd w (some x) xs := fun hn => by
  obtain ⟨u, us, rfl⟩ := List.exists_cons_of_ne_nil hn
  have h0 := h 0 u rfl
  have hx : x.add 0 = x := by simp [Addr.add]
  rw [hx] at h0
  obtain ⟨b, o, sp⟩ := x
  have hsp : sp = none := by
    cases sp with
    | none => rfl
    | some q =>
      unfold World.cell? at h0
      split at h0
      · simp at h0
      · cases h0
  subst hsp
  exact ⟨b, o, rfl, fun j v hv => by rw [← Addr.add_mid]; exact h j v hv⟩

theorem IsRow.ints {k : IntKind} {w : World} {a : Option Addr} {len cap : Nat} {zs : List Int} (h : IsRow k w a len cap zs) :
    ∃ l : List Int, l.length = len ∧ Rd w a (l.map (Value.int k)) ∧ len ≤ cap ∧ cap ≤ maxLen ∧ ∀ n ∈ l, (Lit.int k n).wf = true := by
  rcases h with ⟨rfl, rfl, rfl, rfl⟩ | ⟨x, rfl, hl, hm, hz, hc, hw⟩
  · exact ⟨[], rfl, Rd.nil _ _, Nat.le_refl _, Nat.zero_le _, by simp⟩
  · refine ⟨zs.take len, by rw [List.length_take]; omega, rd_of_cells fun i u hu => ?_, hl, hm, fun n hn => hw n (List.mem_of_mem_take hn)⟩
    rw [List.getElem?_map] at hu
    obtain ⟨z, hz', rfl⟩ := Option.map_eq_some_iff.1 hu
    rw [List.getElem?_take] at hz'
    split at hz'
    · have hi := (List.getElem?_eq_some_iff.1 hz').1
      rw [hc i hi, List.getD, hz']
      rfl
    · cases hz'

/-- Numbers that are bytes. -/
theorem bytes_of (zs : List Int) (h : ∀ n ∈ zs, (Lit.int .u8 n).wf = true) : ∃ l : List UInt8, zs = l.map fun c => (c.toNat : Int) := by
  induction zs with
  | nil => exact ⟨[], rfl⟩
  | cons z zs ih =>
    obtain ⟨l, rfl⟩ := ih (fun n hn => h n (List.mem_cons_of_mem _ hn))
    have hz := h z List.mem_cons_self
    have hb : 0 ≤ z ∧ z ≤ 255 := by
      simp [Lit.wf, IntKind.min, IntKind.max, IntKind.signed, IntKind.bits] at hz
      omega
    refine ⟨UInt8.ofNat z.toNat :: l, ?_⟩
    rw [List.map_cons]
    congr 1
    rw [UInt8.toNat_ofNat']
    omega
theorem IsRow.bytes {w : World} {a : Option Addr} {len cap : Nat} {zs : List Int} (h : IsRow .u8 w a len cap zs) :
    ∃ l : List UInt8, l.length = len ∧ Rd w a (Bs l) ∧ len ≤ cap ∧ cap ≤ maxLen := by
  obtain ⟨l, hl, hr, hc, hm, hw⟩ := h.ints
  obtain ⟨b, rfl⟩ := bytes_of l hw
  refine ⟨b, by simpa using hl, ?_, hc, hm⟩
  rw [List.map_map] at hr
  exact hr
end Go.Proofs.Ytheafcfbahdcfaa
