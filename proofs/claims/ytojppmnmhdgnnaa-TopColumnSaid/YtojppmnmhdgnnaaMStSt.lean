/- Strings of bytes as lists; slices of bytes. Strings made of bytes, and bytes made of strings. Keys by which rows are ordered: plain data, and how they lie in memory. -/
import Derived.Test.YtojppmnmhdgnnaaMBaCr
import Derived.Test.YtojppmnmhdgnnaaChecked
import Derived.Laws.IdiomStrings
namespace Go.Proofs.Ytojppmnmhdgnnaa
set_option linter.unusedVariables false
set_option linter.unusedSimpArgs false
open Go.RowKit

/-- A string of these bytes. -/
def St8 (l : List UInt8) : ByteArray := ⟨l.toArray⟩
theorem St8_list (l : List UInt8) : (St8 l).toList = l := by rw [ByteArray.toList_eq]; rfl
theorem St8_inj {l m : List UInt8} (h : St8 l = St8 m) : l = m := by
  have := congrArg ByteArray.toList h
  rwa [St8_list, St8_list] at this
theorem St8_eq (l m : List UInt8) : (St8 l == St8 m) = decide (l = m) := by
  have e : (St8 l == St8 m) = (l.toArray == m.toArray) := rfl
  rw [e]
  by_cases h : l = m
  · subst h; simp
  · simp [h]
theorem St8_cmp (l m : List UInt8) : ((St8 l).toList == (St8 m).toList) = decide (l = m) := by
  rw [St8_list, St8_list]
  by_cases h : l = m
  · subst h; simp
  · simp [h]
theorem St8_size (l : List UInt8) : (St8 l).size = l.length := by simp [St8, ByteArray.size]

theorem E8 : ElemT Try.prog 32 5 1 1 (.int .u8 0) := ElemT.mk' (by kernel_rfl) (by kernel_rfl) rfl (by omega)
end Go.Proofs.Ytojppmnmhdgnnaa
namespace Go.Proofs.Ytojppmnmhdgnnaa
set_option linter.unusedVariables false
set_option linter.unusedSimpArgs false
open Go.RowKit

theorem run_str (w : World) (A : Option Addr) (l : List UInt8) (n c : Nat) (hn : l.length = n) (hr : Rd w A (Bs l)) :
    (convert 32 9 (.slice A n c)).run Try.prog w = .ok (.string (St8 l)) w := by
  subst hn
  have hs : Try.prog.underlying 32 = some (.slice 5) := by kernel_rfl
  have he : Try.prog.underlying 5 = some (.int .u8) := by kernel_rfl
  have hd : Try.prog.underlying 9 = some .string := by kernel_rfl
  cases l with
  | nil =>
    cases A with
    | none =>
      rw [run_convert_bytes_string w _ _ _ none _ c hs he hd]
      simp [Conv.bytesToString]
      rfl
    | some a => exact run_convert_bytes_back w _ _ _ a c [] hs he hd (by simp)
  | cons x l =>
    obtain ⟨b, o, rfl, h⟩ := hr (by simp)
    refine run_convert_bytes_back w _ _ _ ⟨b, o, none⟩ c (x :: l) hs he hd fun j hj => ?_
    have := h j (B ((x :: l)[j])) (by rw [List.getElem?_map, List.getElem?_eq_getElem hj]; rfl)
    rw [Addr.add_mid]
    exact this
/-- What a comparison of two strings comes to. -/
theorem St8_take (l : List UInt8) (n : Nat) : (St8 l).extract 0 n = St8 (l.take n) := by
  unfold St8
  ext1
  simp [ByteArray.data_extract]
theorem St8_append (l m : List UInt8) : St8 l ++ St8 m = St8 (l ++ m) := by
  unfold St8
  ext1
  simp

/-- Bytes made of a string: a row of the call's own. -/
theorem run_byt (w : World) (l : List UInt8) :
    ∃ c w', (convert 9 32 (.string (St8 l))).run Try.prog w = .ok (.slice (some ⟨w.heap.size, 0, none⟩) l.length c) w' ∧ w'.rangeAt w.heap.size 0 (Bs l) ∧ Below w.heap.size w w' ∧
      (∀ j, j < l.length → w'.frozen? ⟨w.heap.size, j, none⟩ = false) := by
  have hs : Try.prog.underlying 32 = some (.slice 5) := by kernel_rfl
  have he : Try.prog.underlying 5 = some (.int .u8) := by kernel_rfl
  have hd : Try.prog.underlying 9 = some .string := by kernel_rfl
  have h := run_bytes_of_string w 9 32 5 (St8 l) hd hs he
  rw [St8_size] at h
  have hh := heap_alloc_new w.drew (.cells (bytesRow (St8 l) (grownCap w l.length 0 5)) 5 ((bytesRow (St8 l) (grownCap w l.length 0 5)).size, (bytesRow (St8 l) (grownCap w l.length 0 5)).size + 1))
  have hrow : ∀ (j : Nat) (v : Value), (Bs l)[j]? = some v → (bytesRow (St8 l) (grownCap w l.length 0 5))[j]? = some v := by
    intro j v hj
    have hlt := (List.getElem?_eq_some_iff.1 hj).1
    rw [List.length_map] at hlt
    unfold bytesRow St8
    rw [Array.getElem?_append_left (by simpa using hlt)]
    rw [List.getElem?_map, List.getElem?_eq_getElem hlt] at hj
    simpa [hlt] using hj
  have hsz : l.length ≤ (bytesRow (St8 l) (grownCap w l.length 0 5)).size := by
    unfold bytesRow
    rw [Array.size_append, Array.size_map]
    have : (St8 l).data.size = l.length := St8_size l
    omega
  refine ⟨_, _, h, ?_, ?_, ?_⟩
  · intro j v hj
    rw [Nat.zero_add]
    exact (cell_of_row _ w.heap.size j _ _ _ hh).trans (hrow j v hj)
  · exact (Below.refl w.heap.size w).drew.alloc (Nat.le_refl _) _
  · intro j hj
    have hh' : (w.drew.alloc (.cells (bytesRow (St8 l) (grownCap w l.length 0 5)) 5 ((bytesRow (St8 l) (grownCap w l.length 0 5)).size, (bytesRow (St8 l) (grownCap w l.length 0 5)).size + 1))).heap[w.heap.size]? = _ := hh
    unfold World.frozen?
    rw [hh']
    simp
    omega
theorem range_set {w : World} {g : Nat} {l : List UInt8} (h : w.rangeAt g 0 (Bs l)) {j : Nat} (_hj : j < l.length) (c : UInt8) : (w.setCell ⟨g, j, none⟩ (B c)).rangeAt g 0 (Bs (l.set j c)) := by
  intro k v hk
  rw [Nat.zero_add]
  rw [List.getElem?_map, List.getElem?_set] at hk
  have hlt : ∀ m, m < l.length → ∃ u, w.cell? ⟨g, m, none⟩ = some u ∧ some u = (Bs l)[m]? := by
    intro m hm
    have hm' : (Bs l)[m]? = some (B l[m]) := by rw [List.getElem?_map, List.getElem?_eq_getElem hm]; rfl
    have := h m _ hm'
    rw [Nat.zero_add] at this
    exact ⟨_, this, hm'.symm⟩
  by_cases e : j = k
  · subst e
    rw [if_pos rfl, if_pos _hj] at hk
    obtain ⟨u, hu, _⟩ := hlt j _hj
    rw [World.cell?_setCell_same' _ _ _ (by rw [hu]; rfl)]
    exact hk
  · rw [if_neg e] at hk
    rw [World.cell?_setCell_other _ _ _ _ (by intro e'; injection e' with _ e' _; exact e e')]
    have hm : (Bs l)[k]? = some v := by rw [List.getElem?_map]; exact hk
    have := h k v hm
    rwa [Nat.zero_add] at this
end Go.Proofs.Ytojppmnmhdgnnaa
namespace Go.Proofs.Ytojppmnmhdgnnaa
set_option linter.unusedVariables false
set_option linter.unusedSimpArgs false
open Go.RowKit

/-- What is there now lives through what turns new blocks alone. -/
theorem Rs.of_old {T : List TypeId} {w : World} {A : Option Addr} {xs : List Value} (h : Rd w A xs) : Rs T w.heap.size w A xs := fun hn => by
  obtain ⟨b, o, e, hr⟩ := h hn
  exact ⟨b, o, e, hr, .inl (lt_of_range hr hn)⟩
structure Ky where
  col : Int
  down : Bool
def Ky.cells (x : Ky) : List Value := [.int .i64 x.col, .bool x.down]
def kyc (l : List Ky) : List Value := l.flatMap Ky.cells
theorem kyc_len : ∀ r : List Ky, (kyc r).length = r.length * 2
  | [] => rfl
  | v :: r => by
    have := kyc_len r
    unfold kyc at *
    rw [List.flatMap_cons, List.length_append, this, List.length_cons]
    show 2 + _ = _
    omega
theorem kyc_get : ∀ (r : List Ky) (j k : Nat) (hj : j < r.length), k < 2 → (kyc r)[j * 2 + k]? = (r[j]).cells[k]?
  | v :: r, 0, k, _, hk => by
    unfold kyc
    rw [List.flatMap_cons, List.getElem?_append_left (by show _ < 2; omega)]
    simp
  | v :: r, j + 1, k, hj, hk => by
    have h := kyc_get r j k (by simpa using hj) hk
    unfold kyc at *
    rw [List.flatMap_cons, List.getElem?_append_right (by show 2 ≤ _; omega), List.getElem_cons_succ, ← h]
    congr 1
    show (j + 1) * 2 + k - 2 = _
    omega
theorem Rd.ky {w : World} {A : Option Addr} {l : List Ky} (h : Rd w A (kyc l)) {j : Nat} (hj : j < l.length) :
    ∃ b o, A = some ⟨b, o, none⟩ ∧ w.cell? ⟨b, o + j * 2, none⟩ = some (.int .i64 l[j].col) ∧ w.cell? ⟨b, o + j * 2 + 1, none⟩ = some (.bool l[j].down) := by
  obtain ⟨b, o, e, hr⟩ := h (by intro e; have := congrArg List.length e; rw [kyc_len, List.length_nil] at this; omega)
  exact ⟨b, o, e, hr (j * 2) _ (kyc_get l j 0 hj (by omega)), hr (j * 2 + 1) _ (kyc_get l j 1 hj (by omega))⟩
end Go.Proofs.Ytojppmnmhdgnnaa
