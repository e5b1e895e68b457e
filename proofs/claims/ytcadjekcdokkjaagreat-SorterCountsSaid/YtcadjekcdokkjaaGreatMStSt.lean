/- Strings of bytes as lists; slices of bytes. Keys by which rows are ordered: plain data, and how they lie in memory. Strings made of bytes, and bytes made of strings. -/
import Derived.Test.YtcadjekcdokkjaaGreatMBaCr
import Derived.Test.YtcadjekcdokkjaaGreatChecked
import Derived.Laws.IdiomStrings
namespace Go.Proofs.YtcadjekcdokkjaaGreat
set_option linter.unusedVariables false
set_option linter.unusedSimpArgs false
open Go.RowKit
def St8 (l : List UInt8) : ByteArray := ⟨l.toArray⟩
theorem St8_list (l : List UInt8) : (St8 l).toList = l := by rw [ByteArray.toList_eq]; rfl
theorem St8_inj {l m : List UInt8} (h : St8 l = St8 m) : l = m := by
 have := congrArg ByteArray.toList h
 rwa [St8_list, St8_list] at this
theorem St8_eq (l m : List UInt8) : (St8 l == St8 m) = decide (l = m) := by
 have e : (St8 l == St8 m) = (l.toArray == m.toArray) := rfl
 rw [e]
 by_cases h : l = m
 ·subst h; simp
 ·simp [h]
theorem St8_cmp (l m : List UInt8) : ((St8 l).toList == (St8 m).toList) = decide (l = m) := by
 rw [St8_list, St8_list]
 by_cases h : l = m
 ·subst h; simp
 ·simp [h]
theorem St8_size (l : List UInt8) : (St8 l).size = l.length := by simp [St8, ByteArray.size]
theorem E8 : ElemT Tryz.prog 36 5 1 1 (.int .u8 0) := ElemT.mk' (by kernel_rfl) (by kernel_rfl) rfl (by omega)
end Go.Proofs.YtcadjekcdokkjaaGreat
namespace Go.Proofs.YtcadjekcdokkjaaGreat
set_option linter.unusedVariables false
set_option linter.unusedSimpArgs false
open Go.RowKit
theorem Rs.of_old {T : List TypeId} {w : World} {A : Option Addr} {xs : List Value} (h : Rd w A xs) : Rs T w.heap.size w A xs := fun hn => by
 obtain ⟨b, o, e, hr⟩ := h hn
 exact ⟨b, o, e, hr, .inl (lt_of_range hr hn)⟩
structure Ky where
 col : Int
 down : Bool
def Ky.cells (x : Ky) : List Value := [.int .i64 x.col, .bool x.down]
def kyc (l : List Ky) : List Value := l.flatMap Ky.cells
theorem kyc_len : ∀ r : List Ky, (kyc r).length = r.length * 2
 | [] => rfl
 | v :: r => by
  have := kyc_len r
  unfold kyc at *
  rw [List.flatMap_cons, List.length_append, this, List.length_cons]
  show 2 + _ = _
  omega
theorem kyc_get : ∀ (r : List Ky) (j k : Nat) (hj : j < r.length), k < 2 → (kyc r)[j * 2 + k]? = (r[j]).cells[k]?
 | v :: r, 0, k, _, hk => by
  unfold kyc
  rw [List.flatMap_cons, List.getElem?_append_left (by show _ < 2; omega)]
  simp
 | v :: r, j + 1, k, hj, hk => by
  have h := kyc_get r j k (by simpa using hj) hk
  unfold kyc at *
  rw [List.flatMap_cons, List.getElem?_append_right (by show 2 ≤ _; omega), List.getElem_cons_succ, ← h]
  congr 1
  show (j + 1) * 2 + k - 2 = _
  omega
theorem Rd.ky {w : World} {A : Option Addr} {l : List Ky} (h : Rd w A (kyc l)) {j : Nat} (hj : j < l.length) :
  ∃ b o, A = some ⟨b, o, none⟩ ∧ w.cell? ⟨b, o + j * 2, none⟩ = some (.int .i64 l[j].col) ∧ w.cell? ⟨b, o + j * 2 + 1, none⟩ = some (.bool l[j].down) := by
 obtain ⟨b, o, e, hr⟩ := h (by intro e; have := congrArg List.length e; rw [kyc_len, List.length_nil] at this; omega)
 exact ⟨b, o, e, hr (j * 2) _ (kyc_get l j 0 hj (by omega)), hr (j * 2 + 1) _ (kyc_get l j 1 hj (by omega))⟩
end Go.Proofs.YtcadjekcdokkjaaGreat
namespace Go.Proofs.YtcadjekcdokkjaaGreat
set_option linter.unusedVariables false
set_option linter.unusedSimpArgs false
open Go.RowKit
theorem run_str (w : World) (A : Option Addr) (l : List UInt8) (n c : Nat) (hn : l.length = n) (hr : Rd w A (Bs l)) :
  (convert 36 9 (.slice A n c)).run Tryz.prog w = .ok (.string (St8 l)) w := by
 subst hn
 have hs : Tryz.prog.underlying 36 = some (.slice 5) := by kernel_rfl
 have he : Tryz.prog.underlying 5 = some (.int .u8) := by kernel_rfl
 have hd : Tryz.prog.underlying 9 = some .string := by kernel_rfl
 cases l with
 | nil =>
  cases A with
  | none =>
   rw [run_convert_bytes_string w _ _ _ none _ c hs he hd]
   simp [Conv.bytesToString]
   rfl
  | some a => exact run_convert_bytes_back w _ _ _ a c [] hs he hd (by simp)
 | cons x l =>
  obtain ⟨b, o, rfl, h⟩ := hr (by simp)
  refine run_convert_bytes_back w _ _ _ ⟨b, o, none⟩ c (x :: l) hs he hd fun j hj => ?_
  have := h j (B ((x :: l)[j])) (by rw [List.getElem?_map, List.getElem?_eq_getElem hj]; rfl)
  rw [Addr.add_mid]
  exact this
end Go.Proofs.YtcadjekcdokkjaaGreat
