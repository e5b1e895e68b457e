/- Walks: rows as bytes, both ways; whether all values may be. -/
import Derived.Test.YtjjmnjgkodiibaaMSpM
import Derived.Test.YtjjmnjgkodiibaaMOcR
namespace Go.Proofs.Ytjjmnjgkodiibaa
open Go.RowKit

attribute [local go_sem ↓] Go.wp_at_zero Go.wp_at_succ

set_option maxRecDepth 100000 in
theorem bytes_any (r : RowM) (n c : Nat) (A : Option Addr) (w : World) (hn : r.length = n) (hr : Rd w A (rcells r)) (h32 : n ≤ 32) (hall : ∀ v ∈ r, rightV v = true) (hok : ∀ v ∈ r, v.ok) :
    Calls Try.prog 44 #[.slice A n c] w fun e w' => ∃ A' L c', e = .returned (.slice A' L c') ∧ (rowB r).length = L ∧ Own w' w.heap.size 5 1 A' L c' (Bs (rowB r)) ∧ Below w.heap.size w w' := by
  have Hn := Lib.hid hn
  have Hall := Lib.hid hall
  have Hok := Lib.hid hok
  have hnum := Lib.hid (onum_any [] 0 0 n none w rfl (Rd.nil _ _) (by omega) (by omega))
  have hnl := numB_len (n := n) (by omega)
  have HnB : Hid (numB r.length = numB n) := by rw [hn]; rfl
  clear hn hall hok
  go_enter Try.func44, Try.ntmps44
  go_wp2_with fail
  refine hnum.out.mono ?_
  rintro e w1 ⟨A1, c1, rfl, ho1, hb1⟩
  rw [Nat.zero_add, List.nil_append] at ho1
  rw [Nat.zero_add]
  generalize hN : (numB n).length = N at *
  have HN := Lib.hid hN
  clear hN
  go_wp2_with fail
  go_loopw [3, 12] (fun b i wr => ∃ (j L : Nat) (E : Option Addr) (d : Nat), j ≤ n ∧ L ≤ 9 + 1034 * j ∧ i = .int .i64 j ∧ b = .slice E L d ∧ Hid ((numB r.length ++ (r.take j).flatMap vput).length = L) ∧
      Own wr w.heap.size 5 1 E L d (Bs (numB r.length ++ (r.take j).flatMap vput)) ∧ Below w.heap.size w wr) (fun _ i _ => n - (intOf i).toNat)
  case atStart =>
    refine ⟨0, N, A1, c1, by omega, by omega, rfl, rfl, ?_, ?_, hb1⟩
    · show _ = _
      rw [List.take_zero, List.flatMap_nil, List.append_nil, HnB.out]
      exact HN.out
    · rw [List.take_zero, List.flatMap_nil, List.append_nil, HnB.out]
      exact ho1
  case round =>
    obtain ⟨j, L, E, d, hj, hL, rfl, rfl, hlen, hown, hb⟩ := hrel
    by_cases hlt : j < n
    · have hjl : j < r.length := by rw [Hn.out]; exact hlt
      obtain ⟨gb, go', rfl, k0, k1, k2⟩ := row_cells (hr.below hb) hjl
      have hnext := Lib.hid (rowB_take hjl)
      have hv1 := Hall.out _ (List.getElem_mem hjl)
      have hv2 := Hok.out _ (List.getElem_mem hjl)
      generalize r[j] = v at *
      have hvl := vput_le hv1 hv2
      generalize hX : numB r.length ++ (r.take j).flatMap vput = X at *
      have hcp := Lib.hid (fun (w' : World) (h : Rd w' E (Bs X)) => cput_any X L d v E w' hlen.out h (by omega) hv1 hv2)
      unfold Va.agg at hcp
      have hlen2 : Hid ((X ++ vput v).length = L + (vput v).length) := by show _ = _; rw [List.length_append, hlen.out]
      have hrd := hown.rd
      have Hown := Lib.hid hown
      clear hr hjl hv1 hv2 hX hown
      generalize hV : (vput v).length = V at *
      clear hV
      go_wp2_with fail
      refine (hcp.out _ (hrd.alloc _)).mono ?_
      rintro e w2 ⟨A2, c2, rfl, ho2, hb2⟩
      have hsz := hb.size
      have hb0 : Below w.heap.size w w2 := (hb.alloc (by omega) _).trans (hb2.mono (by simp; omega))
      go_wp2_with fail
      go_roundw
      case rel =>
        refine ⟨j + 1, L + V, A2, c2, by omega, by omega, by go_num, rfl, ?_, ?_, hb0⟩
        · show _ = _
          rw [hnext.out]
          exact hlen2.out
        · rw [hnext.out]
          exact Own.base ho2 (by simp; omega)
      case measure => simp [intOf]; omega
    · obtain rfl : j = n := by omega
      have htk : r.take j = r := List.take_of_length_le (by rw [Hn.out]; exact Nat.le_refl _)
      rw [htk] at hlen hown
      go_wp2_with fail
      go_ret
      exact ⟨E, L, d, rfl, hlen.out, hown, hb⟩

set_option maxRecDepth 100000 in
theorem rrow_any (r : RowM) (n c : Nat) (A : Option Addr) (w : World) (hn : r.length = n) (hr : Rd w A (rcells r)) (h32 : n ≤ 32) (hall : ∀ v ∈ r, rightV v = true) (hok : ∀ v ∈ r, v.ok) :
    Calls Try.prog 37 #[.slice A n c] w fun e w' => ∃ A' L c', e = .returned (.slice A' L c') ∧ (rowB r).length = L ∧ Own w' w.heap.size 5 1 A' L c' (Bs (rowB r)) ∧ Below w.heap.size w w' := by
  have Hn := Lib.hid hn
  have Hall := Lib.hid hall
  have Hok := Lib.hid hok
  have hnum := Lib.hid (rnum_any [] 0 0 n none w rfl (Rd.nil _ _) (by omega) (by omega))
  have hnl := numB_len (n := n) (by omega)
  have HnB : Hid (numB r.length = numB n) := by rw [hn]; rfl
  clear hn hall hok
  go_enter Try.func37, Try.ntmps37
  go_wp2_with fail
  refine hnum.out.mono ?_
  rintro e w1 ⟨A1, c1, rfl, ho1, hb1⟩
  rw [Nat.zero_add, List.nil_append] at ho1
  rw [Nat.zero_add]
  generalize hN : (numB n).length = N at *
  have HN := Lib.hid hN
  clear hN
  go_wp2_with fail
  go_loopw [3, 4] (fun b i wr => ∃ (j L : Nat) (E : Option Addr) (d : Nat), j ≤ n ∧ L ≤ 9 + 1034 * j ∧ i = .int .i64 j ∧ b = .slice E L d ∧ Hid ((numB r.length ++ (r.take j).flatMap vput).length = L) ∧
      Own wr w.heap.size 5 1 E L d (Bs (numB r.length ++ (r.take j).flatMap vput)) ∧ Below w.heap.size w wr) (fun _ i _ => n - (intOf i).toNat)
  case atStart =>
    refine ⟨0, N, A1, c1, by omega, by omega, rfl, rfl, ?_, ?_, hb1⟩
    · show _ = _
      rw [List.take_zero, List.flatMap_nil, List.append_nil, HnB.out]
      exact HN.out
    · rw [List.take_zero, List.flatMap_nil, List.append_nil, HnB.out]
      exact ho1
  case round =>
    obtain ⟨j, L, E, d, hj, hL, rfl, rfl, hlen, hown, hb⟩ := hrel
    by_cases hlt : j < n
    · have hjl : j < r.length := by rw [Hn.out]; exact hlt
      obtain ⟨gb, go', rfl, k0, k1, k2⟩ := row_cells (hr.below hb) hjl
      have hnext := Lib.hid (rowB_take hjl)
      have hv1 := Hall.out _ (List.getElem_mem hjl)
      have hv2 := Hok.out _ (List.getElem_mem hjl)
      generalize r[j] = v at *
      have hvl := vput_le hv1 hv2
      generalize hX : numB r.length ++ (r.take j).flatMap vput = X at *
      have hcp := Lib.hid (fun (w' : World) (h : Rd w' E (Bs X)) => rput_any X L d v E w' hlen.out h (by omega) hv1 hv2)
      unfold Va.agg at hcp
      have hlen2 : Hid ((X ++ vput v).length = L + (vput v).length) := by show _ = _; rw [List.length_append, hlen.out]
      have hrd := hown.rd
      have Hown := Lib.hid hown
      clear hr hjl hv1 hv2 hX hown
      generalize hV : (vput v).length = V at *
      clear hV
      go_wp2_with fail
      refine (hcp.out _ hrd).mono ?_
      rintro e w2 ⟨A2, c2, rfl, ho2, hb2⟩
      have hsz := hb.size
      have hb0 : Below w.heap.size w w2 := hb.trans (hb2.mono hsz)
      go_wp2_with fail
      go_roundw
      case rel =>
        refine ⟨j + 1, L + V, A2, c2, by omega, by omega, by go_num, rfl, ?_, ?_, hb0⟩
        · show _ = _
          rw [hnext.out]
          exact hlen2.out
        · rw [hnext.out]
          exact Own.base ho2 hsz
      case measure => simp [intOf]; omega
    · obtain rfl : j = n := by omega
      have htk : r.take j = r := List.take_of_length_le (by rw [Hn.out]; exact Nat.le_refl _)
      rw [htk] at hlen hown
      go_wp2_with fail
      go_ret
      exact ⟨E, L, d, rfl, hlen.out, hown, hb⟩
end Go.Proofs.Ytjjmnjgkodiibaa
