/- Walks: QueryMore. (Printed by gen_qzm.py.) -/
import Derived.Test.YtheafcfbahdcfaaDoorMGrT
namespace Go.Proofs.YtheafcfbahdcfaaDoor
set_option linter.unusedVariables false
set_option linter.unusedSimpArgs false
open Go.RowKit

attribute [local go_sem ↓] Go.wp_at_zero Go.wp_at_succ

theorem Etable : ElemT Tryd.prog 22 44 2 40 (.agg #[.string ⟨#[]⟩, .slice none 0 0]) := ElemT.mk' (by kernel_rfl) (by kernel_rfl) rfl (by omega)
theorem thc_append (r q : List Th) : thc (r ++ q) = thc r ++ thc q := by simp [thc]
theorem thc_one (l : List Th) : ∀ u ∈ thc l, u.oneCell' = true := by
  intro u hu
  unfold thc at hu
  obtain ⟨h, _, hx⟩ := List.mem_flatMap.1 hu
  unfold Th.cells at hx
  rcases List.mem_cons.1 hx with rfl | hx
  · rfl
  · obtain rfl := List.mem_singleton.1 hx
    rfl
theorem Own.lit0 (w : World) (t : TypeId) (size : Nat) : Own (w.alloc (.cells #[] t)) w.heap.size t size (some ⟨w.heap.size, 0, none⟩) 0 0 [] :=
  ⟨by simp, .inr ⟨w.heap.size, 0, #[], rfl, Nat.le_refl _, Blk.new w t #[], Nat.le_refl _, Nat.zero_le _, by simp, by simp⟩⟩
theorem kc_bs : ∀ cl : List Int, (∀ x ∈ cl, kindT x = true) → ∃ T : List UInt8, T.length = cl.length ∧ kcells cl = Bs T
  | [], _ => ⟨[], rfl, rfl⟩
  | x :: cl, h => by
    obtain ⟨T, h1, h2⟩ := kc_bs cl fun y hy => h y (List.mem_cons_of_mem _ hy)
    obtain ⟨g1, g3⟩ := of_decide_eq_true (show decide (1 ≤ x ∧ x ≤ 3) = true from h x List.mem_cons_self)
    refine ⟨UInt8.ofNat x.toNat :: T, by simp [h1], ?_⟩
    show Value.int .u8 x :: kcells cl = YtheafcfbahdcfaaDoor.B (UInt8.ofNat x.toNat) :: Bs T
    rw [h2]
    congr 1
    unfold YtheafcfbahdcfaaDoor.B
    congr 1
    have : (UInt8.ofNat x.toNat).toNat = x.toNat := by
      rw [UInt8.toNat_ofNat']
      omega
    rw [this]
    omega
theorem FewT.right {m l : List Tb} (h : FewT (m ++ l)) : FewT l :=
  ⟨by have := h.len; rw [List.length_append] at this; omega, fun t ht => h.names t (List.mem_append_right _ ht), fun t ht => h.kinds t (List.mem_append_right _ ht)⟩

end Go.Proofs.YtheafcfbahdcfaaDoor
