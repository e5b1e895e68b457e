/- Walks: a filter, made; a value's bits. -/
import Derived.Test.YtghaffafglfdlaaBlN
namespace Go.Proofs.Ytghaffafglfdlaa
open Go.RowKit

attribute [local go_sem ↓] Go.wp_at_zero Go.wp_at_succ

/-- A filter lies there. -/
structure Flt (w : World) (B F G : Nat) (m n : Nat) (bs : List UInt8) : Prop where
  f : Blk w F 88 [.int .i64 (m : Int), .int .i64 (n : Int), .slice (some ⟨G, 0, none⟩) ((m + 7) / 8) ((m + 7) / 8)]
  g : Blk w G 5 (Bs bs)
  lo : B ≤ F ∧ B ≤ G
  len : bs.length = (m + 7) / 8
  sm : 1 ≤ m ∧ m ≤ 8192 ∧ 1 ≤ n ∧ n ≤ 8
namespace Flt
variable {w w' : World} {B F G m n : Nat} {bs : List UInt8}
theorem below (h : Flt w B F G m n bs) (hb : Below w.heap.size w w') : Flt w' B F G m n bs := ⟨h.f.below hb, h.g.below hb, h.lo, h.len, h.sm⟩
theorem ne (h : Flt w B F G m n bs) : F ≠ G := h.f.ne_of_type h.g (by decide)
end Flt

theorem size_any (m : Nat) (w : World) (h1 : 1 ≤ m) (h2 : m ≤ 8192) : Calls Try.prog 53 #[.int .i64 (m : Int)] w fun e w' => e = .returned (.int .i64 (((m + 7) / 8 : Nat) : Int)) ∧ w = w' := by
  go_enter Try.func53, Try.ntmps53
  go_wp2_with fail
  go_ret
  exact ⟨by simp, rfl⟩
theorem size_no (w : World) : Calls Try.prog 53 #[.int .i64 0] w fun e w' => e = .returned (.int .i64 0) ∧ w = w' := by
  go_enter Try.func53, Try.ntmps53
  go_wp2_with fail
  go_ret
  exact ⟨rfl, rfl⟩
theorem bnew_no (n : Int) (w : World) : Calls Try.prog 35 #[.int .i64 0, .int .i64 n] w fun e w' => e = .returned (.tuple #[.pointer none, .int .i64 1]) ∧ w = w' := by
  go_enter Try.func35, Try.ntmps35
  go_wp2_with fail
  refine (size_no _).mono ?_
  rintro e w' ⟨rfl, rfl⟩
  go_wp2_with fail
  go_returns
  exact ⟨rfl, rfl⟩
set_option maxRecDepth 100000 in
theorem bnew_any (m n : Nat) (w : World) (h1 : 1 ≤ m) (h2 : m ≤ 8192) (h3 : 1 ≤ n) (h4 : n ≤ 8) :
    Calls Try.prog 35 #[.int .i64 (m : Int), .int .i64 (n : Int)] w fun e w' => ∃ F G, e = .returned (.tuple #[.pointer (some ⟨F, 0, none⟩), .int .i64 0]) ∧ Flt w' w.heap.size F G m n (List.replicate ((m + 7) / 8) 0) ∧ Below w.heap.size w w' := by
  have hS := fun w => size_any m w h1 h2
  obtain ⟨K, hK⟩ : ∃ K, K = (m + 7) / 8 := ⟨_, rfl⟩
  rw [← hK] at hS ⊢
  have hk1 : 1 ≤ K := by omega
  have hk2 : K ≤ 1024 := by omega
  have HK := Lib.hid hK
  have HS := Lib.hid hS
  have n1 : ((K : Int) == 0) = false := by rw [beq_eq_false_iff_ne]; omega
  have n2 : decide ((n : Int) < 1) = false := decide_eq_false (by omega)
  have n3 : decide (8 < (n : Int)) = false := decide_eq_false (by omega)
  clear hS hK
  go_enter Try.func35, Try.ntmps35
  go_wp2_with fail
  refine (HS.out _).mono ?_
  rintro e w' ⟨rfl, rfl⟩
  go_wp2_with fail
  refine (HS.out _).mono ?_
  rintro e w' ⟨rfl, rfl⟩
  go_wp2_with (first | (at_builtin; refine hold ?_) | (at_make; refine hold ?_))
  (with_reducible refine unhold ?_)
  refine wpList_mkn rfl _ _ _ rfl E8 w.heap.size _ _ _ _ K rfl rfl rfl rfl (by omega) (by unfold maxLen; omega) (Nat.le_refl _) ?_
  intro w1 ho1 hb1 hlt1
  rw [Nat.mul_one] at ho1
  have hk := ho1.blk
  rw [show (Value.cells (.int .u8 0)) = #[.int .u8 0] from rfl, toList_madeCells_one] at hk
  have hz := hb1.size
  have hkk := Lib.hid hk
  clear ho1 hk
  go_wp2_with fail
  go_returns
  refine ⟨w1.heap.size, w.heap.size, rfl, ⟨?_, ?_, ⟨hz, Nat.le_refl _⟩, ?_, h1, h2, h3, h4⟩, hb1.alloc hz _⟩
  · rw [← HK.out]
    exact Blk.new _ _ _
  · rw [Bs, List.map_replicate]
    exact hkk.out.1.alloc _
  · rw [List.length_replicate, HK.out]

set_option maxHeartbeats 4000000 in
set_option maxRecDepth 100000 in
theorem place_any (B F G m n : Nat) (bs : List UInt8) (v : Va) (i : Nat) (w : World) (h : Flt w B F G m n bs) (hi : i ≤ 8) (hv : rightV v = true) (hok : v.ok) :
    Calls Try.prog 54 #[.pointer (some ⟨F, 0, none⟩), v.agg, .int .i64 (i : Int)] w fun e w' => e = .returned (.int .i64 (placeV m v i : Nat)) ∧ Below w.heap.size w w' := by
  have hsm := h.sm
  have hh := fun w => hash_any v i w hv hok (by omega)
  have hP := Lib.hid (show placeV m v i = hashV v i % m from rfl)
  have hlt := placeV_lt (show 0 < m by omega) v i
  have hhl := hashV_lt v (seed := i) (by omega)
  generalize hashV v i = H at *
  generalize placeV m v i = R at *
  have hc := h.f.cell 0
  simp only [List.getElem?_cons_zero] at hc
  have HH := Lib.hid hh
  unfold Va.agg at *
  have hw1 : IntKind.u64.wrap ((i : Nat) : Int) = ((i : Nat) : Int) := by rw [IntKind.wrap_u64]; omega
  have hw2 : IntKind.u64.wrap ((m : Nat) : Int) = ((m : Nat) : Int) := by rw [IntKind.wrap_u64]; omega
  have hw3 : (H : Int) % (m : Int) = (R : Int) := by rw [hP.out]; simp
  have hw5 : IntKind.i64.wrap (R : Int) = (R : Int) := by rw [IntKind.wrap_i64]; omega
  have hm0 : ((m : Int) == 0) = false := by rw [beq_eq_false_iff_ne]; omega
  have hm00 : ¬ (m : Int) = 0 := by omega
  have hm01 : ¬ m = 0 := by omega
  have hw6 : (H : Int).tmod (m : Int) = (R : Int) := by rw [Int.tmod_eq_emod_of_nonneg (by omega), hw3]
  have hw7 : IntKind.u64.wrap (R : Int) = (R : Int) := by rw [IntKind.wrap_u64]; omega
  have hbA : Below w.heap.size w (w.alloc (.cells #[.int .u8 v.k, .int .i64 v.n, .string (St8 v.s)] 30)) := (Below.refl _ _).alloc (Nat.le_refl _) _
  have kF : (w.alloc (.cells #[.int .u8 v.k, .int .i64 v.n, .string (St8 v.s)] 30)).drew.cell? ⟨F, 0, none⟩ = some (.int .i64 (m : Int)) := (h.f.below hbA).cell 0
  have hA := Blk.new w 30 #[.int .u8 v.k, .int .i64 v.n, .string (St8 v.s)]
  have k0 : (w.alloc (.cells #[.int .u8 v.k, .int .i64 v.n, .string (St8 v.s)] 30)).drew.cell? ⟨w.heap.size, 0, none⟩ = some (.int .u8 v.k) := hA.cell 0
  have k1 : (w.alloc (.cells #[.int .u8 v.k, .int .i64 v.n, .string (St8 v.s)] 30)).drew.cell? ⟨w.heap.size, 1, none⟩ = some (.int .i64 v.n) := hA.cell 1
  have k2 : (w.alloc (.cells #[.int .u8 v.k, .int .i64 v.n, .string (St8 v.s)] 30)).drew.cell? ⟨w.heap.size, 2, none⟩ = some (.string (St8 v.s)) := hA.cell 2
  have hbd : Hid (Below w.heap.size w (w.alloc (.cells #[.int .u8 v.k, .int .i64 v.n, .string (St8 v.s)] 30)).drew) := hbA.drew
  clear h hh hc hA hbA
  go_enter Try.func54, Try.ntmps54
  go_wp2_with fail
  go_region_held3 (fun w' => w'.cell? ⟨F, 0, none⟩ = some (.int .i64 (m : Int)) ∧ w'.cell? ⟨w.heap.size, 0, none⟩ = some (.int .u8 v.k) ∧ w'.cell? ⟨w.heap.size, 1, none⟩ = some (.int .i64 v.n) ∧ w'.cell? ⟨w.heap.size, 2, none⟩ = some (.string (St8 v.s)))
    (first | assumption | (refine ⟨?_, ?_, ?_, ?_⟩ <;> assumption))
    (first | (go_at_call 68; refine (HH.out _).mono ?_; rintro e w3 ⟨rfl, hb3⟩; have kF3 := cell_keep hb3 kF; have k03 := cell_keep hb3 k0; have k13 := cell_keep hb3 k1; have k23 := cell_keep hb3 k2))
  go_wp2_with fail
  go_ret
  exact ⟨rfl, hbd.out.trans (hb3.mono hbd.out.size)⟩
end Go.Proofs.Ytghaffafglfdlaa
