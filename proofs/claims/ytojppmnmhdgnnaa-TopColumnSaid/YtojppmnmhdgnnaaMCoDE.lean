/- Walks: runs as bytes: the program's and the reference's. Walks: numbers by their steps, as bytes: the program's and the reference's. Walks: how many bits numbers need, and how many bytes: the program's and the reference's. -/
import Derived.Test.YtojppmnmhdgnnaaMColA
import Derived.Test.YtojppmnmhdgnnaaMOcPT
import Derived.Test.YtojppmnmhdgnnaaMCoMP
import Derived.Test.YtojppmnmhdgnnaaMShelf
import Derived.Laws.BitsAllLaws
namespace Go.Proofs.Ytojppmnmhdgnnaa
set_option linter.unusedVariables false
set_option linter.unusedSimpArgs false
open Go.RowKit

attribute [local go_sem ↓] Go.wp_at_zero Go.wp_at_succ

/-- Bytes of the call's own, and OK. -/
def BytOK (b : List UInt8) (w : World) (e : Ending) (w' : World) : Prop :=
  (∃ A c, e = .returned (.tuple #[.slice A b.length c, .int .i64 0]) ∧ Own w' w.heap.size 5 1 A b.length c (Bs b)) ∧ Below w.heap.size w w'
theorem BytOK.len {b : List UInt8} {w w' : World} {e : Ending} (h : BytOK b w e w') {n : Nat} (hn : b.length = n) :
    (∃ A c, e = .returned (.tuple #[.slice A n c, .int .i64 0]) ∧ Own w' w.heap.size 5 1 A n c (Bs b)) ∧ Below w.heap.size w w' := by
  subst hn
  exact h
theorem numB_le9 {n : Nat} (h : n < 18446744073709551616) : (numB n).length ≤ 9 := numB_len h
theorem runB_le {r : Int × Nat} (h1 : -9223372036854775808 ≤ r.1 ∧ r.1 ≤ 9223372036854775807) (h2 : r.2 < 18446744073709551616) : (runB r).length ≤ 18 := by
  unfold runB
  have a := numB_le9 (zigN_lt h1)
  have b := numB_le9 h2
  rw [List.length_append]
  omega
theorem fmap_le {α : Type} (f : α → List UInt8) (k : Nat) : ∀ l : List α, (∀ x ∈ l, (f x).length ≤ k) → (l.flatMap f).length ≤ l.length * k
  | [], _ => by simp
  | x :: l, h => by
    have h1 := h x (List.mem_cons_self ..)
    have h2 := fmap_le f k l fun y hy => h y (List.mem_cons_of_mem _ hy)
    rw [List.flatMap_cons, List.length_append, List.length_cons, Nat.add_mul]
    omega
/-- What is known of a list's runs. -/
theorem runs_in {l : List Int} (h : ∀ x ∈ l, -9223372036854775808 ≤ x ∧ x ≤ 9223372036854775807) (hl : l.length ≤ 4096) : ∀ r ∈ runsM l, (-9223372036854775808 ≤ r.1 ∧ r.1 ≤ 9223372036854775807) ∧ 1 ≤ r.2 ∧ r.2 ≤ 4096 := fun r hr => by
  have h1 := runsF_many l 0 r hr
  exact ⟨h _ (runsF_mem l 0 r hr), h1.1, by omega⟩
theorem runs_part {R : List (Int × Nat)} (h : ∀ r ∈ R, (-9223372036854775808 ≤ r.1 ∧ r.1 ≤ 9223372036854775807) ∧ 1 ≤ r.2 ∧ r.2 ≤ 4096) (j : Nat) (hj : R.length ≤ 4096) : (numB R.length ++ (R.take j).flatMap runB).length ≤ 100000 := by
  have a := numB_le9 (n := R.length) (by omega)
  have b := fmap_le runB 18 (R.take j) fun r hr => runB_le (h r (List.mem_of_mem_take hr)).1 (by have := (h r (List.mem_of_mem_take hr)).2.2; omega)
  have c : (R.take j).length ≤ 4096 := by rw [List.length_take]; omega
  rw [List.length_append]
  omega
theorem runs_snoc {R : List (Int × Nat)} {j : Nat} (hj : j < R.length) (N : List UInt8) : N ++ (R.take (j + 1)).flatMap runB = (N ++ (R.take j).flatMap runB) ++ numB (zigN R[j].1) ++ numB R[j].2 := by
  rw [List.take_succ_eq_append_getElem hj, List.flatMap_append]
  simp [runB]

set_option maxHeartbeats 8000000 in
set_option maxRecDepth 100000 in
theorem runsput_any (l : List Int) (n c : Nat) (A : Option Addr) (w : World) (hl : l.length = n) (hr : Rd w A (icl l)) (hn : n ≤ 4096) (hin : ∀ x ∈ l, -9223372036854775808 ≤ x ∧ x ≤ 9223372036854775807) :
    Calls Try.prog 29 #[.slice A n c] w fun e w' => BytOK (runsB l) w e w' := by
  have hof := Lib.hid (runsof_any l n c A w hl hr (by omega))
  have Hin := Lib.hid (runs_in hin (by omega))
  have hRl := runsF_len l 0
  have hres : Hid (runsB l = numB (runsM l).length ++ (runsM l).flatMap runB) := rfl
  change (runsM l).length ≤ _ at hRl
  rw [hl] at hRl
  generalize runsM l = R at *
  generalize runsB l = Z at *
  obtain ⟨m, hm⟩ : ∃ m, R.length = m := ⟨_, rfl⟩
  rw [hm] at hRl
  have Hm := Lib.hid hm
  have hof2 : Hid (Calls Try.prog 57 #[.slice A n c] w fun e w' => (∃ A c, e = .returned (.slice A m c) ∧ Own w' w.heap.size 100 2 A m c (runc R)) ∧ Below w.heap.size w w') := by
    show Calls _ _ _ _ _
    rw [← hm]
    exact hof.out
  have hN : Hid (∀ j, (numB m ++ (R.take j).flatMap runB).length ≤ 100000) := fun j => by
    have := runs_part Hin.out j (by omega)
    rw [hm] at this
    exact this
  have hwm : IntKind.u64.wrap (m : Int) = (m : Int) := by rw [IntKind.wrap_u64]; omega
  clear hl hr hin hm hof
  go_enter Try.func29, Try.ntmps29
  go_wp2_with fail
  refine hof2.out.mono ?_
  rintro e w1 ⟨⟨A1, c1, rfl, ho1⟩, hb1⟩
  have Hr1 := Lib.hid ho1.rd
  have Hb1 := Lib.hid hb1
  clear hof2 ho1 hb1
  go_wp2_with fail
  refine (onum_any [] 0 0 m none w1 rfl (Rd.nil _ _) (by omega) (by omega)).mono ?_
  rintro e w2 ⟨A2, c2, rfl, ho2, hb2⟩
  rw [List.nil_append, Nat.zero_add] at ho2
  rw [Nat.zero_add]
  have Hb2 := Lib.hid (Hb1.out.trans (hb2.mono Hb1.out.size))
  have Hr2 := Lib.hid (Hr1.out.below hb2)
  have Ho2 := Lib.hid (ho2.lower Hb1.out.size)
  clear ho2 hb2 Hr1
  go_wp2_with fail
  go_loopw [5, 19] (fun vb vi wr => ∃ (j bl c' : Nat) (A' : Option Addr), vb = .slice A' bl c' ∧ vi = .int .i64 (j : Int) ∧ j ≤ m ∧ Hid ((numB m ++ (R.take j).flatMap runB).length = bl) ∧ Hid (Own wr w.heap.size 5 1 A' bl c' (Bs (numB m ++ (R.take j).flatMap runB))) ∧ Hid (Below w2.heap.size w2 wr)) (fun _ vi _ => m - (intOf vi).toNat)
  case atStart => exact ⟨0, _, c2, A2, rfl, rfl, by omega, (by show _ = _; simp), (by show Own _ _ _ _ _ _ _ _; simpa using Ho2.out), Below.refl _ _⟩
  case round =>
    obtain ⟨j, bl, c', A', rfl, rfl, hj, Hbl, Ho, Hb⟩ := hrel
    by_cases hjn : j < m
    · have hjl : j < R.length := by rw [Hm.out]; exact hjn
      have hjI : (j : Int) < (m : Int) := by omega
      have hj0 : (0 : Int) ≤ (j : Int) := by omega
      obtain ⟨b, o, rfl, c0, c1⟩ := (Hr2.out.below Hb.out).run hjl
      have hi := Hin.out _ (List.getElem_mem hjl)
      have Hsn := Lib.hid (runs_snoc hjl (numB m))
      have hbl := hN.out j
      rw [Hbl.out] at hbl
      generalize R[j] = r at *
      obtain ⟨x, k⟩ := r
      dsimp only at c0 c1 hi Hsn
      have hz9 := numB_le9 (zigN_lt hi.1)
      have hk9 := numB_le9 (n := k) (by omega)
      generalize numB m ++ (R.take j).flatMap runB = B0 at *
      have hwk : IntKind.u64.wrap (k : Int) = (k : Int) := by rw [IntKind.wrap_u64]; omega
      have hb0 : Below wr.heap.size wr (wr.alloc (.cells #[.int .i64 x, .int .i64 (k : Int)] 100)) := (Below.refl _ _).alloc (Nat.le_refl _) _
      have Hb3 := Lib.hid (Hb.out.trans (hb0.mono Hb.out.size))
      have hbk := Blk.new wr 100 #[.int .i64 x, .int .i64 (k : Int)]
      have Hrd3 := Lib.hid (Ho.out.rd.below hb0)
      have hsz3 : wr.heap.size < (wr.alloc (.cells #[.int .i64 x, .int .i64 (k : Int)] 100)).heap.size := by rw [World.size_alloc]; omega
      have Hk0 : Hid (∀ w', Below (wr.alloc (.cells #[.int .i64 x, .int .i64 (k : Int)] 100)).heap.size (wr.alloc (.cells #[.int .i64 x, .int .i64 (k : Int)] 100)) w' → w'.cell? ⟨wr.heap.size, 0, none⟩ = some (.int .i64 x) ∧ w'.cell? ⟨wr.heap.size, 0 + 1, none⟩ = some (.int .i64 (k : Int))) := fun w' h => by
        refine ⟨(h.cell (p := ⟨wr.heap.size, 0, none⟩) hsz3).trans ?_, (h.cell (p := ⟨wr.heap.size, 0 + 1, none⟩) hsz3).trans ?_⟩
        · rw [hbk.cell 0]; rfl
        · rw [hbk.cell 1]; rfl
      obtain ⟨q0, q1⟩ := Hk0.out _ (Below.refl _ _)
      have Hc := Lib.hid hi.1
      have Hw : Hid (w.heap.size ≤ w2.heap.size) := Hb2.out.size
      clear hbk hjl Ho
      obtain ⟨W0, hy⟩ : ∃ y, wr.alloc (.cells #[.int .i64 x, .int .i64 (k : Int)] 100) = y := ⟨_, rfl⟩
      rw [hy] at hb0 Hb3 Hrd3 hsz3 Hk0 q0 q1
      generalize hg : wr.heap.size = g at *
      go_wp2_with fail
      refine wp_region_held_drew (S := fun w' => w'.cell? ⟨g, 0, none⟩ = some (.int .i64 x) ∧ w'.cell? ⟨g, 0 + 1, none⟩ = some (.int .i64 (k : Int))) (by kernel_rfl) ⟨q0, q1⟩ (fun hHeld => ?_)
      (refine wpAnyH_take (i := 0) (oi := ?oi0_1) (v := ?vv0_1) ?hi0_1 (by kernel_rfl) (by kernel_rfl) (by kernel_rfl) ?hQ0_1 ?hy0_1 (by assumption) ?rest0_1; (case hi0_1 => ((simp only [List.getElem?_toArray, List.getElem?_cons_zero]); rfl)); (case hQ0_1 => exact (fun _ _ _ h => h)); (case hy0_1 => (refine Or.inl ⟨by rfl, ?_⟩; intro w hSw; (try dsimp only at hSw); go_simp; try (with_reducible rfl))); (try simp only [Act.put, List.setIfInBounds_toArray, List.set_cons_zero, List.set_cons_succ]))
      (refine wpAnyH_take (i := 1) (oi := ?oi1_2) (v := ?vv1_2) ?hi1_2 (by kernel_rfl) (by kernel_rfl) (by kernel_rfl) ?hQ1_2 ?hy1_2 (by assumption) ?rest1_2; (case hi1_2 => ((simp only [List.getElem?_toArray, List.getElem?_cons_succ, List.getElem?_cons_zero]); rfl)); (case hQ1_2 => exact (fun _ _ _ h => h)); (case hy1_2 => (refine Or.inl ⟨by rfl, ?_⟩; intro w hSw; (try dsimp only at hSw); go_simp; try (with_reducible rfl))); (try simp only [Act.put, List.setIfInBounds_toArray, List.set_cons_zero, List.set_cons_succ]))
      (refine wpAnyH_take (i := 2) (oi := ?oi2_3) (v := ?vv2_3) ?hi2_3 (by kernel_rfl) (by kernel_rfl) (by kernel_rfl) ?hQ2_3 ?hy2_3 (by assumption) ?rest2_3; (case hi2_3 => ((simp only [List.getElem?_toArray, List.getElem?_cons_succ, List.getElem?_cons_zero]); rfl)); (case hQ2_3 => exact (fun _ _ _ h => h)); (case hy2_3 => (refine Or.inl ⟨by rfl, ?_⟩; intro w hSw; (try dsimp only at hSw); go_simp; try (with_reducible rfl))); (try simp only [Act.put, List.setIfInBounds_toArray, List.set_cons_zero, List.set_cons_succ]))
      (refine wpAnyH_take (i := 4) (oi := ?oi4_4) (v := ?vv4_4) ?hi4_4 (by kernel_rfl) (by kernel_rfl) (by kernel_rfl) ?hQ4_4 ?hy4_4 (by assumption) ?rest4_4; (case hi4_4 => ((simp only [List.getElem?_toArray, List.getElem?_cons_succ, List.getElem?_cons_zero]); rfl)); (case hQ4_4 => exact (fun _ _ _ h => h)); (case hy4_4 => (refine Or.inl ⟨by rfl, ?_⟩; intro w hSw; (try dsimp only at hSw); go_simp; try (with_reducible rfl))); (try simp only [Act.put, List.setIfInBounds_toArray, List.set_cons_zero, List.set_cons_succ]))
      (refine wpAnyH_take (i := 5) (oi := ?oi5_5) (v := ?vv5_5) ?hi5_5 (by kernel_rfl) (by kernel_rfl) (by kernel_rfl) ?hQ5_5 ?hy5_5 (by assumption) ?rest5_5; (case hi5_5 => ((simp only [List.getElem?_toArray, List.getElem?_cons_succ, List.getElem?_cons_zero]); rfl)); (case hQ5_5 => exact (fun _ _ _ h => h)); (case hy5_5 => (refine Or.inl ⟨by rfl, ?_⟩; intro w hSw; (try dsimp only at hSw); go_simp; try (with_reducible rfl))); (try simp only [Act.put, List.setIfInBounds_toArray, List.set_cons_zero, List.set_cons_succ]))
      (refine wpAnyH_take (i := 6) (oi := ?oi6_6) (v := ?vv6_6) ?hi6_6 (by kernel_rfl) (by kernel_rfl) (by kernel_rfl) ?hQ6_6 ?hy6_6 (by assumption) ?rest6_6; (case hi6_6 => ((simp only [List.getElem?_toArray, List.getElem?_cons_succ, List.getElem?_cons_zero]); rfl)); (case hQ6_6 => exact (fun _ _ _ h => h)); (case hy6_6 => (refine Or.inl ⟨by rfl, ?_⟩; intro w hSw; (try dsimp only at hSw); go_simp; try (with_reducible rfl))); (try simp only [Act.put, List.setIfInBounds_toArray, List.set_cons_zero, List.set_cons_succ]))
      (refine wpAnyH_ready (rs := [3]) (by kernel_rfl) (by simp) ?_; refine AllReadyH.cons (o := ?oc3_7) ?ho3_7 (fun K hK => ?_) AllReadyH.nil; (case ho3_7 => ((simp only [List.getElem?_toArray, List.getElem?_cons_succ, List.getElem?_cons_zero]); rfl)); go_simp)
      refine (int_any B0 bl c' x A' _ Hbl.out (Hrd3.out.drewN _) (by omega) Hc.out).mono ?_
      rintro e w5 ⟨A5, c5, rfl, ho5, hb5⟩
      have Hrd5 := Lib.hid ho5.rd
      have Hb5 := Lib.hid ((below_drewN' Hb3.out _).trans (hb5.mono (below_drewN' Hb3.out _).size))
      have Hln5 : Hid ((B0 ++ numB (zigN x)).length = bl + (numB (zigN x)).length) := by show _ = _; rw [List.length_append, Hbl.out]
      have Hb05 := Lib.hid ((below_drewN' (Below.refl W0.heap.size W0) _).trans hb5)
      have HS5 := Lib.hid (Hk0.out _ Hb05.out)
      clear ho5 hb5
      go_wp2_with fail
      refine hK.out _ _ HS5.out (fun hHeld2 => ?_)
      clear hK
      (try simp only [Act.put, List.setIfInBounds_toArray, List.set_cons_zero, List.set_cons_succ])
      (refine wpAnyH_ready (rs := [7]) (by kernel_rfl) (by simp) ?_; refine AllReadyH.cons (o := ?oc7_8) ?ho7_8 (fun K hK => ?_) AllReadyH.nil; (case ho7_8 => ((simp only [List.getElem?_toArray, List.getElem?_cons_succ, List.getElem?_cons_zero]); rfl)); go_simp)
      refine (onum_any (B0 ++ numB (zigN x)) (bl + (numB (zigN x)).length) c5 k A5 w5 Hln5.out Hrd5.out (by omega) (by omega)).mono ?_
      rintro e w6 ⟨A6, c6, rfl, ho6, hb6⟩
      rw [← Hsn.out] at ho6
      have Hb6 := Lib.hid (Hb5.out.trans (hb6.mono Hb5.out.size))
      have HO6 := Lib.hid (ho6.lower (Nat.le_trans Hw.out Hb5.out.size))
      have HS6 := Lib.hid (Hk0.out _ (Hb05.out.trans (hb6.mono Hb05.out.size)))
      have Hl6 : Hid ((numB m ++ (R.take (j + 1)).flatMap runB).length = bl + (numB (zigN x)).length + (numB k).length) := by
        show _ = _
        rw [Hsn.out, List.length_append, Hln5.out]
      clear ho6 hb6 Hrd5
      go_wp2_with fail
      refine hK.out _ _ HS6.out (fun hHeld3 => ?_)
      clear hK
      (try simp only [Act.put, List.setIfInBounds_toArray, List.set_cons_zero, List.set_cons_succ])
      (refine wpAnyH_take (i := 8) (oi := ?oi8_9) (v := ?vv8_9) ?hi8_9 (by kernel_rfl) (by kernel_rfl) (by kernel_rfl) ?hQ8_9 ?hy8_9 (by assumption) ?rest8_9; (case hi8_9 => ((simp only [List.getElem?_toArray, List.getElem?_cons_succ, List.getElem?_cons_zero]); rfl)); (case hQ8_9 => exact (fun _ _ _ h => h)); (case hy8_9 => (refine Or.inl ⟨by rfl, ?_⟩; intro w hSw; (try dsimp only at hSw); go_simp; try (with_reducible rfl))); (try simp only [Act.put, List.setIfInBounds_toArray, List.set_cons_zero, List.set_cons_succ]))
      refine wpAnyH_done (by kernel_rfl) ?_ _
      clear hHeld hHeld2 hHeld3
      go_wp2_with fail
      go_roundw
      case rel => exact ⟨j + 1, _, c6, A6, rfl, by go_num, by omega, Hl6, HO6, Hb6⟩
      case measure => simp only [intOf, Int.toNat_natCast]; omega
    · obtain rfl : j = m := by omega
      have hta : Hid (Z = numB j ++ (R.take j).flatMap runB) := by
        show _ = _
        rw [hres.out, List.take_of_length_le (by rw [Hm.out]; exact Nat.le_refl _), Hm.out]
      have Hb9 := Lib.hid (Hb2.out.trans (Hb.out.mono Hb2.out.size))
      rw [← hta.out] at Hbl Ho
      rw [← Hbl.out] at Ho ⊢
      clear Hb
      go_wp2_with fail
      go_ret2
      exact ⟨⟨_, _, rfl, Ho.out⟩, Hb9.out⟩

set_option maxHeartbeats 8000000 in
set_option maxRecDepth 100000 in
theorem rrunsput_any (l : List Int) (n c : Nat) (A : Option Addr) (w : World) (hl : l.length = n) (hr : Rd w A (icl l)) (hn : n ≤ 4096) (hin : ∀ x ∈ l, -9223372036854775808 ≤ x ∧ x ≤ 9223372036854775807) :
    Calls Try.prog 49 #[.slice A n c] w fun e w' => BytOK (runsB l) w e w' := by
  have hof := Lib.hid (rrunsof_any l n c A w hl hr (by omega))
  have Hin := Lib.hid (runs_in hin (by omega))
  have hRl := runsF_len l 0
  have hres : Hid (runsB l = numB (runsM l).length ++ (runsM l).flatMap runB) := rfl
  change (runsM l).length ≤ _ at hRl
  rw [hl] at hRl
  generalize runsM l = R at *
  generalize runsB l = Z at *
  obtain ⟨m, hm⟩ : ∃ m, R.length = m := ⟨_, rfl⟩
  rw [hm] at hRl
  have Hm := Lib.hid hm
  have hof2 : Hid (Calls Try.prog 80 #[.slice A n c] w fun e w' => (∃ A c, e = .returned (.slice A m c) ∧ Own w' w.heap.size 100 2 A m c (runc R)) ∧ Below w.heap.size w w') := by
    show Calls _ _ _ _ _
    rw [← hm]
    exact hof.out
  have hN : Hid (∀ j, (numB m ++ (R.take j).flatMap runB).length ≤ 100000) := fun j => by
    have := runs_part Hin.out j (by omega)
    rw [hm] at this
    exact this
  have hwm : IntKind.u64.wrap (m : Int) = (m : Int) := by rw [IntKind.wrap_u64]; omega
  clear hl hr hin hm hof
  go_enter Try.func49, Try.ntmps49
  go_wp2_with fail
  refine hof2.out.mono ?_
  rintro e w1 ⟨⟨A1, c1, rfl, ho1⟩, hb1⟩
  have Hr1 := Lib.hid ho1.rd
  have Hb1 := Lib.hid hb1
  clear hof2 ho1 hb1
  go_wp2_with fail
  refine (rnum_any [] 0 0 m none w1 rfl (Rd.nil _ _) (by omega) (by omega)).mono ?_
  rintro e w2 ⟨A2, c2, rfl, ho2, hb2⟩
  rw [List.nil_append, Nat.zero_add] at ho2
  rw [Nat.zero_add]
  have Hb2 := Lib.hid (Hb1.out.trans (hb2.mono Hb1.out.size))
  have Hr2 := Lib.hid (Hr1.out.below hb2)
  have Ho2 := Lib.hid (ho2.lower Hb1.out.size)
  clear ho2 hb2 Hr1
  go_wp2_with fail
  go_loopw [5, 6] (fun vb vi wr => ∃ (j bl c' : Nat) (A' : Option Addr), vb = .slice A' bl c' ∧ vi = .int .i64 (j : Int) ∧ j ≤ m ∧ Hid ((numB m ++ (R.take j).flatMap runB).length = bl) ∧ Hid (Own wr w.heap.size 5 1 A' bl c' (Bs (numB m ++ (R.take j).flatMap runB))) ∧ Hid (Below w2.heap.size w2 wr)) (fun _ vi _ => m - (intOf vi).toNat)
  case atStart => exact ⟨0, _, c2, A2, rfl, rfl, by omega, (by show _ = _; simp), (by show Own _ _ _ _ _ _ _ _; simpa using Ho2.out), Below.refl _ _⟩
  case round =>
    obtain ⟨j, bl, c', A', rfl, rfl, hj, Hbl, Ho, Hb⟩ := hrel
    by_cases hjn : j < m
    · have hjl : j < R.length := by rw [Hm.out]; exact hjn
      have hjI : (j : Int) < (m : Int) := by omega
      have hj0 : (0 : Int) ≤ (j : Int) := by omega
      obtain ⟨b, o, rfl, c0, c1⟩ := (Hr2.out.below Hb.out).run hjl
      have hi := Hin.out _ (List.getElem_mem hjl)
      have Hsn := Lib.hid (runs_snoc hjl (numB m))
      have hbl := hN.out j
      rw [Hbl.out] at hbl
      have Hcell : Hid (∀ w', Below w2.heap.size w2 w' → w'.cell? ⟨b, o + j * 2 + 1, none⟩ = some (.int .i64 (R[j].2 : Int))) := fun w' h => by
        obtain ⟨b', o', e, _, d1⟩ := (Hr2.out.below h).run hjl
        cases e
        exact d1
      generalize R[j] = r at *
      obtain ⟨x, k⟩ := r
      dsimp only at c0 c1 hi Hsn Hcell
      have hz9 := numB_le9 (zigN_lt hi.1)
      have hk9 := numB_le9 (n := k) (by omega)
      generalize numB m ++ (R.take j).flatMap runB = B0 at *
      have hwk : IntKind.u64.wrap (k : Int) = (k : Int) := by rw [IntKind.wrap_u64]; omega
      have Hc := Lib.hid hi.1
      have Hrd := Lib.hid Ho.out.rd
      have Hw : Hid (w.heap.size ≤ w2.heap.size) := Hb2.out.size
      clear hjl Ho c1
      go_wp2_with fail
      refine (rint_any B0 bl c' x A' wr Hbl.out Hrd.out (by omega) Hc.out).mono ?_
      rintro e w5 ⟨A5, c5, rfl, ho5, hb5⟩
      have Hrd5 := Lib.hid ho5.rd
      have Hb5 := Lib.hid (Hb.out.trans (hb5.mono Hb.out.size))
      have Hln5 : Hid ((B0 ++ numB (zigN x)).length = bl + (numB (zigN x)).length) := by show _ = _; rw [List.length_append, Hbl.out]
      have c5' := Hcell.out w5 Hb5.out
      clear ho5 hb5 c0
      go_wp2_with fail
      refine (rnum_any (B0 ++ numB (zigN x)) (bl + (numB (zigN x)).length) c5 k A5 w5 Hln5.out Hrd5.out (by omega) (by omega)).mono ?_
      rintro e w6 ⟨A6, c6, rfl, ho6, hb6⟩
      rw [← Hsn.out] at ho6
      have Hb6 := Lib.hid (Hb5.out.trans (hb6.mono Hb5.out.size))
      have HO6 := Lib.hid (ho6.lower (Nat.le_trans Hw.out Hb5.out.size))
      have Hl6 : Hid ((numB m ++ (R.take (j + 1)).flatMap runB).length = bl + (numB (zigN x)).length + (numB k).length) := by
        show _ = _
        rw [Hsn.out, List.length_append, Hln5.out]
      clear ho6 hb6 Hrd5 c5'
      go_wp2_with fail
      go_roundw
      case rel => exact ⟨j + 1, _, c6, A6, rfl, by go_num, by omega, Hl6, HO6, Hb6⟩
      case measure => simp only [intOf, Int.toNat_natCast]; omega
    · obtain rfl : j = m := by omega
      have hta : Hid (Z = numB j ++ (R.take j).flatMap runB) := by
        show _ = _
        rw [hres.out, List.take_of_length_le (by rw [Hm.out]; exact Nat.le_refl _), Hm.out]
      have Hb9 := Lib.hid (Hb2.out.trans (Hb.out.mono Hb2.out.size))
      rw [← hta.out] at Hbl Ho
      rw [← Hbl.out] at Ho ⊢
      clear Hb
      go_wp2_with fail
      go_ret2
      exact ⟨⟨_, _, rfl, Ho.out⟩, Hb9.out⟩
end Go.Proofs.Ytojppmnmhdgnnaa
namespace Go.Proofs.Ytojppmnmhdgnnaa
set_option linter.unusedVariables false
set_option linter.unusedSimpArgs false
open Go.RowKit

attribute [local go_sem ↓] Go.wp_at_zero Go.wp_at_succ

def stepV (a b : Int) : Int := if stepOk a b = true then b - a else 0
def stepE (a b : Int) : Int := if stepOk a b = true then 0 else 8
theorem step_yes {a b : Int} (h : -9223372036854775808 ≤ b - a ∧ b - a ≤ 9223372036854775807) : stepOk a b = true := decide_eq_true h
theorem step_no {a b : Int} (h : ¬ (-9223372036854775808 ≤ b - a ∧ b - a ≤ 9223372036854775807)) : stepOk a b = false := decide_eq_false h

set_option maxRecDepth 100000 in
theorem dstep_any (a b : Int) (w : World) (ha : -9223372036854775808 ≤ a ∧ a ≤ 9223372036854775807) (hb : -9223372036854775808 ≤ b ∧ b ≤ 9223372036854775807) :
    Calls Try.prog 88 #[.int .i64 a, .int .i64 b] w fun e w' => e = .returned (.tuple #[.int .i64 (stepV a b), .int .i64 (stepE a b)]) ∧ w = w' := by
  unfold stepV stepE
  by_cases h : -9223372036854775808 ≤ b - a ∧ b - a ≤ 9223372036854775807
  · have hs := step_yes h
    rw [hs, if_pos rfl, if_pos rfl]
    have hw : IntKind.i64.wrap (b - a) = b - a := by rw [IntKind.wrap_i64]; omega
    by_cases hlt : b < a
    · have h1 : b - a < 0 := by omega
      have d1 : decide (b - a < 0) = true := decide_eq_true h1
      have d2 : decide (b < a) = true := decide_eq_true hlt
      clear hs h ha hb
      go_enter Try.func88, Try.ntmps88
      go_wp2_with fail
      go_ret2
      exact ⟨rfl, rfl⟩
    · have h1 : ¬ b - a < 0 := by omega
      have d1 : decide (b - a < 0) = false := decide_eq_false h1
      have d2 : decide (b < a) = false := decide_eq_false hlt
      clear hs h ha hb
      go_enter Try.func88, Try.ntmps88
      go_wp2_with fail
      go_ret2
      exact ⟨rfl, rfl⟩
  · have hs := step_no h
    rw [hs, if_neg (by decide), if_neg (by decide)]
    obtain ⟨n, hn⟩ : ∃ n, IntKind.i64.wrap (b - a) = n := ⟨_, rfl⟩
    have hn2 := hn
    rw [IntKind.wrap_i64] at hn2
    by_cases hlt : b < a
    · have h1 : ¬ n < 0 := by omega
      have d1 : decide (n < 0) = false := decide_eq_false h1
      have d2 : decide (b < a) = true := decide_eq_true hlt
      clear hs h ha hb hn2
      go_enter Try.func88, Try.ntmps88
      go_wp2_with fail
      go_ret2
      exact ⟨rfl, rfl⟩
    · have h1 : n < 0 := by omega
      have d1 : decide (n < 0) = true := decide_eq_true h1
      have d2 : decide (b < a) = false := decide_eq_false hlt
      clear hs h ha hb hn2
      go_enter Try.func88, Try.ntmps88
      go_wp2_with fail
      go_ret2
      exact ⟨rfl, rfl⟩

set_option maxRecDepth 100000 in
theorem rdstep_any (a b : Int) (w : World) (ha : -9223372036854775808 ≤ a ∧ a ≤ 9223372036854775807) (hb : -9223372036854775808 ≤ b ∧ b ≤ 9223372036854775807) :
    Calls Try.prog 98 #[.int .i64 a, .int .i64 b] w fun e w' => e = .returned (.tuple #[.int .i64 (stepV a b), .int .i64 (stepE a b)]) ∧ ∃ q, w' = w.drewN q := by
  unfold stepV stepE
  by_cases h0 : 0 ≤ a
  · by_cases h1 : b < 0
    · by_cases h2 : b < -9223372036854775808 + a
      · have hs := step_no (a := a) (b := b) (by omega)
        rw [hs, if_neg (by decide), if_neg (by decide)]
        have d0 : decide (0 ≤ a) = true := decide_eq_true (by omega)
        have d1 : decide (b < 0) = true := decide_eq_true (by omega)
        have d2 : decide (b < -9223372036854775808 + a) = true := decide_eq_true (by omega)
        have d3 : decide (a < 0) = false := decide_eq_false (by omega)
        have hw1 : IntKind.i64.wrap (-9223372036854775808 + a) = -9223372036854775808 + a := by rw [IntKind.wrap_i64]; omega
        clear hs ha hb
        go_enter Try.func98, Try.ntmps98
        go_wp2_with fail
        go_ret2
        exact ⟨rfl, 0, rfl⟩
      · have hs := step_yes (a := a) (b := b) (by omega)
        rw [hs, if_pos rfl, if_pos rfl]
        have hw : IntKind.i64.wrap (b - a) = b - a := by rw [IntKind.wrap_i64]; omega
        have d0 : decide (0 ≤ a) = true := decide_eq_true (by omega)
        have d1 : decide (b < 0) = true := decide_eq_true (by omega)
        have d2 : decide (b < -9223372036854775808 + a) = false := decide_eq_false (by omega)
        have d3 : decide (a < 0) = false := decide_eq_false (by omega)
        have hw1 : IntKind.i64.wrap (-9223372036854775808 + a) = -9223372036854775808 + a := by rw [IntKind.wrap_i64]; omega
        clear hs ha hb
        go_enter Try.func98, Try.ntmps98
        go_wp2_with fail
        go_ret2
        exact ⟨rfl, 0, rfl⟩
    · have hs := step_yes (a := a) (b := b) (by omega)
      rw [hs, if_pos rfl, if_pos rfl]
      have hw : IntKind.i64.wrap (b - a) = b - a := by rw [IntKind.wrap_i64]; omega
      have d0 : decide (0 ≤ a) = true := decide_eq_true (by omega)
      have d1 : decide (b < 0) = false := decide_eq_false (by omega)
      have d3 : decide (a < 0) = false := decide_eq_false (by omega)
      clear hs ha hb
      go_enter Try.func98, Try.ntmps98
      go_wp2_with fail
      go_ret2
      exact ⟨rfl, 0, rfl⟩
  · by_cases h1 : 0 ≤ b
    · by_cases h2 : 9223372036854775807 + a < b
      · have hs := step_no (a := a) (b := b) (by omega)
        rw [hs, if_neg (by decide), if_neg (by decide)]
        have d0 : decide (0 ≤ a) = false := decide_eq_false (by omega)
        have d1 : decide (0 ≤ b) = true := decide_eq_true (by omega)
        have d2 : decide (9223372036854775807 + a < b) = true := decide_eq_true (by omega)
        have d3 : decide (a < 0) = true := decide_eq_true (by omega)
        have hw2 : IntKind.i64.wrap (9223372036854775807 + a) = 9223372036854775807 + a := by rw [IntKind.wrap_i64]; omega
        clear hs ha hb
        go_enter Try.func98, Try.ntmps98
        go_wp2_with fail
        go_ret2
        exact ⟨rfl, 0, rfl⟩
      · have hs := step_yes (a := a) (b := b) (by omega)
        rw [hs, if_pos rfl, if_pos rfl]
        have hw : IntKind.i64.wrap (b - a) = b - a := by rw [IntKind.wrap_i64]; omega
        have d0 : decide (0 ≤ a) = false := decide_eq_false (by omega)
        have d1 : decide (0 ≤ b) = true := decide_eq_true (by omega)
        have d2 : decide (9223372036854775807 + a < b) = false := decide_eq_false (by omega)
        have d3 : decide (a < 0) = true := decide_eq_true (by omega)
        have hw2 : IntKind.i64.wrap (9223372036854775807 + a) = 9223372036854775807 + a := by rw [IntKind.wrap_i64]; omega
        clear hs ha hb
        go_enter Try.func98, Try.ntmps98
        go_wp2_with fail
        go_ret2
        exact ⟨rfl, 0, rfl⟩
    · have hs := step_yes (a := a) (b := b) (by omega)
      rw [hs, if_pos rfl, if_pos rfl]
      have hw : IntKind.i64.wrap (b - a) = b - a := by rw [IntKind.wrap_i64]; omega
      have d0 : decide (0 ≤ a) = false := decide_eq_false (by omega)
      have d1 : decide (0 ≤ b) = false := decide_eq_false (by omega)
      have d3 : decide (a < 0) = true := decide_eq_true (by omega)
      clear hs ha hb
      go_enter Try.func98, Try.ntmps98
      go_wp2_with fail
      go_ret2
      exact ⟨rfl, 0, rfl⟩

/-- How Put ends. -/
def DelOK (l : List Int) (w : World) (e : Ending) (w' : World) : Prop :=
  (deltaB l = none ∧ e = .returned (.tuple #[.slice none 0 0, .int .i64 8]) ∧ Below w.heap.size w w') ∨ ∃ b, deltaB l = some b ∧ BytOK b w e w'
theorem steps_map (S : List Int) (x : Int) (o : Option (List Int)) : (o.map (x :: ·)).map (S ++ ·) = o.map ((S ++ [x]) ++ ·) := by
  cases o <;> simp
theorem steps_next {l : List Int} {i : Nat} (hi : i < l.length) (last : Int) (S : List Int) : (stepsM last (l.drop i)).map (S ++ ·) = if stepOk last l[i] = true then (stepsM l[i] (l.drop (i + 1))).map ((S ++ [l[i] - last]) ++ ·) else none := by
  rw [List.drop_eq_getElem_cons hi, stepsM]
  split
  · exact steps_map _ _ _
  · rfl
theorem steps_part (S : List Int) (m : Nat) (hm : m ≤ 4096) (hl : S.length ≤ m) (hin : ∀ x ∈ S, -9223372036854775808 ≤ x ∧ x ≤ 9223372036854775807) : (numB m ++ S.flatMap fun n => numB (zigN n)).length ≤ 100000 := by
  have a := numB_le9 (n := m) (by omega)
  have b := fmap_le (fun n => numB (zigN n)) 9 S fun x hx => numB_le9 (zigN_lt (hin x hx))
  rw [List.length_append]
  omega
theorem steps_snoc (N : List UInt8) (S : List Int) (x : Int) : N ++ ((S ++ [x]).flatMap fun n => numB (zigN n)) = (N ++ S.flatMap fun n => numB (zigN n)) ++ numB (zigN x) := by
  rw [List.flatMap_append]
  simp

set_option maxHeartbeats 8000000 in
set_option maxRecDepth 100000 in
theorem deltaput_any (l : List Int) (n c : Nat) (A : Option Addr) (w : World) (hl : l.length = n) (hr : Rd w A (icl l)) (hn : n ≤ 4096) (hin : ∀ x ∈ l, -9223372036854775808 ≤ x ∧ x ≤ 9223372036854775807) :
    Calls Try.prog 54 #[.slice A n c] w fun e w' => DelOK l w e w' := by
  have Hl := Lib.hid hl
  have Hr := Lib.hid hr
  have Hin := Lib.hid hin
  have hres : Hid (deltaB l = (stepsM 0 l).map fun s => numB n ++ s.flatMap fun n => numB (zigN n)) := by show _ = _; unfold deltaB; rw [hl]
  have hR0 : Hid (stepsM 0 l = (stepsM 0 (l.drop 0)).map ([] ++ ·)) := by show _ = _; rw [List.drop_zero]; cases stepsM 0 l <;> simp
  obtain ⟨R, hR⟩ : ∃ R, stepsM 0 l = R := ⟨_, rfl⟩
  rw [hR] at hres hR0
  have hwn : IntKind.u64.wrap (n : Int) = (n : Int) := by rw [IntKind.wrap_u64]; omega
  clear hl hr hin hR
  go_enter Try.func54, Try.ntmps54
  go_wp2_with fail
  refine (onum_any [] 0 0 n none w rfl (Rd.nil _ _) (by omega) (by omega)).mono ?_
  rintro e w2 ⟨A2, c2, rfl, ho2, hb2⟩
  rw [List.nil_append, Nat.zero_add] at ho2
  rw [Nat.zero_add]
  have Hb2 := Lib.hid hb2
  have Ho2 := Lib.hid ho2
  clear ho2 hb2
  go_wp2_with fail
  go_loopw [4, 5, 19] (fun vb vl vi wr => ∃ (j bl c' : Nat) (A' : Option Addr) (last : Int) (S : List Int), vb = .slice A' bl c' ∧ vl = .int .i64 last ∧ vi = .int .i64 (j : Int) ∧ j ≤ n ∧ (-9223372036854775808 ≤ last ∧ last ≤ 9223372036854775807) ∧ Hid (S.length = j) ∧ Hid (∀ x ∈ S, -9223372036854775808 ≤ x ∧ x ≤ 9223372036854775807) ∧ Hid (R = (stepsM last (l.drop j)).map (S ++ ·)) ∧ Hid ((numB n ++ S.flatMap fun n => numB (zigN n)).length = bl) ∧ Hid (Own wr w.heap.size 5 1 A' bl c' (Bs (numB n ++ S.flatMap fun n => numB (zigN n)))) ∧ Hid (Below w.heap.size w wr)) (fun _ _ vi _ => n - (intOf vi).toNat)
  case atStart => exact ⟨0, _, c2, A2, 0, [], rfl, rfl, rfl, by omega, by omega, rfl, (fun x hx => by simp at hx), hR0, (by show _ = _; simp), (by show Own _ _ _ _ _ _ _ _; simpa using Ho2.out), Hb2⟩
  case round =>
    obtain ⟨j, bl, c', A', last, S, rfl, rfl, rfl, hj, hlast, HS, HSin, HR, Hbl, Ho, Hb⟩ := hrel
    by_cases hjn : j < n
    · have hjl : j < l.length := by rw [Hl.out]; exact hjn
      have hjI : (j : Int) < (n : Int) := by omega
      have hj0 : (0 : Int) ≤ (j : Int) := by omega
      obtain ⟨b, o, rfl, c0⟩ := icl_get (Hr.out.below Hb.out) hjl
      have Hcell : Hid (∀ w', Below w.heap.size w w' → w'.cell? ⟨b, o + j, none⟩ = some (.int .i64 l[j])) := fun w' h => by
        obtain ⟨b', o', e, d0⟩ := icl_get (Hr.out.below h) hjl
        cases e
        exact d0
      have hx := Hin.out _ (List.getElem_mem hjl)
      have Hnx := Lib.hid (steps_next hjl last S)
      have Hbl2 := steps_part S n (by omega) (by rw [HS.out]; omega) HSin.out
      rw [Hbl.out] at Hbl2
      generalize l[j] = x at *
      have hstep := Lib.hid (fun w' => dstep_any last x w' hlast hx)
      cases hok : stepOk last x
      · have hf : Hid (deltaB l = none) := by
          show _ = _
          rw [hres.out, HR.out, Hnx.out, hok]
          rfl
        unfold stepV stepE at hstep
        rw [hok, if_neg (by decide), if_neg (by decide)] at hstep
        clear hjl HR Hnx Ho hok
        go_wp2_with fail
        refine (hstep.out _).mono ?_
        rintro e w4 ⟨rfl, rfl⟩
        go_wp2_with fail
        go_ret2
        exact .inl ⟨hf.out, rfl, Hb.out⟩
      · have hs : -9223372036854775808 ≤ x - last ∧ x - last ≤ 9223372036854775807 := of_decide_eq_true hok
        have HR2 : Hid (R = (stepsM x (l.drop (j + 1))).map ((S ++ [x - last]) ++ ·)) := by
          show _ = _
          rw [HR.out, Hnx.out, if_pos hok]
        have Hsn := Lib.hid (steps_snoc (numB n) S (x - last))
        have HS2 : Hid ((S ++ [x - last]).length = j + 1) := by show _ = _; rw [List.length_append, HS.out]; rfl
        have HSin2 : Hid (∀ y ∈ S ++ [x - last], -9223372036854775808 ≤ y ∧ y ≤ 9223372036854775807) := fun y hy => by
          rcases List.mem_append.1 hy with hy | hy
          · exact HSin.out y hy
          · rw [List.mem_singleton.1 hy]; exact hs
        unfold stepV stepE at hstep
        rw [hok, if_pos rfl, if_pos rfl] at hstep
        generalize x - last = s at *
        generalize numB n ++ S.flatMap (fun n => numB (zigN n)) = B0 at *
        have hz9 := numB_le9 (zigN_lt hs)
        have Hs := Lib.hid hs
        have Hrd := Lib.hid Ho.out.rd
        clear hjl HR Hnx Ho hok
        go_wp2_with fail
        refine (hstep.out _).mono ?_
        rintro e w4 ⟨rfl, rfl⟩
        have Hb4 : Hid (Below w.heap.size w wr) := Hb.out
        have Hrd4 : Hid (Rd wr A' (Bs B0)) := Hrd.out
        clear Hb Hrd c0
        go_wp2_with fail
        refine (int_any B0 bl c' s A' _ Hbl.out Hrd4.out (by omega) Hs.out).mono ?_
        rintro e w6 ⟨A6, c6, rfl, ho6, hb6⟩
        rw [← Hsn.out] at ho6
        have Hb6 := Lib.hid (Hb4.out.trans (hb6.mono Hb4.out.size))
        have HO6 := Lib.hid (ho6.lower Hb4.out.size)
        have Hl6 : Hid ((numB n ++ (S ++ [s]).flatMap fun n => numB (zigN n)).length = bl + (numB (zigN s)).length) := by
          show _ = _
          rw [Hsn.out, List.length_append, Hbl.out]
        have c6' := Hcell.out w6 Hb6.out
        clear ho6 hb6
        go_wp2_with fail
        go_roundw
        case rel => exact ⟨j + 1, _, c6, A6, x, S ++ [s], rfl, rfl, by go_num, by omega, hx, HS2, HSin2, HR2, Hl6, HO6, Hb6⟩
        case measure => simp only [intOf, Int.toNat_natCast]; omega
    · obtain rfl : j = n := by omega
      have hta : Hid (deltaB l = some (numB j ++ S.flatMap fun n => numB (zigN n))) := by
        show _ = _
        rw [hres.out, HR.out, List.drop_eq_nil_of_le (by rw [Hl.out]; exact Nat.le_refl _)]
        simp [stepsM]
      generalize numB j ++ S.flatMap (fun n => numB (zigN n)) = B0 at *
      rw [← Hbl.out] at Ho ⊢
      clear HR
      go_wp2_with fail
      go_ret2
      exact .inr ⟨B0, hta.out, ⟨_, _, rfl, Ho.out⟩, Hb.out⟩

set_option maxHeartbeats 8000000 in
set_option maxRecDepth 100000 in
theorem rdeltaput_any (l : List Int) (n c : Nat) (A : Option Addr) (w : World) (hl : l.length = n) (hr : Rd w A (icl l)) (hn : n ≤ 4096) (hin : ∀ x ∈ l, -9223372036854775808 ≤ x ∧ x ≤ 9223372036854775807) :
    Calls Try.prog 77 #[.slice A n c] w fun e w' => DelOK l w e w' := by
  have Hl := Lib.hid hl
  have Hr := Lib.hid hr
  have Hin := Lib.hid hin
  have hres : Hid (deltaB l = (stepsM 0 l).map fun s => numB n ++ s.flatMap fun n => numB (zigN n)) := by show _ = _; unfold deltaB; rw [hl]
  have hR0 : Hid (stepsM 0 l = (stepsM 0 (l.drop 0)).map ([] ++ ·)) := by show _ = _; rw [List.drop_zero]; cases stepsM 0 l <;> simp
  obtain ⟨R, hR⟩ : ∃ R, stepsM 0 l = R := ⟨_, rfl⟩
  rw [hR] at hres hR0
  have hwn : IntKind.u64.wrap (n : Int) = (n : Int) := by rw [IntKind.wrap_u64]; omega
  clear hl hr hin hR
  go_enter Try.func77, Try.ntmps77
  go_wp2_with fail
  refine (rnum_any [] 0 0 n none w rfl (Rd.nil _ _) (by omega) (by omega)).mono ?_
  rintro e w2 ⟨A2, c2, rfl, ho2, hb2⟩
  rw [List.nil_append, Nat.zero_add] at ho2
  rw [Nat.zero_add]
  have Hb2 := Lib.hid hb2
  have Ho2 := Lib.hid ho2
  clear ho2 hb2
  go_wp2_with fail
  go_loopw [4, 5, 6] (fun vb vl vi wr => ∃ (j bl c' : Nat) (A' : Option Addr) (last : Int) (S : List Int), vb = .slice A' bl c' ∧ vl = .int .i64 last ∧ vi = .int .i64 (j : Int) ∧ j ≤ n ∧ (-9223372036854775808 ≤ last ∧ last ≤ 9223372036854775807) ∧ Hid (S.length = j) ∧ Hid (∀ x ∈ S, -9223372036854775808 ≤ x ∧ x ≤ 9223372036854775807) ∧ Hid (R = (stepsM last (l.drop j)).map (S ++ ·)) ∧ Hid ((numB n ++ S.flatMap fun n => numB (zigN n)).length = bl) ∧ Hid (Own wr w.heap.size 5 1 A' bl c' (Bs (numB n ++ S.flatMap fun n => numB (zigN n)))) ∧ Hid (Below w.heap.size w wr)) (fun _ _ vi _ => n - (intOf vi).toNat)
  case atStart => exact ⟨0, _, c2, A2, 0, [], rfl, rfl, rfl, by omega, by omega, rfl, (fun x hx => by simp at hx), hR0, (by show _ = _; simp), (by show Own _ _ _ _ _ _ _ _; simpa using Ho2.out), Hb2⟩
  case round =>
    obtain ⟨j, bl, c', A', last, S, rfl, rfl, rfl, hj, hlast, HS, HSin, HR, Hbl, Ho, Hb⟩ := hrel
    by_cases hjn : j < n
    · have hjl : j < l.length := by rw [Hl.out]; exact hjn
      have hjI : (j : Int) < (n : Int) := by omega
      have hj0 : (0 : Int) ≤ (j : Int) := by omega
      obtain ⟨b, o, rfl, c0⟩ := icl_get (Hr.out.below Hb.out) hjl
      have Hcell : Hid (∀ w', Below w.heap.size w w' → w'.cell? ⟨b, o + j, none⟩ = some (.int .i64 l[j])) := fun w' h => by
        obtain ⟨b', o', e, d0⟩ := icl_get (Hr.out.below h) hjl
        cases e
        exact d0
      have hx := Hin.out _ (List.getElem_mem hjl)
      have Hnx := Lib.hid (steps_next hjl last S)
      have Hbl2 := steps_part S n (by omega) (by rw [HS.out]; omega) HSin.out
      rw [Hbl.out] at Hbl2
      generalize l[j] = x at *
      have hstep := Lib.hid (fun w' => rdstep_any last x w' hlast hx)
      cases hok : stepOk last x
      · have hf : Hid (deltaB l = none) := by
          show _ = _
          rw [hres.out, HR.out, Hnx.out, hok]
          rfl
        unfold stepV stepE at hstep
        rw [hok, if_neg (by decide), if_neg (by decide)] at hstep
        clear hjl HR Hnx Ho hok
        go_wp2_with fail
        refine (hstep.out _).mono ?_
        rintro e w4 ⟨rfl, q, rfl⟩
        go_wp2_with fail
        go_ret2
        exact .inl ⟨hf.out, rfl, below_drewN' Hb.out q⟩
      · have hs : -9223372036854775808 ≤ x - last ∧ x - last ≤ 9223372036854775807 := of_decide_eq_true hok
        have HR2 : Hid (R = (stepsM x (l.drop (j + 1))).map ((S ++ [x - last]) ++ ·)) := by
          show _ = _
          rw [HR.out, Hnx.out, if_pos hok]
        have Hsn := Lib.hid (steps_snoc (numB n) S (x - last))
        have HS2 : Hid ((S ++ [x - last]).length = j + 1) := by show _ = _; rw [List.length_append, HS.out]; rfl
        have HSin2 : Hid (∀ y ∈ S ++ [x - last], -9223372036854775808 ≤ y ∧ y ≤ 9223372036854775807) := fun y hy => by
          rcases List.mem_append.1 hy with hy | hy
          · exact HSin.out y hy
          · rw [List.mem_singleton.1 hy]; exact hs
        unfold stepV stepE at hstep
        rw [hok, if_pos rfl, if_pos rfl] at hstep
        generalize x - last = s at *
        generalize numB n ++ S.flatMap (fun n => numB (zigN n)) = B0 at *
        have hz9 := numB_le9 (zigN_lt hs)
        have Hs := Lib.hid hs
        have Hrd := Lib.hid Ho.out.rd
        clear hjl HR Hnx Ho hok
        go_wp2_with fail
        refine (hstep.out _).mono ?_
        rintro e w4 ⟨rfl, q, rfl⟩
        have Hb4 : Hid (Below w.heap.size w (wr.drewN q)) := below_drewN' Hb.out q
        have Hrd4 : Hid (Rd (wr.drewN q) A' (Bs B0)) := Hrd.out
        clear Hb Hrd c0
        go_wp2_with fail
        refine (rint_any B0 bl c' s A' _ Hbl.out Hrd4.out (by omega) Hs.out).mono ?_
        rintro e w6 ⟨A6, c6, rfl, ho6, hb6⟩
        rw [← Hsn.out] at ho6
        have Hb6 := Lib.hid (Hb4.out.trans (hb6.mono Hb4.out.size))
        have HO6 := Lib.hid (ho6.lower Hb4.out.size)
        have Hl6 : Hid ((numB n ++ (S ++ [s]).flatMap fun n => numB (zigN n)).length = bl + (numB (zigN s)).length) := by
          show _ = _
          rw [Hsn.out, List.length_append, Hbl.out]
        have c6' := Hcell.out w6 Hb6.out
        clear ho6 hb6
        go_wp2_with fail
        go_roundw
        case rel => exact ⟨j + 1, _, c6, A6, x, S ++ [s], rfl, rfl, by go_num, by omega, hx, HS2, HSin2, HR2, Hl6, HO6, Hb6⟩
        case measure => simp only [intOf, Int.toNat_natCast]; omega
    · obtain rfl : j = n := by omega
      have hta : Hid (deltaB l = some (numB j ++ S.flatMap fun n => numB (zigN n))) := by
        show _ = _
        rw [hres.out, HR.out, List.drop_eq_nil_of_le (by rw [Hl.out]; exact Nat.le_refl _)]
        simp [stepsM]
      generalize numB j ++ S.flatMap (fun n => numB (zigN n)) = B0 at *
      rw [← Hbl.out] at Ho ⊢
      clear HR
      go_wp2_with fail
      go_ret2
      exact .inr ⟨B0, hta.out, ⟨_, _, rfl, Ho.out⟩, Hb.out⟩

end Go.Proofs.Ytojppmnmhdgnnaa
namespace Go.Proofs.Ytojppmnmhdgnnaa
set_option linter.unusedVariables false
set_option linter.unusedSimpArgs false
open Go.RowKit

attribute [local go_sem ↓] Go.wp_at_zero Go.wp_at_succ

def ucl (l : List Nat) : List Value := l.map fun n : Nat => .int .u64 (n : Int)
theorem ucl_len (l : List Nat) : (ucl l).length = l.length := List.length_map _
theorem ucl_append (l m : List Nat) : ucl (l ++ m) = ucl l ++ ucl m := List.map_append
theorem Eu64 : ElemT Try.prog 115 71 1 8 (.int .u64 0) := ElemT.mk' (by kernel_rfl) (by kernel_rfl) rfl (by omega)
theorem ucl_get {w : World} {A : Option Addr} {l : List Nat} (h : Rd w A (ucl l)) {j : Nat} (hj : j < l.length) : ∃ b o, A = some ⟨b, o, none⟩ ∧ w.cell? ⟨b, o + j, none⟩ = some (.int .u64 (l[j] : Int)) := by
  obtain ⟨b, o, e, hr⟩ := h (by intro e; have := congrArg List.length e; rw [ucl_len, List.length_nil] at this; omega)
  refine ⟨b, o, e, hr j _ ?_⟩
  unfold ucl
  rw [List.getElem?_map, List.getElem?_eq_getElem hj]
  rfl

set_option maxHeartbeats 4000000 in
set_option maxRecDepth 100000 in
theorem width_any (l : List Nat) (n c : Nat) (A : Option Addr) (w : World) (hl : l.length = n) (hr : Rd w A (ucl l)) (hn : n ≤ 1000000) (hin : ∀ x ∈ l, x < 18446744073709551616) :
    Calls Try.prog 73 #[.slice A n c] w fun e w' => e = .returned (.int .i64 (widthM l : Int)) ∧ w = w' := by
  have Hl := Lib.hid hl
  have Hr := Lib.hid hr
  have Hin := Lib.hid hin
  obtain ⟨R, hR⟩ : ∃ R, widthM l = R := ⟨_, rfl⟩
  rw [hR]
  have HR := Lib.hid hR
  clear hl hr hin hR
  go_enter Try.func73, Try.ntmps73
  go_wp2_with fail
  go_loop [3, 8] (fun va vi => ∃ i a : Nat, va = .int .u64 (a : Int) ∧ vi = .int .i64 (i : Int) ∧ i ≤ n ∧ a = (l.take i).foldl (fun a n => a ||| n) 0 ∧ a < 18446744073709551616) (fun _ vi => n - (intOf vi).toNat)
  case atStart => exact ⟨0, 0, rfl, rfl, by omega, by simp, by omega⟩
  case round =>
    obtain ⟨i, a, rfl, rfl, hi, ha, ha64⟩ := hrel
    by_cases hin : i < n
    · have hil : i < l.length := by rw [Hl.out]; exact hin
      have hiI : (i : Int) < (n : Int) := by omega
      have hi0 : (0 : Int) ≤ (i : Int) := by omega
      obtain ⟨b, o, rfl, c0⟩ := ucl_get Hr.out hil
      have hx := Hin.out _ (List.getElem_mem hil)
      have Ha : Hid ((l.take (i + 1)).foldl (fun a n => a ||| n) 0 = a ||| l[i]) := by
        show _ = _
        rw [List.take_succ_eq_append_getElem hil, List.foldl_append, ← ha]
        rfl
      generalize l[i] = x at *
      have hor : bits .or .u64 (a : Int) (x : Int) = ((a ||| x : Nat) : Int) := u64_or_nat a x ha64 hx
      have h64 : a ||| x < 18446744073709551616 := Nat.or_lt_two_pow (n := 64) ha64 hx
      generalize a ||| x = y at *
      clear ha ha64 hil hx
      go_wp2_with fail
      go_round
      case rel => exact ⟨i + 1, y, rfl, by go_num, by omega, Ha.out.symm, h64⟩
      case measure => simp only [intOf, Int.toNat_natCast]; omega
    · obtain rfl : i = n := by omega
      have hwd : Hid (widthM l = Lib.bitLen a) := by
        show _ = _
        rw [ha, List.take_of_length_le (by rw [Hl.out]; exact Nat.le_refl _)]
        rfl
      have hb := Try.bits_Len64 (a : Int) w (by omega) (by omega)
      rw [Int.toNat_natCast] at hb
      have Hbb := Lib.hid hb
      clear ha hb
      go_wp2_with fail
      refine Hbb.out.mono ?_
      rintro e w1 ⟨rfl, hw1⟩
      obtain rfl : w = w1 := hw1.symm
      go_wp2_with fail
      go_ret
      exact ⟨by rw [← HR.out, hwd.out]; rfl, rfl⟩

set_option maxHeartbeats 4000000 in
set_option maxRecDepth 100000 in
theorem rbits_any (n : Nat) (w : World) (hn : n < 18446744073709551616) :
    Calls Try.prog 112 #[.int .u64 (n : Int)] w fun e w' => e = .returned (.int .i64 (Lib.bitLen n : Int)) ∧ w = w' := by
  obtain ⟨R, hR⟩ : ∃ R, Lib.bitLen n = R := ⟨_, rfl⟩
  have hR64 : R ≤ 64 := by rw [← hR]; exact (bitLen_lt hn (Nat.le_refl _)).2 hn
  rw [hR]
  have HR := Lib.hid hR
  clear hR
  go_enter Try.func112, Try.ntmps112
  go_wp2_with fail
  go_loop [0, 3] (fun vn vk => ∃ m k : Nat, vn = .int .u64 (m : Int) ∧ vk = .int .i64 (k : Int) ∧ m < 18446744073709551616 ∧ k ≤ 64 ∧ Hid (Lib.bitLen m + k = R)) (fun vn _ => (intOf vn).toNat)
  case atStart => exact ⟨n, 0, rfl, rfl, hn, by omega, HR.out⟩
  case round =>
    obtain ⟨m, k, rfl, rfl, hm, hk, HK⟩ := hrel
    by_cases h0 : 0 < m
    · have hmI : (0 : Int) < (m : Int) := by omega
      have h2 := Lib.bitLen_half m (by omega) hm
      have hk1 : k + 1 ≤ 64 := by have := HK.out; omega
      have HK2 : Hid (Lib.bitLen (m / 2) + (k + 1) = R) := by show _ = _; have := HK.out; omega
      have hq : (m : Int) / 2 = ((m / 2 : Nat) : Int) := by omega
      have hq2 : Int.tdiv (m : Int) 2 = ((m / 2 : Nat) : Int) := by rw [Int.tdiv_eq_ediv_of_nonneg (by omega)]; exact hq
      have hlt : m / 2 < m := by omega
      generalize m / 2 = d at *
      clear h2
      go_wp2_with fail
      go_round
      case rel => exact ⟨d, k + 1, rfl, by go_num, by omega, hk1, HK2⟩
      case measure => simp only [intOf, Int.toNat_natCast]; omega
    · obtain rfl : m = 0 := by omega
      have hkR : k = R := by
        have := HK.out
        rw [show Lib.bitLen 0 = 0 from by decide] at this
        omega
      go_wp2_with fail
      go_ret
      exact ⟨rfl, rfl⟩

set_option maxHeartbeats 4000000 in
set_option maxRecDepth 100000 in
theorem rwidth_any (l : List Nat) (n c : Nat) (A : Option Addr) (w : World) (hl : l.length = n) (hr : Rd w A (ucl l)) (hn : n ≤ 1000000) (hin : ∀ x ∈ l, x < 18446744073709551616) :
    Calls Try.prog 96 #[.slice A n c] w fun e w' => e = .returned (.int .i64 (widthM l : Int)) ∧ w = w' := by
  have Hl := Lib.hid hl
  have Hr := Lib.hid hr
  have Hin := Lib.hid hin
  have hwm := Lib.hid (width_max hin)
  obtain ⟨R, hR⟩ : ∃ R, widthM l = R := ⟨_, rfl⟩
  rw [hR]
  have HR := Lib.hid hR
  clear hl hr hin hR
  go_enter Try.func96, Try.ntmps96
  go_wp2_with fail
  go_loop [3, 4] (fun va vi => ∃ i a : Nat, va = .int .i64 (a : Int) ∧ vi = .int .i64 (i : Int) ∧ i ≤ n ∧ Hid (a = ((l.take i).map Lib.bitLen).foldl max 0) ∧ a ≤ 64) (fun _ vi => n - (intOf vi).toNat)
  case atStart => exact ⟨0, 0, rfl, rfl, by omega, (by show _ = _; simp), by omega⟩
  case round =>
    obtain ⟨i, a, rfl, rfl, hi, Ha, ha64⟩ := hrel
    by_cases hin : i < n
    · have hil : i < l.length := by rw [Hl.out]; exact hin
      have hiI : (i : Int) < (n : Int) := by omega
      have hi0 : (0 : Int) ≤ (i : Int) := by omega
      obtain ⟨b, o, rfl, c0⟩ := ucl_get Hr.out hil
      have hx := Hin.out _ (List.getElem_mem hil)
      have Ha2 : Hid (((l.take (i + 1)).map Lib.bitLen).foldl max 0 = max a (Lib.bitLen l[i])) := by
        show _ = _
        rw [List.take_succ_eq_append_getElem hil, List.map_append, List.foldl_append, ← Ha.out]
        rfl
      have hb := Lib.hid (rbits_any l[i] w hx)
      have hb64 := (bitLen_lt hx (Nat.le_refl _)).2 hx
      generalize l[i] = x at *
      generalize Lib.bitLen x = y at *
      obtain ⟨M, hM⟩ : ∃ M, max a y = M := ⟨_, rfl⟩
      have hMI : max (a : Int) (y : Int) = (M : Int) := by omega
      have HA2 : Hid (M = ((l.take (i + 1)).map Lib.bitLen).foldl max 0) := by show _ = _; rw [Ha2.out, hM]
      have hM64 : M ≤ 64 := by omega
      clear hil hx Ha hM
      go_wp2_with fail
      refine hb.out.mono ?_
      rintro e w1 ⟨rfl, rfl⟩
      go_wp2_with fail
      go_round
      case rel => exact ⟨i + 1, M, rfl, by go_num, by omega, HA2, hM64⟩
      case measure => simp only [intOf, Int.toNat_natCast]; omega
    · obtain rfl : i = n := by omega
      have hwd : Hid (widthM l = a) := by
        show _ = _
        rw [hwm.out, Ha.out, List.take_of_length_le (by rw [Hl.out]; exact Nat.le_refl _)]
      clear Ha
      go_wp2_with fail
      go_ret
      exact ⟨by rw [← HR.out, hwd.out]; rfl, rfl⟩

set_option maxRecDepth 100000 in
theorem bytes_any (m k : Nat) (w : World) (hm : m ≤ 4096) (hk : k ≤ 64) :
    Calls Try.prog 93 #[.int .i64 (m : Int), .int .i64 (k : Int)] w fun e w' => e = .returned (.tuple #[.int .i64 (bytesN m k : Int), .int .i64 0]) ∧ w = w' := by
  obtain ⟨P, hP⟩ : ∃ P, m * k = P := ⟨_, rfl⟩
  have hPl : P ≤ 4096 * 64 := by rw [← hP]; exact Nat.mul_le_mul hm hk
  have hPI : (m : Int) * (k : Int) = (P : Int) := by rw [← hP]; exact (Int.natCast_mul m k).symm
  have hB : bytesN m k = (P + 7) / 8 := by unfold bytesN; rw [hP]
  rw [hB]
  obtain ⟨B, hBB⟩ : ∃ B, (P + 7) / 8 = B := ⟨_, rfl⟩
  rw [hBB]
  have hq : ((P : Int) + 7) / 8 = (B : Int) := by omega
  have hq2 : Int.tdiv ((P : Int) + 7) 8 = (B : Int) := by rw [Int.tdiv_eq_ediv_of_nonneg (by omega)]; exact hq
  have hmI : (m : Int) ≤ 4096 := by omega
  have hkI : (k : Int) ≤ 64 := by omega
  clear hP hB hBB
  go_enter Try.func93, Try.ntmps93
  go_wp2_with fail
  go_ret2
  exact ⟨rfl, rfl⟩
set_option maxRecDepth 100000 in
theorem rbytes_any (m k : Nat) (w : World) (hm : m ≤ 4096) (hk : k ≤ 64) :
    Calls Try.prog 113 #[.int .i64 (m : Int), .int .i64 (k : Int)] w fun e w' => e = .returned (.tuple #[.int .i64 (bytesN m k : Int), .int .i64 0]) ∧ w = w' := by
  obtain ⟨P, hP⟩ : ∃ P, m * k = P := ⟨_, rfl⟩
  have hPl : P ≤ 4096 * 64 := by rw [← hP]; exact Nat.mul_le_mul hm hk
  have hPI : (m : Int) * (k : Int) = (P : Int) := by rw [← hP]; exact (Int.natCast_mul m k).symm
  have hB : bytesN m k = (P + 7) / 8 := by unfold bytesN; rw [hP]
  rw [hB]
  obtain ⟨B, hBB⟩ : ∃ B, (P + 7) / 8 = B := ⟨_, rfl⟩
  rw [hBB]
  have hq : ((P : Int) + 7) / 8 = (B : Int) := by omega
  have hq2 : Int.tdiv ((P : Int) + 7) 8 = (B : Int) := by rw [Int.tdiv_eq_ediv_of_nonneg (by omega)]; exact hq
  have hmI : (m : Int) ≤ 4096 := by omega
  have hkI : (k : Int) ≤ 64 := by omega
  clear hP hB hBB
  go_enter Try.func113, Try.ntmps113
  go_wp2_with fail
  go_ret2
  exact ⟨rfl, rfl⟩
end Go.Proofs.Ytojppmnmhdgnnaa
