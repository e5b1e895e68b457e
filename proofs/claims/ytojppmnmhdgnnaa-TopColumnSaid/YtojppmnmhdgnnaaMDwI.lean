/- Walks: words as bytes. -/
import Derived.Test.YtojppmnmhdgnnaaMDwHO
namespace Go.Proofs.Ytojppmnmhdgnnaa
set_option linter.unusedVariables false
set_option linter.unusedSimpArgs false
open Go.RowKit

attribute [local go_sem ↓] Go.wp_at_zero Go.wp_at_succ

/-- How Put ends. -/
def PutOK (l : List (List UInt8)) (w : World) (e : Ending) (w' : World) : Prop :=
  ((putM l = none ∧ e = .returned (.tuple #[.slice none 0 0, .int .i64 1])) ∨ ∃ b A c, putM l = some b ∧ e = .returned (.tuple #[.slice A b.length c, .int .i64 0]) ∧ Own w' w.heap.size 5 1 A b.length c (Bs b)) ∧ Below w.heap.size w w'
theorem numB_le {n : Nat} (h : n < 18446744073709551616) : (numB n).length ≤ 9 := by
  unfold numB
  split
  · simp
  · have := lenB_le h
    rw [List.length_cons, big_len]
    omega

set_option maxHeartbeats 8000000 in
set_option maxRecDepth 100000 in
theorem dput_any (l : List (List UInt8)) (n c : Nat) (A : Option Addr) (w : World) (hl : l.length = n) (hr : Rd w A (wcl l)) (hn : n ≤ 1000000) :
    Calls Try.prog 87 #[.slice A n c] w fun e w' => PutOK l w e w' := by
  have hri := Lib.hid (dright_any l n c A w hl hr hn)
  have Hl := Lib.hid hl
  have Hr := Lib.hid hr
  clear hl hr
  cases hR : rightW l
  · have hf : Hid (putM l = none) := by show _ = _; unfold putM; rw [hR]; rfl
    rw [hR] at hri
    clear hR
    go_enter Try.func87, Try.ntmps87
    go_wp2_with fail
    refine hri.out.mono ?_
    rintro e w1 ⟨rfl, q, rfl⟩
    go_wp2_with fail
    go_ret2
    exact ⟨.inl ⟨hf.out, rfl⟩, below_drewN' (Below.refl _ _) q⟩
  · have hf : Hid (putM l = some (numB n ++ putF [] l)) := by show _ = _; unfold putM; rw [hR, ← Hl.out]; rfl
    have hle := rightW_le hR
    have Hle := Lib.hid hle.1
    have hn2 : n ≤ 200 := by rw [← Hl.out]; exact hle.2
    rw [hR] at hri
    clear hR hle
    have Hlen : Hid (∀ j, j ≤ n → (numB n ++ putF [] (l.take j)).length ≤ 9 + j * 1042) := fun j hj => by
      have h1 := numB_le (n := n) (by omega)
      have h2 := putF_len (l.take j) [] (by simp) (fun x hx => Hle.out x (List.mem_of_mem_take hx))
      have h3 : (l.take j).length = j := by rw [List.length_take, Hl.out]; omega
      rw [h3] at h2
      rw [List.length_append]
      omega
    go_enter Try.func87, Try.ntmps87
    go_wp2_with fail
    refine hri.out.mono ?_
    rintro e w1 ⟨rfl, q, rfl⟩
    have hw64 : IntKind.u64.wrap (n : Int) = (n : Int) := by rw [IntKind.wrap_u64]; omega
    go_wp2_with fail
    refine (onum_any [] 0 0 n none _ rfl (Rd.nil _ _) (by omega) (by omega)).mono ?_
    rintro e w2 ⟨A2, c2, rfl, ho2, hb2⟩
    rw [List.nil_append] at ho2
    have hrd2 : Own w2 w.heap.size 5 1 A2 (numB n).length c2 (Bs (numB n)) := by
      have h := ho2
      rw [Nat.zero_add] at h
      exact h
    have hb02 : Below w.heap.size w w2 := (below_drewN' (Below.refl _ _) q).trans hb2
    have Hrd2 := Lib.hid hrd2
    have Hb02 := Lib.hid hb02
    clear ho2 hb2 hrd2 hb02
    have hb0 : Hid ((numB n ++ putF [] (l.take 0)).length = (numB n).length) := by show _ = _; rw [List.take_zero, List.length_append]; rfl
    go_wp2_with fail
    go_loopw [4, 5, 18] (fun vb vl vi wr => ∃ (j bl c' : Nat) (A' : Option Addr) (lst : List UInt8), vb = .slice A' bl c' ∧ vl = .string (St8 lst) ∧ vi = .int .i64 (j : Int) ∧ j ≤ n ∧ Hid ((numB n ++ putF [] (l.take j)).length = bl) ∧ Hid ((l.take j).getLastD [] = lst) ∧ Hid (Own wr w.heap.size 5 1 A' bl c' (Bs (numB n ++ putF [] (l.take j)))) ∧ Hid (Below w.heap.size w wr)) (fun _ _ vi _ => n - (intOf vi).toNat)
    case atStart => exact ⟨0, (numB n).length, c2, A2, [], rfl, rfl, rfl, by omega, hb0.out, rfl, by rw [List.take_zero, show putF [] [] = [] from rfl, List.append_nil]; exact Hrd2.out, Hb02.out⟩
    case round =>
      obtain ⟨j, bl, c', A', lst, rfl, rfl, rfl, hj, Hbl, Hlst, Hrd, Hb⟩ := hrel
      by_cases hjn : j < n
      · have hjl : j < l.length := by rw [Hl.out]; exact hjn
        have hjI : (j : Int) < (n : Int) := by omega
        have hj0 : (0 : Int) ≤ (j : Int) := by omega
        have hrw := Hr.out.below Hb.out
        obtain ⟨b, o, rfl, c0⟩ := hrw.word hjl
        have hxl : l[j].length ≤ 1024 := Hle.out _ (List.getElem_mem hjl)
        have hlstl : lst.length ≤ 1024 := by
          rw [← Hlst.out]
          cases hlj : (l.take j).getLast? with
          | none => rw [List.getLastD_eq_getLast?, hlj]; simp
          | some z => rw [List.getLastD_eq_getLast?, hlj]; exact Hle.out z (List.mem_of_mem_take (List.mem_of_getLast? hlj))
        have hbl : bl ≤ 9 + j * 1042 := by rw [← Hbl.out]; exact Hlen.out j hj
        have hbl6 : bl ≤ 300000 := by
          have : j * 1042 ≤ 200 * 1042 := Nat.mul_le_mul_right _ (by omega)
          omega
        have hco := Lib.hid (fun w' => dcommon_any lst l[j] w' (by omega) (by omega))
        have hcl := comM_le lst l[j]
        have Hsn : Hid (numB n ++ putF [] (l.take (j + 1)) = (numB n ++ putF [] (l.take j)) ++ numB (comM lst l[j]) ++ (numB (l[j].length - comM lst l[j]) ++ l[j].drop (comM lst l[j]))) := by
          show _ = _
          rw [List.take_succ_eq_append_getElem hjl, putF_snoc, Hlst.out, List.length_drop]
          simp only [List.append_assoc]
        have Hls2 : Hid ((l.take (j + 1)).getLastD [] = l[j]) := by
          show _ = _
          rw [List.take_succ_eq_append_getElem hjl, List.getLastD_concat]
        have Hn2 : Hid ((numB n ++ putF [] (l.take (j + 1))).length ≤ 300000) := by
          show _ ≤ _
          have h1 := Hlen.out (j + 1) (by omega)
          have : (j + 1) * 1042 ≤ 200 * 1042 := Nat.mul_le_mul_right _ (by omega)
          omega
        generalize l[j] = x at *
        generalize numB n ++ putF [] (l.take j) = B0 at *
        obtain ⟨cm, hK⟩ : ∃ cm, comM lst x = cm := ⟨_, rfl⟩
        rw [hK] at hco hcl Hsn
        obtain ⟨L, hL⟩ : ∃ L, x.length = L := ⟨_, rfl⟩
        have hKL : cm ≤ L := by rw [← hL]; exact hcl.2.1
        have hL4 : L ≤ 1024 := by rw [← hL]; exact hxl
        rw [hL] at Hsn
        have hsz := St8_size x
        rw [hL] at hsz
        have hdr := St8_drop x cm L (by omega)
        have hdl : (x.drop cm).length = L - cm := by rw [List.length_drop, hL]
        have Hdl := Lib.hid hdl
        have hKI : (cm : Int) ≤ (L : Int) := by omega
        have hK0 : (0 : Int) ≤ (cm : Int) := by omega
        have hwK : IntKind.u64.wrap (cm : Int) = (cm : Int) := by rw [IntKind.wrap_u64]; omega
        have hnK := numB_le (n := cm) (by omega)
        clear hK hL hrw hjl hcl hxl hlstl hdl
        generalize x.drop cm = y at *
        go_wp2_with fail
        refine (hco.out _).mono ?_
        rintro e w4 ⟨rfl, q4, rfl⟩
        have Hb4 : Hid (∀ d, Below w.heap.size w (wr.drewN d)) := fun d => below_drewN' Hb.out d
        have Hrd4 : Hid (∀ d, Rd (wr.drewN d) A' (Bs B0)) := fun d => Hrd.out.rd.drewN d
        clear hco Hb Hrd c0
        go_wp2_with fail
        refine wp_region_held_drew (S := fun w' => True) (by kernel_rfl) trivial (fun hHeld => ?_)
        (refine wpAnyH_take (i := 0) (oi := ?oi0_1) (v := ?vv0_1) ?hi0_1 (by kernel_rfl) (by kernel_rfl) (by kernel_rfl) ?hQ0_1 ?hy0_1 (by assumption) ?rest0_1; (case hi0_1 => ((simp only [List.getElem?_toArray, List.getElem?_cons_zero]); rfl)); (case hQ0_1 => exact (fun _ _ _ h => h)); (case hy0_1 => (refine Or.inl ⟨by rfl, ?_⟩; intro w hSw; (try dsimp only at hSw); go_simp; try (with_reducible rfl))); (try simp only [Act.put, List.setIfInBounds_toArray, List.set_cons_zero, List.set_cons_succ]))
        (refine wpAnyH_take (i := 1) (oi := ?oi1_2) (v := ?vv1_2) ?hi1_2 (by kernel_rfl) (by kernel_rfl) (by kernel_rfl) ?hQ1_2 ?hy1_2 (by assumption) ?rest1_2; (case hi1_2 => ((simp only [List.getElem?_toArray, List.getElem?_cons_succ, List.getElem?_cons_zero]); rfl)); (case hQ1_2 => exact (fun _ _ _ h => h)); (case hy1_2 => (refine Or.inl ⟨by rfl, ?_⟩; intro w hSw; (try dsimp only at hSw); go_simp; try (with_reducible rfl))); (try simp only [Act.put, List.setIfInBounds_toArray, List.set_cons_zero, List.set_cons_succ]))
        (refine wpAnyH_take (i := 2) (oi := ?oi2_3) (v := ?vv2_3) ?hi2_3 (by kernel_rfl) (by kernel_rfl) (by kernel_rfl) ?hQ2_3 ?hy2_3 (by assumption) ?rest2_3; (case hi2_3 => ((simp only [List.getElem?_toArray, List.getElem?_cons_succ, List.getElem?_cons_zero]); rfl)); (case hQ2_3 => exact (fun _ _ _ h => h)); (case hy2_3 => (refine Or.inl ⟨by rfl, ?_⟩; intro w hSw; (try dsimp only at hSw); go_simp; try (with_reducible rfl))); (try simp only [Act.put, List.setIfInBounds_toArray, List.set_cons_zero, List.set_cons_succ]))
        (refine wpAnyH_take (i := 4) (oi := ?oi4_4) (v := ?vv4_4) ?hi4_4 (by kernel_rfl) (by kernel_rfl) (by kernel_rfl) ?hQ4_4 ?hy4_4 (by assumption) ?rest4_4; (case hi4_4 => ((simp only [List.getElem?_toArray, List.getElem?_cons_succ, List.getElem?_cons_zero]); rfl)); (case hQ4_4 => exact (fun _ _ _ h => h)); (case hy4_4 => (refine Or.inl ⟨by rfl, ?_⟩; intro w hSw; (try dsimp only at hSw); go_simp; try (with_reducible rfl))); (try simp only [Act.put, List.setIfInBounds_toArray, List.set_cons_zero, List.set_cons_succ]))
        (refine wpAnyH_take (i := 5) (oi := ?oi5_5) (v := ?vv5_5) ?hi5_5 (by kernel_rfl) (by kernel_rfl) (by kernel_rfl) ?hQ5_5 ?hy5_5 (by assumption) ?rest5_5; (case hi5_5 => ((simp only [List.getElem?_toArray, List.getElem?_cons_succ, List.getElem?_cons_zero]); rfl)); (case hQ5_5 => exact (fun _ _ _ h => h)); (case hy5_5 => (refine Or.inl ⟨by rfl, ?_⟩; intro w hSw; (try dsimp only at hSw); go_simp; try (with_reducible rfl))); (try simp only [Act.put, List.setIfInBounds_toArray, List.set_cons_zero, List.set_cons_succ]))
        (refine wpAnyH_take (i := 6) (oi := ?oi6_6) (v := ?vv6_6) ?hi6_6 (by kernel_rfl) (by kernel_rfl) (by kernel_rfl) ?hQ6_6 ?hy6_6 (by assumption) ?rest6_6; (case hi6_6 => ((simp only [List.getElem?_toArray, List.getElem?_cons_succ, List.getElem?_cons_zero]); rfl)); (case hQ6_6 => exact (fun _ _ _ h => h)); (case hy6_6 => (refine Or.inl ⟨by rfl, ?_⟩; intro w hSw; (try dsimp only at hSw); go_simp; try (with_reducible rfl))); (try simp only [Act.put, List.setIfInBounds_toArray, List.set_cons_zero, List.set_cons_succ]))
        (refine wpAnyH_ready (rs := [3]) (by kernel_rfl) (by simp) ?_; refine AllReadyH.cons (o := ?oc3_7) ?ho3_7 (fun K hK => ?_) AllReadyH.nil; (case ho3_7 => ((simp only [List.getElem?_toArray, List.getElem?_cons_succ, List.getElem?_cons_zero]); rfl)); go_simp)
        refine (onum_any B0 bl c' cm A' _ Hbl.out (Hrd4.out _) (by omega) (by omega)).mono ?_
        rintro e w5 ⟨A5, c5, rfl, ho5, hb5⟩
        have Hrd5 := Lib.hid ho5.rd
        have Hb5 := Lib.hid ((Hb4.out _).trans (hb5.mono (Hb4.out _).size))
        have Hln5 : Hid ((B0 ++ numB cm).length = bl + (numB cm).length) := by show _ = _; rw [List.length_append, Hbl.out]
        clear ho5 hb5 Hb4 Hrd4
        go_wp2_with fail
        refine hK.out _ _ trivial (fun hHeld2 => ?_)
        clear hK
        (try simp only [Act.put, List.setIfInBounds_toArray, List.set_cons_zero, List.set_cons_succ])
        (refine wpAnyH_ready (rs := [7]) (by kernel_rfl) (by simp) ?_; refine AllReadyH.cons (o := ?oc7_8) ?ho7_8 (fun K hK => ?_) AllReadyH.nil; (case ho7_8 => ((simp only [List.getElem?_toArray, List.getElem?_cons_succ, List.getElem?_cons_zero]); rfl)); go_simp)
        refine (text_any (B0 ++ numB cm) y (bl + (numB cm).length) c5 (L - cm) A5 w5 Hln5.out Hdl.out Hrd5.out (by omega) (by omega)).mono ?_
        rintro e w6 ⟨A6, c6, rfl, ho6, hb6⟩
        rw [← Hsn.out] at ho6
        have Hrd6 := Lib.hid (ho6.lower Hb5.out.size)
        have Hl6 : Hid ((numB n ++ putF [] (l.take (j + 1))).length = bl + (numB cm).length + (numB (L - cm)).length + (L - cm)) := by
          show _ = _
          have := ho6.1
          rw [List.length_map, Nat.mul_one] at this
          exact this
        have Hb6 := Lib.hid (Hb5.out.trans (hb6.mono Hb5.out.size))
        clear ho6 hb6 Hb5 Hrd5
        go_wp2_with fail
        refine hK.out _ _ trivial (fun hHeld3 => ?_)
        clear hK
        (try simp only [Act.put, List.setIfInBounds_toArray, List.set_cons_zero, List.set_cons_succ])
        (refine wpAnyH_take (i := 8) (oi := ?oi8_9) (v := ?vv8_9) ?hi8_9 (by kernel_rfl) (by kernel_rfl) (by kernel_rfl) ?hQ8_9 ?hy8_9 (by assumption) ?rest8_9; (case hi8_9 => ((simp only [List.getElem?_toArray, List.getElem?_cons_succ, List.getElem?_cons_zero]); rfl)); (case hQ8_9 => exact (fun _ _ _ h => h)); (case hy8_9 => (refine Or.inl ⟨by rfl, ?_⟩; intro w hSw; (try dsimp only at hSw); go_simp; try (with_reducible rfl))); (try simp only [Act.put, List.setIfInBounds_toArray, List.set_cons_zero, List.set_cons_succ]))
        refine wpAnyH_done (by kernel_rfl) ?_ _
        clear hHeld hHeld2 hHeld3
        go_wp2_with fail
        go_roundw
        case rel => exact ⟨j + 1, _, c6, A6, x, rfl, rfl, by go_num, by omega, Hl6, Hls2, Hrd6, Hb6⟩
        case measure => simp only [intOf, Int.toNat_natCast]; omega
      · obtain rfl : j = n := by omega
        have Htk := Lib.hid (List.take_of_length_le (l := l) (i := j) (by rw [Hl.out]; exact Nat.le_refl _))
        go_wp2_with fail
        go_ret2
        refine ⟨.inr ⟨_, A', c', hf.out, ?_, ?_⟩, Hb.out⟩
        · have h1 := Hbl.out
          rw [Htk.out] at h1
          rw [h1]
          rfl
        · have h1 := Hrd.out
          have h2 := Hbl.out
          rw [Htk.out] at h1 h2
          rw [h2]
          exact h1

set_option maxHeartbeats 8000000 in
set_option maxRecDepth 100000 in
theorem drput_any (l : List (List UInt8)) (n c : Nat) (A : Option Addr) (w : World) (hl : l.length = n) (hr : Rd w A (wcl l)) (hn : n ≤ 1000000) :
    Calls Try.prog 79 #[.slice A n c] w fun e w' => PutOK l w e w' := by
  have hri := Lib.hid (drright_any l n c A w hl hr hn)
  have Hl := Lib.hid hl
  have Hr := Lib.hid hr
  clear hl hr
  cases hR : rightW l
  · have hf : Hid (putM l = none) := by show _ = _; unfold putM; rw [hR]; rfl
    rw [hR] at hri
    clear hR
    go_enter Try.func79, Try.ntmps79
    go_wp2_with fail
    refine hri.out.mono ?_
    rintro e w1 ⟨rfl, q, rfl⟩
    go_wp2_with fail
    go_ret2
    exact ⟨.inl ⟨hf.out, rfl⟩, below_drewN' (Below.refl _ _) q⟩
  · have hf : Hid (putM l = some (numB n ++ putF [] l)) := by show _ = _; unfold putM; rw [hR, ← Hl.out]; rfl
    have hle := rightW_le hR
    have Hle := Lib.hid hle.1
    have hn2 : n ≤ 200 := by rw [← Hl.out]; exact hle.2
    rw [hR] at hri
    clear hR hle
    have Hlen : Hid (∀ j, j ≤ n → (numB n ++ putF [] (l.take j)).length ≤ 9 + j * 1042) := fun j hj => by
      have h1 := numB_le (n := n) (by omega)
      have h2 := putF_len (l.take j) [] (by simp) (fun x hx => Hle.out x (List.mem_of_mem_take hx))
      have h3 : (l.take j).length = j := by rw [List.length_take, Hl.out]; omega
      rw [h3] at h2
      rw [List.length_append]
      omega
    go_enter Try.func79, Try.ntmps79
    go_wp2_with fail
    refine hri.out.mono ?_
    rintro e w1 ⟨rfl, q, rfl⟩
    have hw64 : IntKind.u64.wrap (n : Int) = (n : Int) := by rw [IntKind.wrap_u64]; omega
    go_wp2_with fail
    refine (rnum_any [] 0 0 n none _ rfl (Rd.nil _ _) (by omega) (by omega)).mono ?_
    rintro e w2 ⟨A2, c2, rfl, ho2, hb2⟩
    rw [List.nil_append] at ho2
    have hrd2 : Own w2 w.heap.size 5 1 A2 (numB n).length c2 (Bs (numB n)) := by
      have h := ho2
      rw [Nat.zero_add] at h
      exact h
    have hb02 : Below w.heap.size w w2 := (below_drewN' (Below.refl _ _) q).trans hb2
    have Hrd2 := Lib.hid hrd2
    have Hb02 := Lib.hid hb02
    clear ho2 hb2 hrd2 hb02
    have hb0 : Hid ((numB n ++ putF [] (l.take 0)).length = (numB n).length) := by show _ = _; rw [List.take_zero, List.length_append]; rfl
    go_wp2_with fail
    go_loopw [4, 5, 6] (fun vb vl vi wr => ∃ (j bl c' : Nat) (A' : Option Addr) (lst : List UInt8), vb = .slice A' bl c' ∧ vl = .string (St8 lst) ∧ vi = .int .i64 (j : Int) ∧ j ≤ n ∧ Hid ((numB n ++ putF [] (l.take j)).length = bl) ∧ Hid ((l.take j).getLastD [] = lst) ∧ Hid (Own wr w.heap.size 5 1 A' bl c' (Bs (numB n ++ putF [] (l.take j)))) ∧ Hid (Below w.heap.size w wr)) (fun _ _ vi _ => n - (intOf vi).toNat)
    case atStart => exact ⟨0, (numB n).length, c2, A2, [], rfl, rfl, rfl, by omega, hb0.out, rfl, by rw [List.take_zero, show putF [] [] = [] from rfl, List.append_nil]; exact Hrd2.out, Hb02.out⟩
    case round =>
      obtain ⟨j, bl, c', A', lst, rfl, rfl, rfl, hj, Hbl, Hlst, Hrd, Hb⟩ := hrel
      by_cases hjn : j < n
      · have hjl : j < l.length := by rw [Hl.out]; exact hjn
        have hjI : (j : Int) < (n : Int) := by omega
        have hj0 : (0 : Int) ≤ (j : Int) := by omega
        have hrw := Hr.out.below Hb.out
        obtain ⟨b, o, rfl, c0⟩ := hrw.word hjl
        have hxl : l[j].length ≤ 1024 := Hle.out _ (List.getElem_mem hjl)
        have hlstl : lst.length ≤ 1024 := by
          rw [← Hlst.out]
          cases hlj : (l.take j).getLast? with
          | none => rw [List.getLastD_eq_getLast?, hlj]; simp
          | some z => rw [List.getLastD_eq_getLast?, hlj]; exact Hle.out z (List.mem_of_mem_take (List.mem_of_getLast? hlj))
        have hbl : bl ≤ 9 + j * 1042 := by rw [← Hbl.out]; exact Hlen.out j hj
        have hbl6 : bl ≤ 300000 := by
          have : j * 1042 ≤ 200 * 1042 := Nat.mul_le_mul_right _ (by omega)
          omega
        have hco := Lib.hid (fun w' => drcommon_any lst l[j] w' (by omega) (by omega))
        have hcl := comM_le lst l[j]
        have Hsn : Hid (numB n ++ putF [] (l.take (j + 1)) = (numB n ++ putF [] (l.take j)) ++ numB (comM lst l[j]) ++ (numB (l[j].length - comM lst l[j]) ++ l[j].drop (comM lst l[j]))) := by
          show _ = _
          rw [List.take_succ_eq_append_getElem hjl, putF_snoc, Hlst.out, List.length_drop]
          simp only [List.append_assoc]
        have Hls2 : Hid ((l.take (j + 1)).getLastD [] = l[j]) := by
          show _ = _
          rw [List.take_succ_eq_append_getElem hjl, List.getLastD_concat]
        have Hn2 : Hid ((numB n ++ putF [] (l.take (j + 1))).length ≤ 300000) := by
          show _ ≤ _
          have h1 := Hlen.out (j + 1) (by omega)
          have : (j + 1) * 1042 ≤ 200 * 1042 := Nat.mul_le_mul_right _ (by omega)
          omega
        generalize l[j] = x at *
        generalize numB n ++ putF [] (l.take j) = B0 at *
        obtain ⟨cm, hK⟩ : ∃ cm, comM lst x = cm := ⟨_, rfl⟩
        rw [hK] at hco hcl Hsn
        obtain ⟨L, hL⟩ : ∃ L, x.length = L := ⟨_, rfl⟩
        have hKL : cm ≤ L := by rw [← hL]; exact hcl.2.1
        have hL4 : L ≤ 1024 := by rw [← hL]; exact hxl
        rw [hL] at Hsn
        have hsz := St8_size x
        rw [hL] at hsz
        have hdr := St8_drop x cm L (by omega)
        have hdl : (x.drop cm).length = L - cm := by rw [List.length_drop, hL]
        have Hdl := Lib.hid hdl
        have hKI : (cm : Int) ≤ (L : Int) := by omega
        have hK0 : (0 : Int) ≤ (cm : Int) := by omega
        have hwK : IntKind.u64.wrap (cm : Int) = (cm : Int) := by rw [IntKind.wrap_u64]; omega
        have hnK := numB_le (n := cm) (by omega)
        clear hK hL hrw hjl hcl hxl hlstl hdl
        generalize x.drop cm = y at *
        have Hcw : Hid (∀ w', Below wr.heap.size wr w' → w'.cell? ⟨b, o + j, none⟩ = some (.string (St8 x))) := fun w' h => cell_keep h c0
        go_wp2_with fail
        refine (hco.out _).mono ?_
        rintro e w4 ⟨rfl, q4, rfl⟩
        have Hb4 : Hid (Below w.heap.size w (wr.drewN q4)) := below_drewN' Hb.out q4
        have Hrd4 : Hid (Rd (wr.drewN q4) A' (Bs B0)) := Hrd.out.rd
        have Hbr4 : Hid (Below wr.heap.size wr (wr.drewN q4)) := below_drewN' (Below.refl _ _) q4
        clear hco Hb Hrd c0
        go_wp2_with fail
        refine (rnum_any B0 bl c' cm A' _ Hbl.out Hrd4.out (by omega) (by omega)).mono ?_
        rintro e w5 ⟨A5, c5, rfl, ho5, hb5⟩
        have Hrd5 := Lib.hid ho5.rd
        have Hbr5 := Lib.hid (Hbr4.out.trans hb5)
        have Hb5 := Lib.hid (Hb4.out.trans (hb5.mono Hb4.out.size))
        have Hln5 : Hid ((B0 ++ numB cm).length = bl + (numB cm).length) := by show _ = _; rw [List.length_append, Hbl.out]
        have c5x := Hcw.out w5 Hbr5.out
        clear ho5 hb5 Hb4 Hrd4 Hbr4
        go_wp2_with fail
        refine (rtext_any (B0 ++ numB cm) y (bl + (numB cm).length) c5 (L - cm) A5 w5 Hln5.out Hdl.out Hrd5.out (by omega) (by omega)).mono ?_
        rintro e w6 ⟨A6, c6, rfl, ho6, hb6⟩
        rw [← Hsn.out] at ho6
        have Hrd6 := Lib.hid (ho6.lower Hb5.out.size)
        have Hl6 : Hid ((numB n ++ putF [] (l.take (j + 1))).length = bl + (numB cm).length + (numB (L - cm)).length + (L - cm)) := by
          show _ = _
          have := ho6.1
          rw [List.length_map, Nat.mul_one] at this
          exact this
        have Hb6 := Lib.hid (Hb5.out.trans (hb6.mono Hb5.out.size))
        have c6x := Hcw.out w6 (Hbr5.out.trans (hb6.mono Hbr5.out.size))
        clear ho6 hb6 Hb5 Hrd5 Hbr5
        go_wp2_with fail
        go_roundw
        case rel => exact ⟨j + 1, _, c6, A6, x, rfl, rfl, by go_num, by omega, Hl6, Hls2, Hrd6, Hb6⟩
        case measure => simp only [intOf, Int.toNat_natCast]; omega
      · obtain rfl : j = n := by omega
        have Htk := Lib.hid (List.take_of_length_le (l := l) (i := j) (by rw [Hl.out]; exact Nat.le_refl _))
        go_wp2_with fail
        go_ret2
        refine ⟨.inr ⟨_, A', c', hf.out, ?_, ?_⟩, Hb.out⟩
        · have h1 := Hbl.out
          rw [Htk.out] at h1
          rw [h1]
          rfl
        · have h1 := Hrd.out
          have h2 := Hbl.out
          rw [Htk.out] at h1 h2
          rw [h2]
          exact h1
end Go.Proofs.Ytojppmnmhdgnnaa
