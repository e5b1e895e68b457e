/- Walks: with how many bytes texts begin alike; words as bytes; of words their places among others. Walks: words as bytes. Walks: of words their places among others. -/
import Derived.Test.YtojppmnmhdgnnaaGreatMDwCD
import Derived.Test.YtojppmnmhdgnnaaGreatMDwFG
import Derived.Test.YtojppmnmhdgnnaaGreatMOcPT
import Derived.Test.YtojppmnmhdgnnaaGreatMJoMW
namespace Go.Proofs.YtojppmnmhdgnnaaGreat
set_option linter.unusedVariables false
set_option linter.unusedSimpArgs false
open Go.RowKit

attribute [local go_sem ↓] Go.wp_at_zero Go.wp_at_succ

theorem St8_at (l : List UInt8) (j : Nat) (hj : j < l.length) (h : j < (St8 l).size) : (St8 l)[j]'h = l[j] := rfl
theorem St8_drop (l : List UInt8) (n m : Nat) (hm : l.length ≤ m) : (St8 l).extract n m = St8 (l.drop n) := by
  unfold St8
  ext1
  simp only [ByteArray.data_extract]
  rw [List.extract_toArray, List.extract_eq_take_drop]
  rw [List.take_of_length_le (by rw [List.length_drop]; omega)]

theorem getB_of {l : List UInt8} {j : Nat} (h : j < l.length) : l.getD j 0 = l[j] := by
  rw [List.getD_eq_getElem?_getD, List.getElem?_eq_getElem h]
  rfl

set_option maxHeartbeats 4000000 in
set_option maxRecDepth 100000 in
theorem dcommon_any (x y : List UInt8) (w : World) (hx : x.length ≤ 1000000) (hy : y.length ≤ 1000000) :
    Calls Tryz.prog 57 #[.string (St8 x), .string (St8 y)] w fun e w' => e = .returned (.int .i64 ((comM x y : Nat) : Int)) ∧ ∃ q, w' = w.drewN q := by
  obtain ⟨R, hR⟩ : ∃ R, comM x y = R := ⟨_, rfl⟩
  rw [hR]
  have hsx := St8_size x
  have hsy := St8_size y
  have HR := Lib.hid hR
  obtain ⟨X, hX⟩ : ∃ X, x.length = X := ⟨_, rfl⟩
  obtain ⟨Y, hY⟩ : ∃ Y, y.length = Y := ⟨_, rfl⟩
  obtain ⟨N, hN⟩ : ∃ N, min X Y = N := ⟨_, rfl⟩
  have hmin : min (X : Int) (Y : Int) = (N : Int) := by omega
  have hNX : N ≤ X := by omega
  have hNY : N ≤ Y := by omega
  rw [hX] at hsx hx
  rw [hY] at hsy hy
  have HX := Lib.hid hX
  have HY := Lib.hid hY
  have HN := Lib.hid hN
  clear hR hX hY hN
  go_enter Tryz.func57, Tryz.ntmps57
  go_wp2_with fail
  go_loopw [13] (fun vi wr => ∃ (j q : Nat), vi = .int .i64 (j : Int) ∧ j ≤ N ∧ wr = w.drewN q ∧ Hid (∀ t, t < j → x.getD t 0 = y.getD t 0)) (fun vi _ => N - (intOf vi).toNat)
  case atStart => exact ⟨0, 0, rfl, by omega, rfl, fun t h => absurd h (Nat.not_lt_zero _)⟩
  case round =>
    obtain ⟨j, q, rfl, hj, hw, Hs⟩ := hrel
    have Hw := Lib.hid hw
    clear hw
    by_cases hjn : j < N
    · have hjx : j < x.length := by rw [HX.out]; omega
      have hjy : j < y.length := by rw [HY.out]; omega
      have hjX : (j : Int) < (X : Int) := by omega
      have hjY : (j : Int) < (Y : Int) := by omega
      have hj0 : (0 : Int) ≤ (j : Int) := by omega
      have hjI : (j : Int) < (N : Int) := by omega
      have ix : ∀ h, (St8 x)[j]'h = x[j] := fun h => St8_at x j hjx h
      have iy : ∀ h, (St8 y)[j]'h = y[j] := fun h => St8_at y j hjy h
      have gx := Lib.hid (getB_of hjx)
      have gy := Lib.hid (getB_of hjy)
      by_cases hab : x[j] = y[j]
      · have Hs2 : Hid (∀ t, t < j + 1 → x.getD t 0 = y.getD t 0) := fun t ht => by
          by_cases e : t = j
          · subst e; rw [gx.out, gy.out, hab]
          · exact Hs.out t (by omega)
        have hne : ((x[j].toNat : Int) != (y[j].toNat : Int)) = false := by rw [hab]; simp
        clear hab gx gy Hs
        go_wp2_with fail
        go_quiet (fail)
        go_wp2_with fail
        go_roundw
        case rel => exact ⟨j + 1, q + nq, by go_num, by omega, by rw [Hw.out, World.drewN_drewN], Hs2⟩
        case measure => simp only [intOf, Int.toNat_natCast]; omega
      · have hf : Hid (R = j) := by
          show _ = _
          rw [← HR.out]
          exact comM_at x y j (by rw [HX.out]; omega) (by rw [HY.out]; omega) Hs.out (.inr (by rw [gx.out, gy.out]; exact hab))
        have hne : ((x[j].toNat : Int) != (y[j].toNat : Int)) = true := by
          rw [bne_iff_ne]
          intro e
          exact hab (UInt8.toNat_inj.1 (by omega))
        clear hab gx gy Hs
        go_wp2_with fail
        go_quiet (fail)
        go_wp2_with fail
        go_ret
        rw [hf.out]
        exact ⟨rfl, q + nq, by rw [Hw.out, World.drewN_drewN]⟩
    · obtain rfl : j = N := by omega
      have hf : Hid (R = j) := by
        show _ = _
        rw [← HR.out]
        exact comM_at x y j (by rw [HX.out]; omega) (by rw [HY.out]; omega) Hs.out (.inl (by rw [HX.out, HY.out]; exact HN.out.symm))
      go_wp2_with fail
      go_ret
      rw [hf.out]
      exact ⟨rfl, q, Hw.out⟩

set_option maxHeartbeats 4000000 in
set_option maxRecDepth 100000 in
theorem drcommon_any (x y : List UInt8) (w : World) (hx : x.length ≤ 1000000) (hy : y.length ≤ 1000000) :
    Calls Tryz.prog 83 #[.string (St8 x), .string (St8 y)] w fun e w' => e = .returned (.int .i64 ((comM x y : Nat) : Int)) ∧ ∃ q, w' = w.drewN q := by
  obtain ⟨R, hR⟩ : ∃ R, comM x y = R := ⟨_, rfl⟩
  rw [hR]
  have hsx := St8_size x
  have hsy := St8_size y
  have HR := Lib.hid hR
  obtain ⟨X, hX⟩ : ∃ X, x.length = X := ⟨_, rfl⟩
  obtain ⟨Y, hY⟩ : ∃ Y, y.length = Y := ⟨_, rfl⟩
  rw [hX] at hsx hx
  rw [hY] at hsy hy
  have HX := Lib.hid hX
  have HY := Lib.hid hY
  clear hR hX hY
  go_enter Tryz.func83, Tryz.ntmps83
  go_wp2_with fail
  go_loopw [5] (fun vi wr => ∃ (j q : Nat), vi = .int .i64 (j : Int) ∧ j ≤ X ∧ j ≤ Y ∧ wr = w.drewN q ∧ Hid (∀ t, t < j → x.getD t 0 = y.getD t 0)) (fun vi _ => X - (intOf vi).toNat)
  case atStart => exact ⟨0, 0, rfl, by omega, by omega, rfl, fun t h => absurd h (Nat.not_lt_zero _)⟩
  case round =>
    obtain ⟨j, q, rfl, hjx0, hjy0, hw, Hs⟩ := hrel
    have Hw := Lib.hid hw
    clear hw
    have hj0 : (0 : Int) ≤ (j : Int) := by omega
    by_cases hjx1 : j < X
    · have hjX : (j : Int) < (X : Int) := by omega
      by_cases hjy1 : j < Y
      · have hjY : (j : Int) < (Y : Int) := by omega
        have hjx : j < x.length := by rw [HX.out]; exact hjx1
        have hjy : j < y.length := by rw [HY.out]; exact hjy1
        have ix : ∀ h, (St8 x)[j]'h = x[j] := fun h => St8_at x j hjx h
        have iy : ∀ h, (St8 y)[j]'h = y[j] := fun h => St8_at y j hjy h
        have gx := Lib.hid (getB_of hjx)
        have gy := Lib.hid (getB_of hjy)
        by_cases hab : x[j] = y[j]
        · have Hs2 : Hid (∀ t, t < j + 1 → x.getD t 0 = y.getD t 0) := fun t ht => by
            by_cases e : t = j
            · subst e; rw [gx.out, gy.out, hab]
            · exact Hs.out t (by omega)
          have hne : ((x[j].toNat : Int) == (y[j].toNat : Int)) = true := by rw [hab]; simp
          clear hab gx gy Hs
          go_wp2_with fail
          go_quiet (fail)
          go_wp2_with fail
          go_roundw
          case rel => exact ⟨j + 1, q + nq, by go_num, by omega, by omega, by rw [Hw.out, World.drewN_drewN], Hs2⟩
          case measure => simp only [intOf, Int.toNat_natCast]; omega
        · have hf : Hid (R = j) := by
            show _ = _
            rw [← HR.out]
            exact comM_at x y j (by rw [HX.out]; omega) (by rw [HY.out]; omega) Hs.out (.inr (by rw [gx.out, gy.out]; exact hab))
          have hne : ((x[j].toNat : Int) == (y[j].toNat : Int)) = false := by
            rw [beq_eq_false_iff_ne]
            intro e
            exact hab (UInt8.toNat_inj.1 (by omega))
          clear hab gx gy Hs
          go_wp2_with fail
          go_quiet (fail)
          go_wp2_with fail
          go_ret
          rw [hf.out]
          exact ⟨rfl, q + nq, by rw [Hw.out, World.drewN_drewN]⟩
      · have hf : Hid (R = j) := by
          show _ = _
          rw [← HR.out]
          exact comM_at x y j (by rw [HX.out]; omega) (by rw [HY.out]; omega) Hs.out (.inl (by rw [HX.out, HY.out]; omega))
        have hjY : decide ((j : Int) < (Y : Int)) = false := decide_eq_false (by omega)
        have hjYn : decide (j < Y) = false := decide_eq_false (by omega)
        go_wp2_with fail
        go_quiet (fail)
        go_wp2_with fail
        go_ret
        rw [hf.out]
        exact ⟨rfl, q + nq, by rw [Hw.out, World.drewN_drewN]⟩
    · have hf : Hid (R = j) := by
        show _ = _
        rw [← HR.out]
        exact comM_at x y j (by rw [HX.out]; omega) (by rw [HY.out]; omega) Hs.out (.inl (by rw [HX.out, HY.out]; omega))
      have hjX : decide ((j : Int) < (X : Int)) = false := decide_eq_false (by omega)
      have hjXn : decide (j < X) = false := decide_eq_false (by omega)
      go_wp2_with fail
      go_quiet (fail)
      go_wp2_with fail
      go_ret
      rw [hf.out]
      exact ⟨rfl, q + nq, by rw [Hw.out, World.drewN_drewN]⟩
end Go.Proofs.YtojppmnmhdgnnaaGreat
namespace Go.Proofs.YtojppmnmhdgnnaaGreat
set_option linter.unusedVariables false
set_option linter.unusedSimpArgs false
open Go.RowKit

attribute [local go_sem ↓] Go.wp_at_zero Go.wp_at_succ

/-- How Put ends. -/
def PutOK (l : List (List UInt8)) (w : World) (e : Ending) (w' : World) : Prop :=
  ((putM l = none ∧ e = .returned (.tuple #[.slice none 0 0, .int .i64 1])) ∨ ∃ b A c, putM l = some b ∧ e = .returned (.tuple #[.slice A b.length c, .int .i64 0]) ∧ Own w' w.heap.size 5 1 A b.length c (Bs b)) ∧ Below w.heap.size w w'
theorem numB_le {n : Nat} (h : n < 18446744073709551616) : (numB n).length ≤ 9 := by
  unfold numB
  split
  · simp
  · have := lenB_le h
    rw [List.length_cons, big_len]
    omega

set_option maxHeartbeats 8000000 in
set_option maxRecDepth 100000 in
theorem dput_any (l : List (List UInt8)) (n c : Nat) (A : Option Addr) (w : World) (hl : l.length = n) (hr : Rd w A (wcl l)) (hn : n ≤ 1000000) :
    Calls Tryz.prog 92 #[.slice A n c] w fun e w' => PutOK l w e w' := by
  have hri := Lib.hid (dright_any l n c A w hl hr hn)
  have Hl := Lib.hid hl
  have Hr := Lib.hid hr
  clear hl hr
  cases hR : rightW l
  · have hf : Hid (putM l = none) := by show _ = _; unfold putM; rw [hR]; rfl
    rw [hR] at hri
    clear hR
    go_enter Tryz.func92, Tryz.ntmps92
    go_wp2_with fail
    refine hri.out.mono ?_
    rintro e w1 ⟨rfl, q, rfl⟩
    go_wp2_with fail
    go_ret2
    exact ⟨.inl ⟨hf.out, rfl⟩, below_drewN' (Below.refl _ _) q⟩
  · have hf : Hid (putM l = some (numB n ++ putF [] l)) := by show _ = _; unfold putM; rw [hR, ← Hl.out]; rfl
    have hle := rightW_le hR
    have Hle := Lib.hid hle.1
    have hn2 : n ≤ 200 := by rw [← Hl.out]; exact hle.2
    rw [hR] at hri
    clear hR hle
    have Hlen : Hid (∀ j, j ≤ n → (numB n ++ putF [] (l.take j)).length ≤ 9 + j * 1042) := fun j hj => by
      have h1 := numB_le (n := n) (by omega)
      have h2 := putF_len (l.take j) [] (by simp) (fun x hx => Hle.out x (List.mem_of_mem_take hx))
      have h3 : (l.take j).length = j := by rw [List.length_take, Hl.out]; omega
      rw [h3] at h2
      rw [List.length_append]
      omega
    go_enter Tryz.func92, Tryz.ntmps92
    go_wp2_with fail
    refine hri.out.mono ?_
    rintro e w1 ⟨rfl, q, rfl⟩
    have hw64 : IntKind.u64.wrap (n : Int) = (n : Int) := by rw [IntKind.wrap_u64]; omega
    go_wp2_with fail
    refine (onum_any [] 0 0 n none _ rfl (Rd.nil _ _) (by omega) (by omega)).mono ?_
    rintro e w2 ⟨A2, c2, rfl, ho2, hb2⟩
    rw [List.nil_append] at ho2
    have hrd2 : Own w2 w.heap.size 5 1 A2 (numB n).length c2 (Bs (numB n)) := by
      have h := ho2
      rw [Nat.zero_add] at h
      exact h
    have hb02 : Below w.heap.size w w2 := (below_drewN' (Below.refl _ _) q).trans hb2
    have Hrd2 := Lib.hid hrd2
    have Hb02 := Lib.hid hb02
    clear ho2 hb2 hrd2 hb02
    have hb0 : Hid ((numB n ++ putF [] (l.take 0)).length = (numB n).length) := by show _ = _; rw [List.take_zero, List.length_append]; rfl
    go_wp2_with fail
    go_loopw [4, 5, 18] (fun vb vl vi wr => ∃ (j bl c' : Nat) (A' : Option Addr) (lst : List UInt8), vb = .slice A' bl c' ∧ vl = .string (St8 lst) ∧ vi = .int .i64 (j : Int) ∧ j ≤ n ∧ Hid ((numB n ++ putF [] (l.take j)).length = bl) ∧ Hid ((l.take j).getLastD [] = lst) ∧ Hid (Own wr w.heap.size 5 1 A' bl c' (Bs (numB n ++ putF [] (l.take j)))) ∧ Hid (Below w.heap.size w wr)) (fun _ _ vi _ => n - (intOf vi).toNat)
    case atStart => exact ⟨0, (numB n).length, c2, A2, [], rfl, rfl, rfl, by omega, hb0.out, rfl, by rw [List.take_zero, show putF [] [] = [] from rfl, List.append_nil]; exact Hrd2.out, Hb02.out⟩
    case round =>
      obtain ⟨j, bl, c', A', lst, rfl, rfl, rfl, hj, Hbl, Hlst, Hrd, Hb⟩ := hrel
      by_cases hjn : j < n
      · have hjl : j < l.length := by rw [Hl.out]; exact hjn
        have hjI : (j : Int) < (n : Int) := by omega
        have hj0 : (0 : Int) ≤ (j : Int) := by omega
        have hrw := Hr.out.below Hb.out
        obtain ⟨b, o, rfl, c0⟩ := hrw.word hjl
        have hxl : l[j].length ≤ 1024 := Hle.out _ (List.getElem_mem hjl)
        have hlstl : lst.length ≤ 1024 := by
          rw [← Hlst.out]
          cases hlj : (l.take j).getLast? with
          | none => rw [List.getLastD_eq_getLast?, hlj]; simp
          | some z => rw [List.getLastD_eq_getLast?, hlj]; exact Hle.out z (List.mem_of_mem_take (List.mem_of_getLast? hlj))
        have hbl : bl ≤ 9 + j * 1042 := by rw [← Hbl.out]; exact Hlen.out j hj
        have hbl6 : bl ≤ 300000 := by
          have : j * 1042 ≤ 200 * 1042 := Nat.mul_le_mul_right _ (by omega)
          omega
        have hco := Lib.hid (fun w' => dcommon_any lst l[j] w' (by omega) (by omega))
        have hcl := comM_le lst l[j]
        have Hsn : Hid (numB n ++ putF [] (l.take (j + 1)) = (numB n ++ putF [] (l.take j)) ++ numB (comM lst l[j]) ++ (numB (l[j].length - comM lst l[j]) ++ l[j].drop (comM lst l[j]))) := by
          show _ = _
          rw [List.take_succ_eq_append_getElem hjl, putF_snoc, Hlst.out, List.length_drop]
          simp only [List.append_assoc]
        have Hls2 : Hid ((l.take (j + 1)).getLastD [] = l[j]) := by
          show _ = _
          rw [List.take_succ_eq_append_getElem hjl, List.getLastD_concat]
        have Hn2 : Hid ((numB n ++ putF [] (l.take (j + 1))).length ≤ 300000) := by
          show _ ≤ _
          have h1 := Hlen.out (j + 1) (by omega)
          have : (j + 1) * 1042 ≤ 200 * 1042 := Nat.mul_le_mul_right _ (by omega)
          omega
        generalize l[j] = x at *
        generalize numB n ++ putF [] (l.take j) = B0 at *
        obtain ⟨cm, hK⟩ : ∃ cm, comM lst x = cm := ⟨_, rfl⟩
        rw [hK] at hco hcl Hsn
        obtain ⟨L, hL⟩ : ∃ L, x.length = L := ⟨_, rfl⟩
        have hKL : cm ≤ L := by rw [← hL]; exact hcl.2.1
        have hL4 : L ≤ 1024 := by rw [← hL]; exact hxl
        rw [hL] at Hsn
        have hsz := St8_size x
        rw [hL] at hsz
        have hdr := St8_drop x cm L (by omega)
        have hdl : (x.drop cm).length = L - cm := by rw [List.length_drop, hL]
        have Hdl := Lib.hid hdl
        have hKI : (cm : Int) ≤ (L : Int) := by omega
        have hK0 : (0 : Int) ≤ (cm : Int) := by omega
        have hwK : IntKind.u64.wrap (cm : Int) = (cm : Int) := by rw [IntKind.wrap_u64]; omega
        have hnK := numB_le (n := cm) (by omega)
        clear hK hL hrw hjl hcl hxl hlstl hdl
        generalize x.drop cm = y at *
        go_wp2_with fail
        refine (hco.out _).mono ?_
        rintro e w4 ⟨rfl, q4, rfl⟩
        have Hb4 : Hid (∀ d, Below w.heap.size w (wr.drewN d)) := fun d => below_drewN' Hb.out d
        have Hrd4 : Hid (∀ d, Rd (wr.drewN d) A' (Bs B0)) := fun d => Hrd.out.rd.drewN d
        clear hco Hb Hrd c0
        go_wp2_with fail
        refine wp_region_held_drew (S := fun w' => True) (by kernel_rfl) trivial (fun hHeld => ?_)
        (refine wpAnyH_take (i := 0) (oi := ?oi0_1) (v := ?vv0_1) ?hi0_1 (by kernel_rfl) (by kernel_rfl) (by kernel_rfl) ?hQ0_1 ?hy0_1 (by assumption) ?rest0_1; (case hi0_1 => ((simp only [List.getElem?_toArray, List.getElem?_cons_zero]); rfl)); (case hQ0_1 => exact (fun _ _ _ h => h)); (case hy0_1 => (refine Or.inl ⟨by rfl, ?_⟩; intro w hSw; (try dsimp only at hSw); go_simp; try (with_reducible rfl))); (try simp only [Act.put, List.setIfInBounds_toArray, List.set_cons_zero, List.set_cons_succ]))
        (refine wpAnyH_take (i := 1) (oi := ?oi1_2) (v := ?vv1_2) ?hi1_2 (by kernel_rfl) (by kernel_rfl) (by kernel_rfl) ?hQ1_2 ?hy1_2 (by assumption) ?rest1_2; (case hi1_2 => ((simp only [List.getElem?_toArray, List.getElem?_cons_succ, List.getElem?_cons_zero]); rfl)); (case hQ1_2 => exact (fun _ _ _ h => h)); (case hy1_2 => (refine Or.inl ⟨by rfl, ?_⟩; intro w hSw; (try dsimp only at hSw); go_simp; try (with_reducible rfl))); (try simp only [Act.put, List.setIfInBounds_toArray, List.set_cons_zero, List.set_cons_succ]))
        (refine wpAnyH_take (i := 2) (oi := ?oi2_3) (v := ?vv2_3) ?hi2_3 (by kernel_rfl) (by kernel_rfl) (by kernel_rfl) ?hQ2_3 ?hy2_3 (by assumption) ?rest2_3; (case hi2_3 => ((simp only [List.getElem?_toArray, List.getElem?_cons_succ, List.getElem?_cons_zero]); rfl)); (case hQ2_3 => exact (fun _ _ _ h => h)); (case hy2_3 => (refine Or.inl ⟨by rfl, ?_⟩; intro w hSw; (try dsimp only at hSw); go_simp; try (with_reducible rfl))); (try simp only [Act.put, List.setIfInBounds_toArray, List.set_cons_zero, List.set_cons_succ]))
        (refine wpAnyH_take (i := 4) (oi := ?oi4_4) (v := ?vv4_4) ?hi4_4 (by kernel_rfl) (by kernel_rfl) (by kernel_rfl) ?hQ4_4 ?hy4_4 (by assumption) ?rest4_4; (case hi4_4 => ((simp only [List.getElem?_toArray, List.getElem?_cons_succ, List.getElem?_cons_zero]); rfl)); (case hQ4_4 => exact (fun _ _ _ h => h)); (case hy4_4 => (refine Or.inl ⟨by rfl, ?_⟩; intro w hSw; (try dsimp only at hSw); go_simp; try (with_reducible rfl))); (try simp only [Act.put, List.setIfInBounds_toArray, List.set_cons_zero, List.set_cons_succ]))
        (refine wpAnyH_take (i := 5) (oi := ?oi5_5) (v := ?vv5_5) ?hi5_5 (by kernel_rfl) (by kernel_rfl) (by kernel_rfl) ?hQ5_5 ?hy5_5 (by assumption) ?rest5_5; (case hi5_5 => ((simp only [List.getElem?_toArray, List.getElem?_cons_succ, List.getElem?_cons_zero]); rfl)); (case hQ5_5 => exact (fun _ _ _ h => h)); (case hy5_5 => (refine Or.inl ⟨by rfl, ?_⟩; intro w hSw; (try dsimp only at hSw); go_simp; try (with_reducible rfl))); (try simp only [Act.put, List.setIfInBounds_toArray, List.set_cons_zero, List.set_cons_succ]))
        (refine wpAnyH_take (i := 6) (oi := ?oi6_6) (v := ?vv6_6) ?hi6_6 (by kernel_rfl) (by kernel_rfl) (by kernel_rfl) ?hQ6_6 ?hy6_6 (by assumption) ?rest6_6; (case hi6_6 => ((simp only [List.getElem?_toArray, List.getElem?_cons_succ, List.getElem?_cons_zero]); rfl)); (case hQ6_6 => exact (fun _ _ _ h => h)); (case hy6_6 => (refine Or.inl ⟨by rfl, ?_⟩; intro w hSw; (try dsimp only at hSw); go_simp; try (with_reducible rfl))); (try simp only [Act.put, List.setIfInBounds_toArray, List.set_cons_zero, List.set_cons_succ]))
        (refine wpAnyH_ready (rs := [3]) (by kernel_rfl) (by simp) ?_; refine AllReadyH.cons (o := ?oc3_7) ?ho3_7 (fun K hK => ?_) AllReadyH.nil; (case ho3_7 => ((simp only [List.getElem?_toArray, List.getElem?_cons_succ, List.getElem?_cons_zero]); rfl)); go_simp)
        refine (onum_any B0 bl c' cm A' _ Hbl.out (Hrd4.out _) (by omega) (by omega)).mono ?_
        rintro e w5 ⟨A5, c5, rfl, ho5, hb5⟩
        have Hrd5 := Lib.hid ho5.rd
        have Hb5 := Lib.hid ((Hb4.out _).trans (hb5.mono (Hb4.out _).size))
        have Hln5 : Hid ((B0 ++ numB cm).length = bl + (numB cm).length) := by show _ = _; rw [List.length_append, Hbl.out]
        clear ho5 hb5 Hb4 Hrd4
        go_wp2_with fail
        refine hK.out _ _ trivial (fun hHeld2 => ?_)
        clear hK
        (try simp only [Act.put, List.setIfInBounds_toArray, List.set_cons_zero, List.set_cons_succ])
        (refine wpAnyH_ready (rs := [7]) (by kernel_rfl) (by simp) ?_; refine AllReadyH.cons (o := ?oc7_8) ?ho7_8 (fun K hK => ?_) AllReadyH.nil; (case ho7_8 => ((simp only [List.getElem?_toArray, List.getElem?_cons_succ, List.getElem?_cons_zero]); rfl)); go_simp)
        refine (text_any (B0 ++ numB cm) y (bl + (numB cm).length) c5 (L - cm) A5 w5 Hln5.out Hdl.out Hrd5.out (by omega) (by omega)).mono ?_
        rintro e w6 ⟨A6, c6, rfl, ho6, hb6⟩
        rw [← Hsn.out] at ho6
        have Hrd6 := Lib.hid (ho6.lower Hb5.out.size)
        have Hl6 : Hid ((numB n ++ putF [] (l.take (j + 1))).length = bl + (numB cm).length + (numB (L - cm)).length + (L - cm)) := by
          show _ = _
          have := ho6.1
          rw [List.length_map, Nat.mul_one] at this
          exact this
        have Hb6 := Lib.hid (Hb5.out.trans (hb6.mono Hb5.out.size))
        clear ho6 hb6 Hb5 Hrd5
        go_wp2_with fail
        refine hK.out _ _ trivial (fun hHeld3 => ?_)
        clear hK
        (try simp only [Act.put, List.setIfInBounds_toArray, List.set_cons_zero, List.set_cons_succ])
        (refine wpAnyH_take (i := 8) (oi := ?oi8_9) (v := ?vv8_9) ?hi8_9 (by kernel_rfl) (by kernel_rfl) (by kernel_rfl) ?hQ8_9 ?hy8_9 (by assumption) ?rest8_9; (case hi8_9 => ((simp only [List.getElem?_toArray, List.getElem?_cons_succ, List.getElem?_cons_zero]); rfl)); (case hQ8_9 => exact (fun _ _ _ h => h)); (case hy8_9 => (refine Or.inl ⟨by rfl, ?_⟩; intro w hSw; (try dsimp only at hSw); go_simp; try (with_reducible rfl))); (try simp only [Act.put, List.setIfInBounds_toArray, List.set_cons_zero, List.set_cons_succ]))
        refine wpAnyH_done (by kernel_rfl) ?_ _
        clear hHeld hHeld2 hHeld3
        go_wp2_with fail
        go_roundw
        case rel => exact ⟨j + 1, _, c6, A6, x, rfl, rfl, by go_num, by omega, Hl6, Hls2, Hrd6, Hb6⟩
        case measure => simp only [intOf, Int.toNat_natCast]; omega
      · obtain rfl : j = n := by omega
        have Htk := Lib.hid (List.take_of_length_le (l := l) (i := j) (by rw [Hl.out]; exact Nat.le_refl _))
        go_wp2_with fail
        go_ret2
        refine ⟨.inr ⟨_, A', c', hf.out, ?_, ?_⟩, Hb.out⟩
        · have h1 := Hbl.out
          rw [Htk.out] at h1
          rw [h1]
          rfl
        · have h1 := Hrd.out
          have h2 := Hbl.out
          rw [Htk.out] at h1 h2
          rw [h2]
          exact h1

set_option maxHeartbeats 8000000 in
set_option maxRecDepth 100000 in
theorem drput_any (l : List (List UInt8)) (n c : Nat) (A : Option Addr) (w : World) (hl : l.length = n) (hr : Rd w A (wcl l)) (hn : n ≤ 1000000) :
    Calls Tryz.prog 60 #[.slice A n c] w fun e w' => PutOK l w e w' := by
  have hri := Lib.hid (drright_any l n c A w hl hr hn)
  have Hl := Lib.hid hl
  have Hr := Lib.hid hr
  clear hl hr
  cases hR : rightW l
  · have hf : Hid (putM l = none) := by show _ = _; unfold putM; rw [hR]; rfl
    rw [hR] at hri
    clear hR
    go_enter Tryz.func60, Tryz.ntmps60
    go_wp2_with fail
    refine hri.out.mono ?_
    rintro e w1 ⟨rfl, q, rfl⟩
    go_wp2_with fail
    go_ret2
    exact ⟨.inl ⟨hf.out, rfl⟩, below_drewN' (Below.refl _ _) q⟩
  · have hf : Hid (putM l = some (numB n ++ putF [] l)) := by show _ = _; unfold putM; rw [hR, ← Hl.out]; rfl
    have hle := rightW_le hR
    have Hle := Lib.hid hle.1
    have hn2 : n ≤ 200 := by rw [← Hl.out]; exact hle.2
    rw [hR] at hri
    clear hR hle
    have Hlen : Hid (∀ j, j ≤ n → (numB n ++ putF [] (l.take j)).length ≤ 9 + j * 1042) := fun j hj => by
      have h1 := numB_le (n := n) (by omega)
      have h2 := putF_len (l.take j) [] (by simp) (fun x hx => Hle.out x (List.mem_of_mem_take hx))
      have h3 : (l.take j).length = j := by rw [List.length_take, Hl.out]; omega
      rw [h3] at h2
      rw [List.length_append]
      omega
    go_enter Tryz.func60, Tryz.ntmps60
    go_wp2_with fail
    refine hri.out.mono ?_
    rintro e w1 ⟨rfl, q, rfl⟩
    have hw64 : IntKind.u64.wrap (n : Int) = (n : Int) := by rw [IntKind.wrap_u64]; omega
    go_wp2_with fail
    refine (rnum_any [] 0 0 n none _ rfl (Rd.nil _ _) (by omega) (by omega)).mono ?_
    rintro e w2 ⟨A2, c2, rfl, ho2, hb2⟩
    rw [List.nil_append] at ho2
    have hrd2 : Own w2 w.heap.size 5 1 A2 (numB n).length c2 (Bs (numB n)) := by
      have h := ho2
      rw [Nat.zero_add] at h
      exact h
    have hb02 : Below w.heap.size w w2 := (below_drewN' (Below.refl _ _) q).trans hb2
    have Hrd2 := Lib.hid hrd2
    have Hb02 := Lib.hid hb02
    clear ho2 hb2 hrd2 hb02
    have hb0 : Hid ((numB n ++ putF [] (l.take 0)).length = (numB n).length) := by show _ = _; rw [List.take_zero, List.length_append]; rfl
    go_wp2_with fail
    go_loopw [4, 5, 6] (fun vb vl vi wr => ∃ (j bl c' : Nat) (A' : Option Addr) (lst : List UInt8), vb = .slice A' bl c' ∧ vl = .string (St8 lst) ∧ vi = .int .i64 (j : Int) ∧ j ≤ n ∧ Hid ((numB n ++ putF [] (l.take j)).length = bl) ∧ Hid ((l.take j).getLastD [] = lst) ∧ Hid (Own wr w.heap.size 5 1 A' bl c' (Bs (numB n ++ putF [] (l.take j)))) ∧ Hid (Below w.heap.size w wr)) (fun _ _ vi _ => n - (intOf vi).toNat)
    case atStart => exact ⟨0, (numB n).length, c2, A2, [], rfl, rfl, rfl, by omega, hb0.out, rfl, by rw [List.take_zero, show putF [] [] = [] from rfl, List.append_nil]; exact Hrd2.out, Hb02.out⟩
    case round =>
      obtain ⟨j, bl, c', A', lst, rfl, rfl, rfl, hj, Hbl, Hlst, Hrd, Hb⟩ := hrel
      by_cases hjn : j < n
      · have hjl : j < l.length := by rw [Hl.out]; exact hjn
        have hjI : (j : Int) < (n : Int) := by omega
        have hj0 : (0 : Int) ≤ (j : Int) := by omega
        have hrw := Hr.out.below Hb.out
        obtain ⟨b, o, rfl, c0⟩ := hrw.word hjl
        have hxl : l[j].length ≤ 1024 := Hle.out _ (List.getElem_mem hjl)
        have hlstl : lst.length ≤ 1024 := by
          rw [← Hlst.out]
          cases hlj : (l.take j).getLast? with
          | none => rw [List.getLastD_eq_getLast?, hlj]; simp
          | some z => rw [List.getLastD_eq_getLast?, hlj]; exact Hle.out z (List.mem_of_mem_take (List.mem_of_getLast? hlj))
        have hbl : bl ≤ 9 + j * 1042 := by rw [← Hbl.out]; exact Hlen.out j hj
        have hbl6 : bl ≤ 300000 := by
          have : j * 1042 ≤ 200 * 1042 := Nat.mul_le_mul_right _ (by omega)
          omega
        have hco := Lib.hid (fun w' => drcommon_any lst l[j] w' (by omega) (by omega))
        have hcl := comM_le lst l[j]
        have Hsn : Hid (numB n ++ putF [] (l.take (j + 1)) = (numB n ++ putF [] (l.take j)) ++ numB (comM lst l[j]) ++ (numB (l[j].length - comM lst l[j]) ++ l[j].drop (comM lst l[j]))) := by
          show _ = _
          rw [List.take_succ_eq_append_getElem hjl, putF_snoc, Hlst.out, List.length_drop]
          simp only [List.append_assoc]
        have Hls2 : Hid ((l.take (j + 1)).getLastD [] = l[j]) := by
          show _ = _
          rw [List.take_succ_eq_append_getElem hjl, List.getLastD_concat]
        have Hn2 : Hid ((numB n ++ putF [] (l.take (j + 1))).length ≤ 300000) := by
          show _ ≤ _
          have h1 := Hlen.out (j + 1) (by omega)
          have : (j + 1) * 1042 ≤ 200 * 1042 := Nat.mul_le_mul_right _ (by omega)
          omega
        generalize l[j] = x at *
        generalize numB n ++ putF [] (l.take j) = B0 at *
        obtain ⟨cm, hK⟩ : ∃ cm, comM lst x = cm := ⟨_, rfl⟩
        rw [hK] at hco hcl Hsn
        obtain ⟨L, hL⟩ : ∃ L, x.length = L := ⟨_, rfl⟩
        have hKL : cm ≤ L := by rw [← hL]; exact hcl.2.1
        have hL4 : L ≤ 1024 := by rw [← hL]; exact hxl
        rw [hL] at Hsn
        have hsz := St8_size x
        rw [hL] at hsz
        have hdr := St8_drop x cm L (by omega)
        have hdl : (x.drop cm).length = L - cm := by rw [List.length_drop, hL]
        have Hdl := Lib.hid hdl
        have hKI : (cm : Int) ≤ (L : Int) := by omega
        have hK0 : (0 : Int) ≤ (cm : Int) := by omega
        have hwK : IntKind.u64.wrap (cm : Int) = (cm : Int) := by rw [IntKind.wrap_u64]; omega
        have hnK := numB_le (n := cm) (by omega)
        clear hK hL hrw hjl hcl hxl hlstl hdl
        generalize x.drop cm = y at *
        have Hcw : Hid (∀ w', Below wr.heap.size wr w' → w'.cell? ⟨b, o + j, none⟩ = some (.string (St8 x))) := fun w' h => cell_keep h c0
        go_wp2_with fail
        refine (hco.out _).mono ?_
        rintro e w4 ⟨rfl, q4, rfl⟩
        have Hb4 : Hid (Below w.heap.size w (wr.drewN q4)) := below_drewN' Hb.out q4
        have Hrd4 : Hid (Rd (wr.drewN q4) A' (Bs B0)) := Hrd.out.rd
        have Hbr4 : Hid (Below wr.heap.size wr (wr.drewN q4)) := below_drewN' (Below.refl _ _) q4
        clear hco Hb Hrd c0
        go_wp2_with fail
        refine (rnum_any B0 bl c' cm A' _ Hbl.out Hrd4.out (by omega) (by omega)).mono ?_
        rintro e w5 ⟨A5, c5, rfl, ho5, hb5⟩
        have Hrd5 := Lib.hid ho5.rd
        have Hbr5 := Lib.hid (Hbr4.out.trans hb5)
        have Hb5 := Lib.hid (Hb4.out.trans (hb5.mono Hb4.out.size))
        have Hln5 : Hid ((B0 ++ numB cm).length = bl + (numB cm).length) := by show _ = _; rw [List.length_append, Hbl.out]
        have c5x := Hcw.out w5 Hbr5.out
        clear ho5 hb5 Hb4 Hrd4 Hbr4
        go_wp2_with fail
        refine (rtext_any (B0 ++ numB cm) y (bl + (numB cm).length) c5 (L - cm) A5 w5 Hln5.out Hdl.out Hrd5.out (by omega) (by omega)).mono ?_
        rintro e w6 ⟨A6, c6, rfl, ho6, hb6⟩
        rw [← Hsn.out] at ho6
        have Hrd6 := Lib.hid (ho6.lower Hb5.out.size)
        have Hl6 : Hid ((numB n ++ putF [] (l.take (j + 1))).length = bl + (numB cm).length + (numB (L - cm)).length + (L - cm)) := by
          show _ = _
          have := ho6.1
          rw [List.length_map, Nat.mul_one] at this
          exact this
        have Hb6 := Lib.hid (Hb5.out.trans (hb6.mono Hb5.out.size))
        have c6x := Hcw.out w6 (Hbr5.out.trans (hb6.mono Hbr5.out.size))
        clear ho6 hb6 Hb5 Hrd5 Hbr5
        go_wp2_with fail
        go_roundw
        case rel => exact ⟨j + 1, _, c6, A6, x, rfl, rfl, by go_num, by omega, Hl6, Hls2, Hrd6, Hb6⟩
        case measure => simp only [intOf, Int.toNat_natCast]; omega
      · obtain rfl : j = n := by omega
        have Htk := Lib.hid (List.take_of_length_le (l := l) (i := j) (by rw [Hl.out]; exact Nat.le_refl _))
        go_wp2_with fail
        go_ret2
        refine ⟨.inr ⟨_, A', c', hf.out, ?_, ?_⟩, Hb.out⟩
        · have h1 := Hbl.out
          rw [Htk.out] at h1
          rw [h1]
          rfl
        · have h1 := Hrd.out
          have h2 := Hbl.out
          rw [Htk.out] at h1 h2
          rw [h2]
          exact h1
end Go.Proofs.YtojppmnmhdgnnaaGreat
namespace Go.Proofs.YtojppmnmhdgnnaaGreat
set_option linter.unusedVariables false
set_option linter.unusedSimpArgs false
open Go.RowKit

attribute [local go_sem ↓] Go.wp_at_zero Go.wp_at_succ

/-- How Turn ends. -/
def TurnOK (f t : List (List UInt8)) (w : World) (e : Ending) (w' : World) : Prop :=
  ((turnM f t = none ∧ e = .returned (.tuple #[.slice none 0 0, .int .i64 1])) ∨ ∃ p A c, turnM f t = some p ∧ e = .returned (.tuple #[.slice A p.length c, .int .i64 0]) ∧ Rd w' A (icl p)) ∧ Below w.heap.size w w'

end Go.Proofs.YtojppmnmhdgnnaaGreat
