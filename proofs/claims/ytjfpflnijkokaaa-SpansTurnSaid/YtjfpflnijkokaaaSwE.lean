/- The walk of spans.And: what is in both. -/
import Derived.Test.YtjfpflnijkokaaaSwD
import Derived.WalkMore
namespace Go.Proofs.Ytjfpflnijkokaaa
open Go.RowKit

attribute [local go_sem ↓] Go.wp_at_zero Go.wp_at_succ

theorem addS_len (l : List SpanM) (s : SpanM) : (addS l s).length ≤ l.length + 1 := by
  rcases List.eq_nil_or_concat l with rfl | ⟨l', t, e⟩
  · rw [addS_nil]
    split <;> simp
  · rw [List.concat_eq_append] at e
    subst e
    rw [addS_snoc]
    split
    · omega
    · split <;> simp
theorem and_stop (s : SpanM) (a out : List SpanM) : andF (s :: a) [] out = out := by rw [andF]
theorem and_end (b out : List SpanM) : andF [] b out = out := by rw [andF]
theorem and_step (s t : SpanM) (a b out : List SpanM) : andF (s :: a) (t :: b) out = if s.2 < t.2 then andF a (t :: b) (addS out (max s.1 t.1, min s.2 t.2)) else andF (s :: a) b (addS out (max s.1 t.1, min s.2 t.2)) := by rw [andF]

/-- How And ends: in memory of the call's own. -/
def AndOK (a b : List SpanM) (w : World) (e : Ending) (w' : World) : Prop :=
  ((¬ (rightS a = true ∧ rightS b = true) ∧ e = .returned (.tuple #[.slice none 0 0, .int .i64 1])) ∨ ((rightS a = true ∧ rightS b = true) ∧ ∃ A c, e = .returned (.tuple #[.slice A (andS a b).length c, .int .i64 0]) ∧ Own w' w.heap.size 40 2 A (andS a b).length c (spc (andS a b)))) ∧ Below w.heap.size w w'

set_option maxHeartbeats 16000000 in
set_option maxRecDepth 100000 in
theorem sand_any (a b : List SpanM) (n nb c cb : Nat) (A B : Option Addr) (w : World) (hl : a.length = n) (hr : Rd w A (spc a)) (hn : n ≤ 5000) (hlb : b.length = nb) (hrb : Rd w B (spc b)) (hnb : nb ≤ 5000) :
    Calls Try.prog 21 #[.slice A n c, .slice B nb cb] w fun e w' => AndOK a b w e w' := by
  have hri := Lib.hid (sright_any a n c A w hl hr (by omega))
  have hri2 := Lib.hid (fun w' (h : Below w.heap.size w w') => sright_any b nb cb B w' hlb (hrb.below h) (by omega))
  have Hl := Lib.hid hl
  have Hr := Lib.hid hr
  have Hlb := Lib.hid hlb
  have Hrb := Lib.hid hrb
  clear hl hr hlb hrb
  cases hR : rightS a
  · have hf : Hid (¬ (rightS a = true ∧ rightS b = true)) := by show ¬ _; rw [hR]; exact fun h => absurd h.1 (by decide)
    rw [hR] at hri
    clear hR
    go_enter Try.func21, Try.ntmps21
    go_wp2_with fail
    go_step3
    go_wp2_with fail
    refine hri.out.mono ?_
    rintro e w1 ⟨rfl, hb1⟩
    go_wp2_with fail
    try rw [Exit.noGoto_ret]
    go_ret2
    exact ⟨.inl ⟨hf.out, rfl⟩, hb1⟩
  · cases hR2 : rightS b
    · have hf : Hid (¬ (rightS a = true ∧ rightS b = true)) := by show ¬ _; rw [hR2]; exact fun h => absurd h.2 (by decide)
      rw [hR] at hri
      rw [hR2] at hri2
      clear hR hR2
      go_enter Try.func21, Try.ntmps21
      go_wp2_with fail
      go_step3
      go_wp2_with fail
      refine hri.out.mono ?_
      rintro e w1 ⟨rfl, hb1⟩
      go_wp2_with fail
      refine (hri2.out w1 hb1).mono ?_
      rintro e w2 ⟨rfl, hb2⟩
      go_wp2_with fail
      try rw [Exit.noGoto_ret]
      go_ret2
      exact ⟨.inl ⟨hf.out, rfl⟩, hb1.trans (hb2.mono hb1.size)⟩
    · have hf : Hid (rightS a = true ∧ rightS b = true) := ⟨hR, hR2⟩
      rw [hR] at hri
      rw [hR2] at hri2
      clear hR hR2
      go_enter Try.func21, Try.ntmps21
      go_wp2_with fail
      go_step3
      go_wp2_with fail
      refine hri.out.mono ?_
      rintro e w1 ⟨rfl, hb1⟩
      go_wp2_with fail
      refine (hri2.out w1 hb1).mono ?_
      rintro e w2 ⟨rfl, hb2⟩
      have Hb2 := Lib.hid (hb1.trans (hb2.mono hb1.size))
      clear hb1 hb2
      go_wp2_with fail
      go_step3
      go_wp2_with fail
      go_loopw [6, 7, 20] (fun vo va vi wr => ∃ (j i m c' : Nat) (A' : Option Addr) (out : List SpanM), vo = .slice A' m c' ∧ va = .int .i64 (i : Int) ∧ vi = .int .i64 (j : Int) ∧ j ≤ n ∧ i ≤ nb ∧ m ≤ j + i ∧ Hid (out.length = m) ∧ Hid (andS a b = andF (a.drop j) (b.drop i) out) ∧ Hid (Own wr w.heap.size 40 2 A' m c' (spc out)) ∧ Hid (Below w.heap.size w wr)) (fun _ _ vi _ => n - (intOf vi).toNat)
      case atStart => exact ⟨0, 0, 0, 0, none, [], rfl, rfl, rfl, by omega, by omega, by omega, rfl, rfl, Own.nil _ _ _ _, Hb2⟩
      case round =>
        obtain ⟨j, i, m, c', A', out, rfl, rfl, rfl, hj, hi, hmi, Hm, Hand, Ho, Hb⟩ := hrel
        by_cases hjn : j < n
        · have hjl : j < a.length := by rw [Hl.out]; exact hjn
          have hjI : (j : Int) < (n : Int) := by omega
          have hj0 : (0 : Int) ≤ (j : Int) := by omega
          obtain ⟨ba, oa, rfl, c0, c1⟩ := (Hr.out.below Hb.out).span hjl
          have Hda : Hid (a.drop j = a[j] :: a.drop (j + 1)) := List.drop_eq_getElem_cons hjl
          generalize a[j] = s at *
          obtain ⟨s1, s2⟩ := s
          dsimp only at c0 c1
          have hbl := Blk.new wr 40 #[.int .i64 s1, .int .i64 s2]
          have hb0 : Below wr.heap.size wr (wr.alloc (.cells #[.int .i64 s1, .int .i64 s2] 40)) := (Below.refl _ _).alloc (Nat.le_refl _) _
          have Hb3 := Lib.hid (Hb.out.trans (hb0.mono Hb.out.size))
          have Ho3 := Lib.hid (Ho.out.below hb0)
          have Hne0 : Hid (∀ k, (Value.slice A' m c').ownBlock = some k → k ≠ wr.heap.size) := fun k hk e => by
            have := (Ho.out.lt k hk).2
            omega
          have Hand2 : Hid (andS a b = andF ((s1, s2) :: a.drop (j + 1)) (b.drop i) out) := by show _ = _; rw [Hand.out, Hda.out]
          have Hbl := Lib.hid hbl
          clear hjl hb0 Hand hbl Ho Hb Hda
          go_wp2_with fail
          obtain ⟨g, hg⟩ : ∃ g, wr.heap.size = g := ⟨_, rfl⟩
          rw [hg] at Hbl Hne0
          generalize wr.alloc (.cells #[.int .i64 s1, .int .i64 s2] 40) = w3 at *
          rw [hg]
          clear hg
          go_loopw [6, 7] (fun vo va wr => ∃ (i m c' : Nat) (A' : Option Addr) (out : List SpanM), vo = .slice A' m c' ∧ va = .int .i64 (i : Int) ∧ i ≤ nb ∧ m ≤ j + i ∧ Hid (out.length = m) ∧ Hid (andS a b = andF ((s1, s2) :: a.drop (j + 1)) (b.drop i) out) ∧ Hid (Own wr w.heap.size 40 2 A' m c' (spc out)) ∧ Hid (Blk wr g 40 [.int .i64 s1, .int .i64 s2]) ∧ Hid (∀ k, (Value.slice A' m c').ownBlock = some k → k ≠ g) ∧ Hid (Below w.heap.size w wr)) (fun _ va _ => nb - (intOf va).toNat)
          case atStart => exact ⟨i, m, c', A', out, rfl, rfl, hi, hmi, Hm, Hand2, Ho3, Hbl, Hne0, Hb3⟩
          case round =>
            clear Hm Hand2 Ho3 Hbl Hne0 Hb3 hi hmi
            obtain ⟨i, m, c', A', out, rfl, rfl, hi, hmi, Hm, Hand, Ho, Hbi, Hne, Hb⟩ := hrel
            have k0 := Hbi.out.cell 0
            have k1 := Hbi.out.cell 1
            simp only [List.getElem?_cons_zero, List.getElem?_cons_succ] at k0 k1
            by_cases hin : i < nb
            · have hil : i < b.length := by rw [Hlb.out]; exact hin
              have Hil := Lib.hid hil
              have hiI : (i : Int) < (nb : Int) := by omega
              have hi0 : (0 : Int) ≤ (i : Int) := by omega
              obtain ⟨bb, ob, rfl, d0, d1⟩ := (Hrb.out.below Hb.out).span hil
              have Hdb0 : Hid (b.drop i = b[i] :: b.drop (i + 1)) := List.drop_eq_getElem_cons hil
              have Htg : Hid (b[i]? = some b[i]) := List.getElem?_eq_getElem hil
              generalize b[i] = t at *
              have Hte : Hid (b[i]'Hil.out = t) := by
                have := Htg.out
                rw [List.getElem?_eq_getElem Hil.out] at this
                exact Option.some.inj this
              obtain ⟨t1, t2⟩ := t
              dsimp only at d0 d1
              have hst0 : andS a b = if s2 < t2 then andF (a.drop (j + 1)) ((t1, t2) :: b.drop (i + 1)) (addS out (max s1 t1, min s2 t2)) else andF ((s1, s2) :: a.drop (j + 1)) (b.drop (i + 1)) (addS out (max s1 t1, min s2 t2)) := by
                rw [Hand.out, Hdb0.out, and_step]
              have Hdb : Hid (b.drop i = (t1, t2) :: b.drop (i + 1)) := Hdb0
              clear Hdb0 Htg hil Hand
              by_cases hmx : s1 < t1
              · by_cases hmn : s2 < t2
                · rw [if_pos hmn] at hst0
                  have Hst := Lib.hid hst0
                  clear hst0
                  have hpair : Hid ((max s1 t1, min s2 t2) = (t1, s2)) := by
                    show _ = _
                    rw [Prod.mk.injEq]
                    omega
                  rw [hpair.out] at Hst
                  have f1 : (if s1 < t1 then t1 else s1) = t1 := if_pos hmx
                  have f2 : (if t2 < s2 then t2 else s2) = s2 := if_neg (by omega)
                  have f3 : s2 < t2 := hmn
                  clear hmx hmn
                  have hod : Own wr.drew w.heap.size 40 2 A' m c' (spc out) := Ho.out
                  have Hadd := Lib.hid (sadd_any out t1 s2 m c' w.heap.size A' wr.drew Hm.out hod (by omega) Hb.out.size)
                  have Hbd : Hid (Below w.heap.size w wr.drew) := Hb.out.drew
                  have Hbx : Hid (Blk wr.drew g 40 [.int .i64 s1, .int .i64 s2]) := Hbi.out
                  have hrge := Ho.out.row_ge
                  have Hrge := Lib.hid hrge
                  have hlen2 := addS_len out (t1, s2)
                  rw [Hm.out] at hlen2
                  clear hod hrge Ho Hb Hbi hpair
                  go_wp2_with fail
                  refine wp_region_held_drew (S := fun w' => w'.cell? ⟨g, 0, none⟩ = some (.int .i64 s1) ∧ w'.cell? ⟨g, 1, none⟩ = some (.int .i64 s2) ∧ w'.cell? ⟨bb, ob + i * 2, none⟩ = some (.int .i64 t1) ∧ w'.cell? ⟨bb, ob + i * 2 + 1, none⟩ = some (.int .i64 t2)) (by kernel_rfl) ⟨k0, k1, d0, d1⟩ (fun hHeld => ?_)
                  (refine wpAnyH_take (i := 0) (oi := ?oi0_1) (v := ?vv0_1) ?hi0_1 (by kernel_rfl) (by kernel_rfl) (by kernel_rfl) ?hQ0_1 ?hy0_1 (by assumption) ?rest0_1; (case hi0_1 => ((simp only [List.getElem?_toArray, List.getElem?_cons_succ, List.getElem?_cons_zero]); rfl)); (case hQ0_1 => exact (fun _ _ _ h => h)); (case hy0_1 => (refine Or.inl ⟨by rfl, ?_⟩; intro w hSw; (try dsimp only at hSw); go_simp; try (with_reducible rfl))); (try simp only [Act.put, List.setIfInBounds_toArray, List.set_cons_zero, List.set_cons_succ]))
                  (refine wpAnyH_take (i := 1) (oi := ?oi1_2) (v := ?vv1_2) ?hi1_2 (by kernel_rfl) (by kernel_rfl) (by kernel_rfl) ?hQ1_2 ?hy1_2 (by assumption) ?rest1_2; (case hi1_2 => ((simp only [List.getElem?_toArray, List.getElem?_cons_succ, List.getElem?_cons_zero]); rfl)); (case hQ1_2 => exact (fun _ _ _ h => h)); (case hy1_2 => (refine Or.inl ⟨by rfl, ?_⟩; intro w hSw; (try dsimp only at hSw); go_simp; try (with_reducible rfl))); (try simp only [Act.put, List.setIfInBounds_toArray, List.set_cons_zero, List.set_cons_succ]))
                  (refine wpAnyH_take (i := 2) (oi := ?oi2_3) (v := ?vv2_3) ?hi2_3 (by kernel_rfl) (by kernel_rfl) (by kernel_rfl) ?hQ2_3 ?hy2_3 (by assumption) ?rest2_3; (case hi2_3 => ((simp only [List.getElem?_toArray, List.getElem?_cons_succ, List.getElem?_cons_zero]); rfl)); (case hQ2_3 => exact (fun _ _ _ h => h)); (case hy2_3 => (refine Or.inl ⟨by rfl, ?_⟩; intro w hSw; (try dsimp only at hSw); go_simp; try (with_reducible rfl))); (try simp only [Act.put, List.setIfInBounds_toArray, List.set_cons_zero, List.set_cons_succ]))
                  (refine wpAnyH_take (i := 3) (oi := ?oi3_4) (v := ?vv3_4) ?hi3_4 (by kernel_rfl) (by kernel_rfl) (by kernel_rfl) ?hQ3_4 ?hy3_4 (by assumption) ?rest3_4; (case hi3_4 => ((simp only [List.getElem?_toArray, List.getElem?_cons_succ, List.getElem?_cons_zero]); rfl)); (case hQ3_4 => exact (fun _ _ _ h => h)); (case hy3_4 => (refine Or.inl ⟨by rfl, ?_⟩; intro w hSw; (try dsimp only at hSw); go_simp; try (with_reducible rfl))); (try simp only [Act.put, List.setIfInBounds_toArray, List.set_cons_zero, List.set_cons_succ]))
                  (refine wpAnyH_take (i := 4) (oi := ?oi4_5) (v := ?vv4_5) ?hi4_5 (by kernel_rfl) (by kernel_rfl) (by kernel_rfl) ?hQ4_5 ?hy4_5 (by assumption) ?rest4_5; (case hi4_5 => ((simp only [List.getElem?_toArray, List.getElem?_cons_succ, List.getElem?_cons_zero]); rfl)); (case hQ4_5 => exact (fun _ _ _ h => h)); (case hy4_5 => (refine Or.inl ⟨by rfl, ?_⟩; intro w hSw; (try dsimp only at hSw); go_simp; try (with_reducible rfl))); (try simp only [Act.put, List.setIfInBounds_toArray, List.set_cons_zero, List.set_cons_succ]))
                  (refine wpAnyH_take (i := 5) (oi := ?oi5_6) (v := ?vv5_6) ?hi5_6 (by kernel_rfl) (by kernel_rfl) (by kernel_rfl) ?hQ5_6 ?hy5_6 (by assumption) ?rest5_6; (case hi5_6 => ((simp only [List.getElem?_toArray, List.getElem?_cons_succ, List.getElem?_cons_zero]); rfl)); (case hQ5_6 => exact (fun _ _ _ h => h)); (case hy5_6 => (refine Or.inl ⟨by rfl, ?_⟩; intro w hSw; (try dsimp only at hSw); go_simp; try (with_reducible rfl))); (try simp only [Act.put, List.setIfInBounds_toArray, List.set_cons_zero, List.set_cons_succ]))
                  (refine wpAnyH_take (i := 6) (oi := ?oi6_7) (v := ?vv6_7) ?hi6_7 (by kernel_rfl) (by kernel_rfl) (by kernel_rfl) ?hQ6_7 ?hy6_7 (by assumption) ?rest6_7; (case hi6_7 => ((simp only [List.getElem?_toArray, List.getElem?_cons_succ, List.getElem?_cons_zero]); rfl)); (case hQ6_7 => exact (fun _ _ _ h => h)); (case hy6_7 => (refine Or.inl ⟨by rfl, ?_⟩; intro w hSw; (try dsimp only at hSw); go_simp; try (with_reducible rfl))); (try simp only [Act.put, List.setIfInBounds_toArray, List.set_cons_zero, List.set_cons_succ]))
                  (refine wpAnyH_take (i := 7) (oi := ?oi7_8) (v := ?vv7_8) ?hi7_8 (by kernel_rfl) (by kernel_rfl) (by kernel_rfl) ?hQ7_8 ?hy7_8 (by assumption) ?rest7_8; (case hi7_8 => ((simp only [List.getElem?_toArray, List.getElem?_cons_succ, List.getElem?_cons_zero]); rfl)); (case hQ7_8 => exact (fun _ _ _ h => h)); (case hy7_8 => (refine Or.inl ⟨by rfl, ?_⟩; intro w hSw; (try dsimp only at hSw); go_simp; try (with_reducible rfl))); (try simp only [Act.put, List.setIfInBounds_toArray, List.set_cons_zero, List.set_cons_succ]))
                  (refine wpAnyH_take (i := 8) (oi := ?oi8_9) (v := ?vv8_9) ?hi8_9 (by kernel_rfl) (by kernel_rfl) (by kernel_rfl) ?hQ8_9 ?hy8_9 (by assumption) ?rest8_9; (case hi8_9 => ((simp only [List.getElem?_toArray, List.getElem?_cons_succ, List.getElem?_cons_zero]); rfl)); (case hQ8_9 => exact (fun _ _ _ h => h)); (case hy8_9 => (refine Or.inl ⟨by rfl, ?_⟩; intro w hSw; (try dsimp only at hSw); go_simp; try (with_reducible rfl))); (try simp only [Act.put, List.setIfInBounds_toArray, List.set_cons_zero, List.set_cons_succ]))
                  (refine wpAnyH_take (i := 9) (oi := ?oi9_10) (v := ?vv9_10) ?hi9_10 (by kernel_rfl) (by kernel_rfl) (by kernel_rfl) ?hQ9_10 ?hy9_10 (by assumption) ?rest9_10; (case hi9_10 => ((simp only [List.getElem?_toArray, List.getElem?_cons_succ, List.getElem?_cons_zero]); rfl)); (case hQ9_10 => exact (fun _ _ _ h => h)); (case hy9_10 => (refine Or.inl ⟨by rfl, ?_⟩; intro w hSw; (try dsimp only at hSw); go_simp; try (with_reducible rfl))); (try simp only [Act.put, List.setIfInBounds_toArray, List.set_cons_zero, List.set_cons_succ]))
                  (refine wpAnyH_take (i := 10) (oi := ?oi10_11) (v := ?vv10_11) ?hi10_11 (by kernel_rfl) (by kernel_rfl) (by kernel_rfl) ?hQ10_11 ?hy10_11 (by assumption) ?rest10_11; (case hi10_11 => ((simp only [List.getElem?_toArray, List.getElem?_cons_succ, List.getElem?_cons_zero]); rfl)); (case hQ10_11 => exact (fun _ _ _ h => h)); (case hy10_11 => (refine Or.inl ⟨by rfl, ?_⟩; intro w hSw; (try dsimp only at hSw); go_simp; try (with_reducible rfl))); (try simp only [Act.put, List.setIfInBounds_toArray, List.set_cons_zero, List.set_cons_succ]))
                  (refine wpAnyH_take (i := 11) (oi := ?oi11_12) (v := ?vv11_12) ?hi11_12 (by kernel_rfl) (by kernel_rfl) (by kernel_rfl) ?hQ11_12 ?hy11_12 (by assumption) ?rest11_12; (case hi11_12 => ((simp only [List.getElem?_toArray, List.getElem?_cons_succ, List.getElem?_cons_zero]); rfl)); (case hQ11_12 => exact (fun _ _ _ h => h)); (case hy11_12 => (refine Or.inl ⟨by rfl, ?_⟩; intro w hSw; (try dsimp only at hSw); go_simp; try (with_reducible rfl))); (try simp only [Act.put, List.setIfInBounds_toArray, List.set_cons_zero, List.set_cons_succ]))
                  (refine wpAnyH_take (i := 12) (oi := ?oi12_13) (v := ?vv12_13) ?hi12_13 (by kernel_rfl) (by kernel_rfl) (by kernel_rfl) ?hQ12_13 ?hy12_13 (by assumption) ?rest12_13; (case hi12_13 => ((simp only [List.getElem?_toArray, List.getElem?_cons_succ, List.getElem?_cons_zero]); rfl)); (case hQ12_13 => exact (fun _ _ _ h => h)); (case hy12_13 => (refine Or.inl ⟨by rfl, ?_⟩; intro w hSw; (try dsimp only at hSw); go_simp; try (with_reducible rfl))); (try simp only [Act.put, List.setIfInBounds_toArray, List.set_cons_zero, List.set_cons_succ]))
                  (refine wpAnyH_take (i := 13) (oi := ?oi13_14) (v := ?vv13_14) ?hi13_14 (by kernel_rfl) (by kernel_rfl) (by kernel_rfl) ?hQ13_14 ?hy13_14 (by assumption) ?rest13_14; (case hi13_14 => ((simp only [List.getElem?_toArray, List.getElem?_cons_succ, List.getElem?_cons_zero]); rfl)); (case hQ13_14 => exact (fun _ _ _ h => h)); (case hy13_14 => (refine Or.inl ⟨by rfl, ?_⟩; intro w hSw; (try dsimp only at hSw); go_simp; try (with_reducible rfl))); (try simp only [Act.put, List.setIfInBounds_toArray, List.set_cons_zero, List.set_cons_succ]))
                  (refine wpAnyH_take (i := 14) (oi := ?oi14_15) (v := ?vv14_15) ?hi14_15 (by kernel_rfl) (by kernel_rfl) (by kernel_rfl) ?hQ14_15 ?hy14_15 (by assumption) ?rest14_15; (case hi14_15 => ((simp only [List.getElem?_toArray, List.getElem?_cons_succ, List.getElem?_cons_zero]); rfl)); (case hQ14_15 => exact (fun _ _ _ h => h)); (case hy14_15 => (refine Or.inl ⟨by rfl, ?_⟩; intro w hSw; (try dsimp only at hSw); go_simp; try (with_reducible rfl))); (try simp only [Act.put, List.setIfInBounds_toArray, List.set_cons_zero, List.set_cons_succ]))
                  (refine wpAnyH_take (i := 15) (oi := ?oi15_16) (v := ?vv15_16) ?hi15_16 (by kernel_rfl) (by kernel_rfl) (by kernel_rfl) ?hQ15_16 ?hy15_16 (by assumption) ?rest15_16; (case hi15_16 => ((simp only [List.getElem?_toArray, List.getElem?_cons_succ, List.getElem?_cons_zero]); rfl)); (case hQ15_16 => exact (fun _ _ _ h => h)); (case hy15_16 => (refine Or.inl ⟨by rfl, ?_⟩; intro w hSw; (try dsimp only at hSw); go_simp; try (with_reducible rfl))); (try simp only [Act.put, List.setIfInBounds_toArray, List.set_cons_zero, List.set_cons_succ]))
                  (refine wpAnyH_take (i := 16) (oi := ?oi16_17) (v := ?vv16_17) ?hi16_17 (by kernel_rfl) (by kernel_rfl) (by kernel_rfl) ?hQ16_17 ?hy16_17 (by assumption) ?rest16_17; (case hi16_17 => ((simp only [List.getElem?_toArray, List.getElem?_cons_succ, List.getElem?_cons_zero]); rfl)); (case hQ16_17 => exact (fun _ _ _ h => h)); (case hy16_17 => (refine Or.inl ⟨by rfl, ?_⟩; intro w hSw; (try dsimp only at hSw); go_simp; try (with_reducible rfl))); (try simp only [Act.put, List.setIfInBounds_toArray, List.set_cons_zero, List.set_cons_succ]))
                  (refine wpAnyH_take (i := 17) (oi := ?oi17_18) (v := ?vv17_18) ?hi17_18 (by kernel_rfl) (by kernel_rfl) (by kernel_rfl) ?hQ17_18 ?hy17_18 (by assumption) ?rest17_18; (case hi17_18 => ((simp only [List.getElem?_toArray, List.getElem?_cons_succ, List.getElem?_cons_zero]); rfl)); (case hQ17_18 => exact (fun _ _ _ h => h)); (case hy17_18 => (refine Or.inl ⟨by rfl, ?_⟩; intro w hSw; (try dsimp only at hSw); go_simp; try (with_reducible rfl))); (try simp only [Act.put, List.setIfInBounds_toArray, List.set_cons_zero, List.set_cons_succ]))
                  (refine wpAnyH_ready (rs := [18]) (by kernel_rfl) (by simp) ?_; refine AllReadyH.cons (o := ?oc18_19) ?ho18_19 (fun K hK => ?_) AllReadyH.nil; (case ho18_19 => ((simp only [List.getElem?_toArray, List.getElem?_cons_succ, List.getElem?_cons_zero]); rfl)); go_simp)
                  refine Hadd.out.mono ?_
                  rintro e w6 ⟨A6, c6, rfl, ho6, hg6, hrow6⟩
                  have Hb6 := Lib.hid (Hbd.out.grown hg6 Hbd.out.size Hrge.out)
                  have hB6 := Hbx.out.grown hg6 (fun e => Hne.out g e.symm rfl)
                  have Hne6 : Hid (∀ k, (Value.slice A6 (addS out (t1, s2)).length c6).ownBlock = some k → k ≠ g) := fun k hk => by
                    rcases hrow6 with h | ⟨k', h, h'⟩
                    · rw [h] at hk
                      exact Hne.out k hk
                    · rw [h] at hk
                      cases hk
                      have := Hbx.out.lt
                      omega
                  have x0 := hB6.cell 0
                  have x1 := hB6.cell 1
                  simp only [List.getElem?_cons_zero, List.getElem?_cons_succ] at x0 x1
                  have y0 : w6.cell? ⟨bb, ob + i * 2, none⟩ = some (.int .i64 t1) := by
                    obtain ⟨b3, o3, e3, d3, d4⟩ := (Hrb.out.below Hb6.out).span Hil.out
                    injection e3 with e3
                    injection e3 with e4 e5
                    subst e4
                    subst e5
                    rw [Hte.out] at d3
                    exact d3
                  have y1 : w6.cell? ⟨bb, ob + i * 2 + 1, none⟩ = some (.int .i64 t2) := by
                    obtain ⟨b3, o3, e3, d3, d4⟩ := (Hrb.out.below Hb6.out).span Hil.out
                    injection e3 with e3
                    injection e3 with e4 e5
                    subst e4
                    subst e5
                    rw [Hte.out] at d4
                    exact d4
                  have Ho6 := Lib.hid ho6
                  have HB6 := Lib.hid hB6
                  have Hm6 : Hid ((addS out (t1, s2)).length = (addS out (t1, s2)).length) := rfl
                  generalize addS out (t1, s2) = out2 at *
                  obtain ⟨m2, hm2⟩ : ∃ m2, out2.length = m2 := ⟨_, rfl⟩
                  rw [hm2] at Ho6 Hne6 hlen2 ⊢
                  have HM2 := Lib.hid hm2
                  clear hm2 Hm6 ho6 hg6 hrow6 hB6 Hadd
                  go_wp2_with fail
                  refine hK.out _ _ ⟨x0, x1, y0, y1⟩ (fun hHeld2 => ?_)
                  clear hK
                  (try simp only [Act.put, List.setIfInBounds_toArray, List.set_cons_zero, List.set_cons_succ])
                  (refine wpAnyH_take (i := 19) (oi := ?oi19_20) (v := ?vv19_20) ?hi19_20 (by kernel_rfl) (by kernel_rfl) (by kernel_rfl) ?hQ19_20 ?hy19_20 (by assumption) ?rest19_20; (case hi19_20 => ((simp only [List.getElem?_toArray, List.getElem?_cons_succ, List.getElem?_cons_zero]); rfl)); (case hQ19_20 => exact (fun _ _ _ h => h)); (case hy19_20 => (refine Or.inl ⟨by rfl, ?_⟩; intro w hSw; (try dsimp only at hSw); go_simp; try (with_reducible rfl))); (try simp only [Act.put, List.setIfInBounds_toArray, List.set_cons_zero, List.set_cons_succ]))
                  refine wpAnyH_done (by kernel_rfl) ?_ _
                  clear hHeld hHeld2
                  go_wp2_with fail
                  go_quiet (fail)
                  go_wp2_with fail
                  go_roundw
                  case rel => exact ⟨j + 1, i, m2, c6, A6, out2, rfl, rfl, by go_num, by omega, by omega, by omega, HM2, by show _ = _; rw [Hst.out, Hdb.out], Ho6, below_drewN' Hb6.out _⟩
                  case measure => simp only [intOf, Int.toNat_natCast]; omega
                · rw [if_neg hmn] at hst0
                  have Hst := Lib.hid hst0
                  clear hst0
                  by_cases hmn2 : t2 < s2
                  · skip
                    have hpair : Hid ((max s1 t1, min s2 t2) = (t1, t2)) := by
                      show _ = _
                      rw [Prod.mk.injEq]
                      omega
                    rw [hpair.out] at Hst
                    have f1 : (if s1 < t1 then t1 else s1) = t1 := if_pos hmx
                    have f2 : (if t2 < s2 then t2 else s2) = t2 := if_pos hmn2
                    have f3 : ¬ s2 < t2 := hmn
                    clear hmx hmn hmn2
                    have hod : Own wr.drew w.heap.size 40 2 A' m c' (spc out) := Ho.out
                    have Hadd := Lib.hid (sadd_any out t1 t2 m c' w.heap.size A' wr.drew Hm.out hod (by omega) Hb.out.size)
                    have Hbd : Hid (Below w.heap.size w wr.drew) := Hb.out.drew
                    have Hbx : Hid (Blk wr.drew g 40 [.int .i64 s1, .int .i64 s2]) := Hbi.out
                    have hrge := Ho.out.row_ge
                    have Hrge := Lib.hid hrge
                    have hlen2 := addS_len out (t1, t2)
                    rw [Hm.out] at hlen2
                    clear hod hrge Ho Hb Hbi hpair
                    go_wp2_with fail
                    refine wp_region_held_drew (S := fun w' => w'.cell? ⟨g, 0, none⟩ = some (.int .i64 s1) ∧ w'.cell? ⟨g, 1, none⟩ = some (.int .i64 s2) ∧ w'.cell? ⟨bb, ob + i * 2, none⟩ = some (.int .i64 t1) ∧ w'.cell? ⟨bb, ob + i * 2 + 1, none⟩ = some (.int .i64 t2)) (by kernel_rfl) ⟨k0, k1, d0, d1⟩ (fun hHeld => ?_)
                    (refine wpAnyH_take (i := 0) (oi := ?oi0_21) (v := ?vv0_21) ?hi0_21 (by kernel_rfl) (by kernel_rfl) (by kernel_rfl) ?hQ0_21 ?hy0_21 (by assumption) ?rest0_21; (case hi0_21 => ((simp only [List.getElem?_toArray, List.getElem?_cons_succ, List.getElem?_cons_zero]); rfl)); (case hQ0_21 => exact (fun _ _ _ h => h)); (case hy0_21 => (refine Or.inl ⟨by rfl, ?_⟩; intro w hSw; (try dsimp only at hSw); go_simp; try (with_reducible rfl))); (try simp only [Act.put, List.setIfInBounds_toArray, List.set_cons_zero, List.set_cons_succ]))
                    (refine wpAnyH_take (i := 1) (oi := ?oi1_22) (v := ?vv1_22) ?hi1_22 (by kernel_rfl) (by kernel_rfl) (by kernel_rfl) ?hQ1_22 ?hy1_22 (by assumption) ?rest1_22; (case hi1_22 => ((simp only [List.getElem?_toArray, List.getElem?_cons_succ, List.getElem?_cons_zero]); rfl)); (case hQ1_22 => exact (fun _ _ _ h => h)); (case hy1_22 => (refine Or.inl ⟨by rfl, ?_⟩; intro w hSw; (try dsimp only at hSw); go_simp; try (with_reducible rfl))); (try simp only [Act.put, List.setIfInBounds_toArray, List.set_cons_zero, List.set_cons_succ]))
                    (refine wpAnyH_take (i := 2) (oi := ?oi2_23) (v := ?vv2_23) ?hi2_23 (by kernel_rfl) (by kernel_rfl) (by kernel_rfl) ?hQ2_23 ?hy2_23 (by assumption) ?rest2_23; (case hi2_23 => ((simp only [List.getElem?_toArray, List.getElem?_cons_succ, List.getElem?_cons_zero]); rfl)); (case hQ2_23 => exact (fun _ _ _ h => h)); (case hy2_23 => (refine Or.inl ⟨by rfl, ?_⟩; intro w hSw; (try dsimp only at hSw); go_simp; try (with_reducible rfl))); (try simp only [Act.put, List.setIfInBounds_toArray, List.set_cons_zero, List.set_cons_succ]))
                    (refine wpAnyH_take (i := 3) (oi := ?oi3_24) (v := ?vv3_24) ?hi3_24 (by kernel_rfl) (by kernel_rfl) (by kernel_rfl) ?hQ3_24 ?hy3_24 (by assumption) ?rest3_24; (case hi3_24 => ((simp only [List.getElem?_toArray, List.getElem?_cons_succ, List.getElem?_cons_zero]); rfl)); (case hQ3_24 => exact (fun _ _ _ h => h)); (case hy3_24 => (refine Or.inl ⟨by rfl, ?_⟩; intro w hSw; (try dsimp only at hSw); go_simp; try (with_reducible rfl))); (try simp only [Act.put, List.setIfInBounds_toArray, List.set_cons_zero, List.set_cons_succ]))
                    (refine wpAnyH_take (i := 4) (oi := ?oi4_25) (v := ?vv4_25) ?hi4_25 (by kernel_rfl) (by kernel_rfl) (by kernel_rfl) ?hQ4_25 ?hy4_25 (by assumption) ?rest4_25; (case hi4_25 => ((simp only [List.getElem?_toArray, List.getElem?_cons_succ, List.getElem?_cons_zero]); rfl)); (case hQ4_25 => exact (fun _ _ _ h => h)); (case hy4_25 => (refine Or.inl ⟨by rfl, ?_⟩; intro w hSw; (try dsimp only at hSw); go_simp; try (with_reducible rfl))); (try simp only [Act.put, List.setIfInBounds_toArray, List.set_cons_zero, List.set_cons_succ]))
                    (refine wpAnyH_take (i := 5) (oi := ?oi5_26) (v := ?vv5_26) ?hi5_26 (by kernel_rfl) (by kernel_rfl) (by kernel_rfl) ?hQ5_26 ?hy5_26 (by assumption) ?rest5_26; (case hi5_26 => ((simp only [List.getElem?_toArray, List.getElem?_cons_succ, List.getElem?_cons_zero]); rfl)); (case hQ5_26 => exact (fun _ _ _ h => h)); (case hy5_26 => (refine Or.inl ⟨by rfl, ?_⟩; intro w hSw; (try dsimp only at hSw); go_simp; try (with_reducible rfl))); (try simp only [Act.put, List.setIfInBounds_toArray, List.set_cons_zero, List.set_cons_succ]))
                    (refine wpAnyH_take (i := 6) (oi := ?oi6_27) (v := ?vv6_27) ?hi6_27 (by kernel_rfl) (by kernel_rfl) (by kernel_rfl) ?hQ6_27 ?hy6_27 (by assumption) ?rest6_27; (case hi6_27 => ((simp only [List.getElem?_toArray, List.getElem?_cons_succ, List.getElem?_cons_zero]); rfl)); (case hQ6_27 => exact (fun _ _ _ h => h)); (case hy6_27 => (refine Or.inl ⟨by rfl, ?_⟩; intro w hSw; (try dsimp only at hSw); go_simp; try (with_reducible rfl))); (try simp only [Act.put, List.setIfInBounds_toArray, List.set_cons_zero, List.set_cons_succ]))
                    (refine wpAnyH_take (i := 7) (oi := ?oi7_28) (v := ?vv7_28) ?hi7_28 (by kernel_rfl) (by kernel_rfl) (by kernel_rfl) ?hQ7_28 ?hy7_28 (by assumption) ?rest7_28; (case hi7_28 => ((simp only [List.getElem?_toArray, List.getElem?_cons_succ, List.getElem?_cons_zero]); rfl)); (case hQ7_28 => exact (fun _ _ _ h => h)); (case hy7_28 => (refine Or.inl ⟨by rfl, ?_⟩; intro w hSw; (try dsimp only at hSw); go_simp; try (with_reducible rfl))); (try simp only [Act.put, List.setIfInBounds_toArray, List.set_cons_zero, List.set_cons_succ]))
                    (refine wpAnyH_take (i := 8) (oi := ?oi8_29) (v := ?vv8_29) ?hi8_29 (by kernel_rfl) (by kernel_rfl) (by kernel_rfl) ?hQ8_29 ?hy8_29 (by assumption) ?rest8_29; (case hi8_29 => ((simp only [List.getElem?_toArray, List.getElem?_cons_succ, List.getElem?_cons_zero]); rfl)); (case hQ8_29 => exact (fun _ _ _ h => h)); (case hy8_29 => (refine Or.inl ⟨by rfl, ?_⟩; intro w hSw; (try dsimp only at hSw); go_simp; try (with_reducible rfl))); (try simp only [Act.put, List.setIfInBounds_toArray, List.set_cons_zero, List.set_cons_succ]))
                    (refine wpAnyH_take (i := 9) (oi := ?oi9_30) (v := ?vv9_30) ?hi9_30 (by kernel_rfl) (by kernel_rfl) (by kernel_rfl) ?hQ9_30 ?hy9_30 (by assumption) ?rest9_30; (case hi9_30 => ((simp only [List.getElem?_toArray, List.getElem?_cons_succ, List.getElem?_cons_zero]); rfl)); (case hQ9_30 => exact (fun _ _ _ h => h)); (case hy9_30 => (refine Or.inl ⟨by rfl, ?_⟩; intro w hSw; (try dsimp only at hSw); go_simp; try (with_reducible rfl))); (try simp only [Act.put, List.setIfInBounds_toArray, List.set_cons_zero, List.set_cons_succ]))
                    (refine wpAnyH_take (i := 10) (oi := ?oi10_31) (v := ?vv10_31) ?hi10_31 (by kernel_rfl) (by kernel_rfl) (by kernel_rfl) ?hQ10_31 ?hy10_31 (by assumption) ?rest10_31; (case hi10_31 => ((simp only [List.getElem?_toArray, List.getElem?_cons_succ, List.getElem?_cons_zero]); rfl)); (case hQ10_31 => exact (fun _ _ _ h => h)); (case hy10_31 => (refine Or.inl ⟨by rfl, ?_⟩; intro w hSw; (try dsimp only at hSw); go_simp; try (with_reducible rfl))); (try simp only [Act.put, List.setIfInBounds_toArray, List.set_cons_zero, List.set_cons_succ]))
                    (refine wpAnyH_take (i := 11) (oi := ?oi11_32) (v := ?vv11_32) ?hi11_32 (by kernel_rfl) (by kernel_rfl) (by kernel_rfl) ?hQ11_32 ?hy11_32 (by assumption) ?rest11_32; (case hi11_32 => ((simp only [List.getElem?_toArray, List.getElem?_cons_succ, List.getElem?_cons_zero]); rfl)); (case hQ11_32 => exact (fun _ _ _ h => h)); (case hy11_32 => (refine Or.inl ⟨by rfl, ?_⟩; intro w hSw; (try dsimp only at hSw); go_simp; try (with_reducible rfl))); (try simp only [Act.put, List.setIfInBounds_toArray, List.set_cons_zero, List.set_cons_succ]))
                    (refine wpAnyH_take (i := 12) (oi := ?oi12_33) (v := ?vv12_33) ?hi12_33 (by kernel_rfl) (by kernel_rfl) (by kernel_rfl) ?hQ12_33 ?hy12_33 (by assumption) ?rest12_33; (case hi12_33 => ((simp only [List.getElem?_toArray, List.getElem?_cons_succ, List.getElem?_cons_zero]); rfl)); (case hQ12_33 => exact (fun _ _ _ h => h)); (case hy12_33 => (refine Or.inl ⟨by rfl, ?_⟩; intro w hSw; (try dsimp only at hSw); go_simp; try (with_reducible rfl))); (try simp only [Act.put, List.setIfInBounds_toArray, List.set_cons_zero, List.set_cons_succ]))
                    (refine wpAnyH_take (i := 13) (oi := ?oi13_34) (v := ?vv13_34) ?hi13_34 (by kernel_rfl) (by kernel_rfl) (by kernel_rfl) ?hQ13_34 ?hy13_34 (by assumption) ?rest13_34; (case hi13_34 => ((simp only [List.getElem?_toArray, List.getElem?_cons_succ, List.getElem?_cons_zero]); rfl)); (case hQ13_34 => exact (fun _ _ _ h => h)); (case hy13_34 => (refine Or.inl ⟨by rfl, ?_⟩; intro w hSw; (try dsimp only at hSw); go_simp; try (with_reducible rfl))); (try simp only [Act.put, List.setIfInBounds_toArray, List.set_cons_zero, List.set_cons_succ]))
                    (refine wpAnyH_take (i := 14) (oi := ?oi14_35) (v := ?vv14_35) ?hi14_35 (by kernel_rfl) (by kernel_rfl) (by kernel_rfl) ?hQ14_35 ?hy14_35 (by assumption) ?rest14_35; (case hi14_35 => ((simp only [List.getElem?_toArray, List.getElem?_cons_succ, List.getElem?_cons_zero]); rfl)); (case hQ14_35 => exact (fun _ _ _ h => h)); (case hy14_35 => (refine Or.inl ⟨by rfl, ?_⟩; intro w hSw; (try dsimp only at hSw); go_simp; try (with_reducible rfl))); (try simp only [Act.put, List.setIfInBounds_toArray, List.set_cons_zero, List.set_cons_succ]))
                    (refine wpAnyH_take (i := 15) (oi := ?oi15_36) (v := ?vv15_36) ?hi15_36 (by kernel_rfl) (by kernel_rfl) (by kernel_rfl) ?hQ15_36 ?hy15_36 (by assumption) ?rest15_36; (case hi15_36 => ((simp only [List.getElem?_toArray, List.getElem?_cons_succ, List.getElem?_cons_zero]); rfl)); (case hQ15_36 => exact (fun _ _ _ h => h)); (case hy15_36 => (refine Or.inl ⟨by rfl, ?_⟩; intro w hSw; (try dsimp only at hSw); go_simp; try (with_reducible rfl))); (try simp only [Act.put, List.setIfInBounds_toArray, List.set_cons_zero, List.set_cons_succ]))
                    (refine wpAnyH_take (i := 16) (oi := ?oi16_37) (v := ?vv16_37) ?hi16_37 (by kernel_rfl) (by kernel_rfl) (by kernel_rfl) ?hQ16_37 ?hy16_37 (by assumption) ?rest16_37; (case hi16_37 => ((simp only [List.getElem?_toArray, List.getElem?_cons_succ, List.getElem?_cons_zero]); rfl)); (case hQ16_37 => exact (fun _ _ _ h => h)); (case hy16_37 => (refine Or.inl ⟨by rfl, ?_⟩; intro w hSw; (try dsimp only at hSw); go_simp; try (with_reducible rfl))); (try simp only [Act.put, List.setIfInBounds_toArray, List.set_cons_zero, List.set_cons_succ]))
                    (refine wpAnyH_take (i := 17) (oi := ?oi17_38) (v := ?vv17_38) ?hi17_38 (by kernel_rfl) (by kernel_rfl) (by kernel_rfl) ?hQ17_38 ?hy17_38 (by assumption) ?rest17_38; (case hi17_38 => ((simp only [List.getElem?_toArray, List.getElem?_cons_succ, List.getElem?_cons_zero]); rfl)); (case hQ17_38 => exact (fun _ _ _ h => h)); (case hy17_38 => (refine Or.inl ⟨by rfl, ?_⟩; intro w hSw; (try dsimp only at hSw); go_simp; try (with_reducible rfl))); (try simp only [Act.put, List.setIfInBounds_toArray, List.set_cons_zero, List.set_cons_succ]))
                    (refine wpAnyH_ready (rs := [18]) (by kernel_rfl) (by simp) ?_; refine AllReadyH.cons (o := ?oc18_39) ?ho18_39 (fun K hK => ?_) AllReadyH.nil; (case ho18_39 => ((simp only [List.getElem?_toArray, List.getElem?_cons_succ, List.getElem?_cons_zero]); rfl)); go_simp)
                    refine Hadd.out.mono ?_
                    rintro e w6 ⟨A6, c6, rfl, ho6, hg6, hrow6⟩
                    have Hb6 := Lib.hid (Hbd.out.grown hg6 Hbd.out.size Hrge.out)
                    have hB6 := Hbx.out.grown hg6 (fun e => Hne.out g e.symm rfl)
                    have Hne6 : Hid (∀ k, (Value.slice A6 (addS out (t1, t2)).length c6).ownBlock = some k → k ≠ g) := fun k hk => by
                      rcases hrow6 with h | ⟨k', h, h'⟩
                      · rw [h] at hk
                        exact Hne.out k hk
                      · rw [h] at hk
                        cases hk
                        have := Hbx.out.lt
                        omega
                    have x0 := hB6.cell 0
                    have x1 := hB6.cell 1
                    simp only [List.getElem?_cons_zero, List.getElem?_cons_succ] at x0 x1
                    have y0 : w6.cell? ⟨bb, ob + i * 2, none⟩ = some (.int .i64 t1) := by
                      obtain ⟨b3, o3, e3, d3, d4⟩ := (Hrb.out.below Hb6.out).span Hil.out
                      injection e3 with e3
                      injection e3 with e4 e5
                      subst e4
                      subst e5
                      rw [Hte.out] at d3
                      exact d3
                    have y1 : w6.cell? ⟨bb, ob + i * 2 + 1, none⟩ = some (.int .i64 t2) := by
                      obtain ⟨b3, o3, e3, d3, d4⟩ := (Hrb.out.below Hb6.out).span Hil.out
                      injection e3 with e3
                      injection e3 with e4 e5
                      subst e4
                      subst e5
                      rw [Hte.out] at d4
                      exact d4
                    have Ho6 := Lib.hid ho6
                    have HB6 := Lib.hid hB6
                    have Hm6 : Hid ((addS out (t1, t2)).length = (addS out (t1, t2)).length) := rfl
                    generalize addS out (t1, t2) = out2 at *
                    obtain ⟨m2, hm2⟩ : ∃ m2, out2.length = m2 := ⟨_, rfl⟩
                    rw [hm2] at Ho6 Hne6 hlen2 ⊢
                    have HM2 := Lib.hid hm2
                    clear hm2 Hm6 ho6 hg6 hrow6 hB6 Hadd
                    go_wp2_with fail
                    refine hK.out _ _ ⟨x0, x1, y0, y1⟩ (fun hHeld2 => ?_)
                    clear hK
                    (try simp only [Act.put, List.setIfInBounds_toArray, List.set_cons_zero, List.set_cons_succ])
                    (refine wpAnyH_take (i := 19) (oi := ?oi19_40) (v := ?vv19_40) ?hi19_40 (by kernel_rfl) (by kernel_rfl) (by kernel_rfl) ?hQ19_40 ?hy19_40 (by assumption) ?rest19_40; (case hi19_40 => ((simp only [List.getElem?_toArray, List.getElem?_cons_succ, List.getElem?_cons_zero]); rfl)); (case hQ19_40 => exact (fun _ _ _ h => h)); (case hy19_40 => (refine Or.inl ⟨by rfl, ?_⟩; intro w hSw; (try dsimp only at hSw); go_simp; try (with_reducible rfl))); (try simp only [Act.put, List.setIfInBounds_toArray, List.set_cons_zero, List.set_cons_succ]))
                    refine wpAnyH_done (by kernel_rfl) ?_ _
                    clear hHeld hHeld2
                    go_wp2_with fail
                    go_quiet (fail)
                    go_wp2_with fail
                    go_roundw
                    case rel => exact ⟨i + 1, m2, c6, A6, out2, rfl, by go_num, by omega, by omega, HM2, Hst, Ho6, HB6, Hne6, below_drewN' Hb6.out _⟩
                    case measure => simp only [intOf, Int.toNat_natCast]; omega
                  · skip
                    have hpair : Hid ((max s1 t1, min s2 t2) = (t1, s2)) := by
                      show _ = _
                      rw [Prod.mk.injEq]
                      omega
                    rw [hpair.out] at Hst
                    have f1 : (if s1 < t1 then t1 else s1) = t1 := if_pos hmx
                    have f2 : (if t2 < s2 then t2 else s2) = s2 := if_neg hmn2
                    have f3 : ¬ s2 < t2 := hmn
                    clear hmx hmn hmn2
                    have hod : Own wr.drew w.heap.size 40 2 A' m c' (spc out) := Ho.out
                    have Hadd := Lib.hid (sadd_any out t1 s2 m c' w.heap.size A' wr.drew Hm.out hod (by omega) Hb.out.size)
                    have Hbd : Hid (Below w.heap.size w wr.drew) := Hb.out.drew
                    have Hbx : Hid (Blk wr.drew g 40 [.int .i64 s1, .int .i64 s2]) := Hbi.out
                    have hrge := Ho.out.row_ge
                    have Hrge := Lib.hid hrge
                    have hlen2 := addS_len out (t1, s2)
                    rw [Hm.out] at hlen2
                    clear hod hrge Ho Hb Hbi hpair
                    go_wp2_with fail
                    refine wp_region_held_drew (S := fun w' => w'.cell? ⟨g, 0, none⟩ = some (.int .i64 s1) ∧ w'.cell? ⟨g, 1, none⟩ = some (.int .i64 s2) ∧ w'.cell? ⟨bb, ob + i * 2, none⟩ = some (.int .i64 t1) ∧ w'.cell? ⟨bb, ob + i * 2 + 1, none⟩ = some (.int .i64 t2)) (by kernel_rfl) ⟨k0, k1, d0, d1⟩ (fun hHeld => ?_)
                    (refine wpAnyH_take (i := 0) (oi := ?oi0_41) (v := ?vv0_41) ?hi0_41 (by kernel_rfl) (by kernel_rfl) (by kernel_rfl) ?hQ0_41 ?hy0_41 (by assumption) ?rest0_41; (case hi0_41 => ((simp only [List.getElem?_toArray, List.getElem?_cons_succ, List.getElem?_cons_zero]); rfl)); (case hQ0_41 => exact (fun _ _ _ h => h)); (case hy0_41 => (refine Or.inl ⟨by rfl, ?_⟩; intro w hSw; (try dsimp only at hSw); go_simp; try (with_reducible rfl))); (try simp only [Act.put, List.setIfInBounds_toArray, List.set_cons_zero, List.set_cons_succ]))
                    (refine wpAnyH_take (i := 1) (oi := ?oi1_42) (v := ?vv1_42) ?hi1_42 (by kernel_rfl) (by kernel_rfl) (by kernel_rfl) ?hQ1_42 ?hy1_42 (by assumption) ?rest1_42; (case hi1_42 => ((simp only [List.getElem?_toArray, List.getElem?_cons_succ, List.getElem?_cons_zero]); rfl)); (case hQ1_42 => exact (fun _ _ _ h => h)); (case hy1_42 => (refine Or.inl ⟨by rfl, ?_⟩; intro w hSw; (try dsimp only at hSw); go_simp; try (with_reducible rfl))); (try simp only [Act.put, List.setIfInBounds_toArray, List.set_cons_zero, List.set_cons_succ]))
                    (refine wpAnyH_take (i := 2) (oi := ?oi2_43) (v := ?vv2_43) ?hi2_43 (by kernel_rfl) (by kernel_rfl) (by kernel_rfl) ?hQ2_43 ?hy2_43 (by assumption) ?rest2_43; (case hi2_43 => ((simp only [List.getElem?_toArray, List.getElem?_cons_succ, List.getElem?_cons_zero]); rfl)); (case hQ2_43 => exact (fun _ _ _ h => h)); (case hy2_43 => (refine Or.inl ⟨by rfl, ?_⟩; intro w hSw; (try dsimp only at hSw); go_simp; try (with_reducible rfl))); (try simp only [Act.put, List.setIfInBounds_toArray, List.set_cons_zero, List.set_cons_succ]))
                    (refine wpAnyH_take (i := 3) (oi := ?oi3_44) (v := ?vv3_44) ?hi3_44 (by kernel_rfl) (by kernel_rfl) (by kernel_rfl) ?hQ3_44 ?hy3_44 (by assumption) ?rest3_44; (case hi3_44 => ((simp only [List.getElem?_toArray, List.getElem?_cons_succ, List.getElem?_cons_zero]); rfl)); (case hQ3_44 => exact (fun _ _ _ h => h)); (case hy3_44 => (refine Or.inl ⟨by rfl, ?_⟩; intro w hSw; (try dsimp only at hSw); go_simp; try (with_reducible rfl))); (try simp only [Act.put, List.setIfInBounds_toArray, List.set_cons_zero, List.set_cons_succ]))
                    (refine wpAnyH_take (i := 4) (oi := ?oi4_45) (v := ?vv4_45) ?hi4_45 (by kernel_rfl) (by kernel_rfl) (by kernel_rfl) ?hQ4_45 ?hy4_45 (by assumption) ?rest4_45; (case hi4_45 => ((simp only [List.getElem?_toArray, List.getElem?_cons_succ, List.getElem?_cons_zero]); rfl)); (case hQ4_45 => exact (fun _ _ _ h => h)); (case hy4_45 => (refine Or.inl ⟨by rfl, ?_⟩; intro w hSw; (try dsimp only at hSw); go_simp; try (with_reducible rfl))); (try simp only [Act.put, List.setIfInBounds_toArray, List.set_cons_zero, List.set_cons_succ]))
                    (refine wpAnyH_take (i := 5) (oi := ?oi5_46) (v := ?vv5_46) ?hi5_46 (by kernel_rfl) (by kernel_rfl) (by kernel_rfl) ?hQ5_46 ?hy5_46 (by assumption) ?rest5_46; (case hi5_46 => ((simp only [List.getElem?_toArray, List.getElem?_cons_succ, List.getElem?_cons_zero]); rfl)); (case hQ5_46 => exact (fun _ _ _ h => h)); (case hy5_46 => (refine Or.inl ⟨by rfl, ?_⟩; intro w hSw; (try dsimp only at hSw); go_simp; try (with_reducible rfl))); (try simp only [Act.put, List.setIfInBounds_toArray, List.set_cons_zero, List.set_cons_succ]))
                    (refine wpAnyH_take (i := 6) (oi := ?oi6_47) (v := ?vv6_47) ?hi6_47 (by kernel_rfl) (by kernel_rfl) (by kernel_rfl) ?hQ6_47 ?hy6_47 (by assumption) ?rest6_47; (case hi6_47 => ((simp only [List.getElem?_toArray, List.getElem?_cons_succ, List.getElem?_cons_zero]); rfl)); (case hQ6_47 => exact (fun _ _ _ h => h)); (case hy6_47 => (refine Or.inl ⟨by rfl, ?_⟩; intro w hSw; (try dsimp only at hSw); go_simp; try (with_reducible rfl))); (try simp only [Act.put, List.setIfInBounds_toArray, List.set_cons_zero, List.set_cons_succ]))
                    (refine wpAnyH_take (i := 7) (oi := ?oi7_48) (v := ?vv7_48) ?hi7_48 (by kernel_rfl) (by kernel_rfl) (by kernel_rfl) ?hQ7_48 ?hy7_48 (by assumption) ?rest7_48; (case hi7_48 => ((simp only [List.getElem?_toArray, List.getElem?_cons_succ, List.getElem?_cons_zero]); rfl)); (case hQ7_48 => exact (fun _ _ _ h => h)); (case hy7_48 => (refine Or.inl ⟨by rfl, ?_⟩; intro w hSw; (try dsimp only at hSw); go_simp; try (with_reducible rfl))); (try simp only [Act.put, List.setIfInBounds_toArray, List.set_cons_zero, List.set_cons_succ]))
                    (refine wpAnyH_take (i := 8) (oi := ?oi8_49) (v := ?vv8_49) ?hi8_49 (by kernel_rfl) (by kernel_rfl) (by kernel_rfl) ?hQ8_49 ?hy8_49 (by assumption) ?rest8_49; (case hi8_49 => ((simp only [List.getElem?_toArray, List.getElem?_cons_succ, List.getElem?_cons_zero]); rfl)); (case hQ8_49 => exact (fun _ _ _ h => h)); (case hy8_49 => (refine Or.inl ⟨by rfl, ?_⟩; intro w hSw; (try dsimp only at hSw); go_simp; try (with_reducible rfl))); (try simp only [Act.put, List.setIfInBounds_toArray, List.set_cons_zero, List.set_cons_succ]))
                    (refine wpAnyH_take (i := 9) (oi := ?oi9_50) (v := ?vv9_50) ?hi9_50 (by kernel_rfl) (by kernel_rfl) (by kernel_rfl) ?hQ9_50 ?hy9_50 (by assumption) ?rest9_50; (case hi9_50 => ((simp only [List.getElem?_toArray, List.getElem?_cons_succ, List.getElem?_cons_zero]); rfl)); (case hQ9_50 => exact (fun _ _ _ h => h)); (case hy9_50 => (refine Or.inl ⟨by rfl, ?_⟩; intro w hSw; (try dsimp only at hSw); go_simp; try (with_reducible rfl))); (try simp only [Act.put, List.setIfInBounds_toArray, List.set_cons_zero, List.set_cons_succ]))
                    (refine wpAnyH_take (i := 10) (oi := ?oi10_51) (v := ?vv10_51) ?hi10_51 (by kernel_rfl) (by kernel_rfl) (by kernel_rfl) ?hQ10_51 ?hy10_51 (by assumption) ?rest10_51; (case hi10_51 => ((simp only [List.getElem?_toArray, List.getElem?_cons_succ, List.getElem?_cons_zero]); rfl)); (case hQ10_51 => exact (fun _ _ _ h => h)); (case hy10_51 => (refine Or.inl ⟨by rfl, ?_⟩; intro w hSw; (try dsimp only at hSw); go_simp; try (with_reducible rfl))); (try simp only [Act.put, List.setIfInBounds_toArray, List.set_cons_zero, List.set_cons_succ]))
                    (refine wpAnyH_take (i := 11) (oi := ?oi11_52) (v := ?vv11_52) ?hi11_52 (by kernel_rfl) (by kernel_rfl) (by kernel_rfl) ?hQ11_52 ?hy11_52 (by assumption) ?rest11_52; (case hi11_52 => ((simp only [List.getElem?_toArray, List.getElem?_cons_succ, List.getElem?_cons_zero]); rfl)); (case hQ11_52 => exact (fun _ _ _ h => h)); (case hy11_52 => (refine Or.inl ⟨by rfl, ?_⟩; intro w hSw; (try dsimp only at hSw); go_simp; try (with_reducible rfl))); (try simp only [Act.put, List.setIfInBounds_toArray, List.set_cons_zero, List.set_cons_succ]))
                    (refine wpAnyH_take (i := 12) (oi := ?oi12_53) (v := ?vv12_53) ?hi12_53 (by kernel_rfl) (by kernel_rfl) (by kernel_rfl) ?hQ12_53 ?hy12_53 (by assumption) ?rest12_53; (case hi12_53 => ((simp only [List.getElem?_toArray, List.getElem?_cons_succ, List.getElem?_cons_zero]); rfl)); (case hQ12_53 => exact (fun _ _ _ h => h)); (case hy12_53 => (refine Or.inl ⟨by rfl, ?_⟩; intro w hSw; (try dsimp only at hSw); go_simp; try (with_reducible rfl))); (try simp only [Act.put, List.setIfInBounds_toArray, List.set_cons_zero, List.set_cons_succ]))
                    (refine wpAnyH_take (i := 13) (oi := ?oi13_54) (v := ?vv13_54) ?hi13_54 (by kernel_rfl) (by kernel_rfl) (by kernel_rfl) ?hQ13_54 ?hy13_54 (by assumption) ?rest13_54; (case hi13_54 => ((simp only [List.getElem?_toArray, List.getElem?_cons_succ, List.getElem?_cons_zero]); rfl)); (case hQ13_54 => exact (fun _ _ _ h => h)); (case hy13_54 => (refine Or.inl ⟨by rfl, ?_⟩; intro w hSw; (try dsimp only at hSw); go_simp; try (with_reducible rfl))); (try simp only [Act.put, List.setIfInBounds_toArray, List.set_cons_zero, List.set_cons_succ]))
                    (refine wpAnyH_take (i := 14) (oi := ?oi14_55) (v := ?vv14_55) ?hi14_55 (by kernel_rfl) (by kernel_rfl) (by kernel_rfl) ?hQ14_55 ?hy14_55 (by assumption) ?rest14_55; (case hi14_55 => ((simp only [List.getElem?_toArray, List.getElem?_cons_succ, List.getElem?_cons_zero]); rfl)); (case hQ14_55 => exact (fun _ _ _ h => h)); (case hy14_55 => (refine Or.inl ⟨by rfl, ?_⟩; intro w hSw; (try dsimp only at hSw); go_simp; try (with_reducible rfl))); (try simp only [Act.put, List.setIfInBounds_toArray, List.set_cons_zero, List.set_cons_succ]))
                    (refine wpAnyH_take (i := 15) (oi := ?oi15_56) (v := ?vv15_56) ?hi15_56 (by kernel_rfl) (by kernel_rfl) (by kernel_rfl) ?hQ15_56 ?hy15_56 (by assumption) ?rest15_56; (case hi15_56 => ((simp only [List.getElem?_toArray, List.getElem?_cons_succ, List.getElem?_cons_zero]); rfl)); (case hQ15_56 => exact (fun _ _ _ h => h)); (case hy15_56 => (refine Or.inl ⟨by rfl, ?_⟩; intro w hSw; (try dsimp only at hSw); go_simp; try (with_reducible rfl))); (try simp only [Act.put, List.setIfInBounds_toArray, List.set_cons_zero, List.set_cons_succ]))
                    (refine wpAnyH_take (i := 16) (oi := ?oi16_57) (v := ?vv16_57) ?hi16_57 (by kernel_rfl) (by kernel_rfl) (by kernel_rfl) ?hQ16_57 ?hy16_57 (by assumption) ?rest16_57; (case hi16_57 => ((simp only [List.getElem?_toArray, List.getElem?_cons_succ, List.getElem?_cons_zero]); rfl)); (case hQ16_57 => exact (fun _ _ _ h => h)); (case hy16_57 => (refine Or.inl ⟨by rfl, ?_⟩; intro w hSw; (try dsimp only at hSw); go_simp; try (with_reducible rfl))); (try simp only [Act.put, List.setIfInBounds_toArray, List.set_cons_zero, List.set_cons_succ]))
                    (refine wpAnyH_take (i := 17) (oi := ?oi17_58) (v := ?vv17_58) ?hi17_58 (by kernel_rfl) (by kernel_rfl) (by kernel_rfl) ?hQ17_58 ?hy17_58 (by assumption) ?rest17_58; (case hi17_58 => ((simp only [List.getElem?_toArray, List.getElem?_cons_succ, List.getElem?_cons_zero]); rfl)); (case hQ17_58 => exact (fun _ _ _ h => h)); (case hy17_58 => (refine Or.inl ⟨by rfl, ?_⟩; intro w hSw; (try dsimp only at hSw); go_simp; try (with_reducible rfl))); (try simp only [Act.put, List.setIfInBounds_toArray, List.set_cons_zero, List.set_cons_succ]))
                    (refine wpAnyH_ready (rs := [18]) (by kernel_rfl) (by simp) ?_; refine AllReadyH.cons (o := ?oc18_59) ?ho18_59 (fun K hK => ?_) AllReadyH.nil; (case ho18_59 => ((simp only [List.getElem?_toArray, List.getElem?_cons_succ, List.getElem?_cons_zero]); rfl)); go_simp)
                    refine Hadd.out.mono ?_
                    rintro e w6 ⟨A6, c6, rfl, ho6, hg6, hrow6⟩
                    have Hb6 := Lib.hid (Hbd.out.grown hg6 Hbd.out.size Hrge.out)
                    have hB6 := Hbx.out.grown hg6 (fun e => Hne.out g e.symm rfl)
                    have Hne6 : Hid (∀ k, (Value.slice A6 (addS out (t1, s2)).length c6).ownBlock = some k → k ≠ g) := fun k hk => by
                      rcases hrow6 with h | ⟨k', h, h'⟩
                      · rw [h] at hk
                        exact Hne.out k hk
                      · rw [h] at hk
                        cases hk
                        have := Hbx.out.lt
                        omega
                    have x0 := hB6.cell 0
                    have x1 := hB6.cell 1
                    simp only [List.getElem?_cons_zero, List.getElem?_cons_succ] at x0 x1
                    have y0 : w6.cell? ⟨bb, ob + i * 2, none⟩ = some (.int .i64 t1) := by
                      obtain ⟨b3, o3, e3, d3, d4⟩ := (Hrb.out.below Hb6.out).span Hil.out
                      injection e3 with e3
                      injection e3 with e4 e5
                      subst e4
                      subst e5
                      rw [Hte.out] at d3
                      exact d3
                    have y1 : w6.cell? ⟨bb, ob + i * 2 + 1, none⟩ = some (.int .i64 t2) := by
                      obtain ⟨b3, o3, e3, d3, d4⟩ := (Hrb.out.below Hb6.out).span Hil.out
                      injection e3 with e3
                      injection e3 with e4 e5
                      subst e4
                      subst e5
                      rw [Hte.out] at d4
                      exact d4
                    have Ho6 := Lib.hid ho6
                    have HB6 := Lib.hid hB6
                    have Hm6 : Hid ((addS out (t1, s2)).length = (addS out (t1, s2)).length) := rfl
                    generalize addS out (t1, s2) = out2 at *
                    obtain ⟨m2, hm2⟩ : ∃ m2, out2.length = m2 := ⟨_, rfl⟩
                    rw [hm2] at Ho6 Hne6 hlen2 ⊢
                    have HM2 := Lib.hid hm2
                    clear hm2 Hm6 ho6 hg6 hrow6 hB6 Hadd
                    go_wp2_with fail
                    refine hK.out _ _ ⟨x0, x1, y0, y1⟩ (fun hHeld2 => ?_)
                    clear hK
                    (try simp only [Act.put, List.setIfInBounds_toArray, List.set_cons_zero, List.set_cons_succ])
                    (refine wpAnyH_take (i := 19) (oi := ?oi19_60) (v := ?vv19_60) ?hi19_60 (by kernel_rfl) (by kernel_rfl) (by kernel_rfl) ?hQ19_60 ?hy19_60 (by assumption) ?rest19_60; (case hi19_60 => ((simp only [List.getElem?_toArray, List.getElem?_cons_succ, List.getElem?_cons_zero]); rfl)); (case hQ19_60 => exact (fun _ _ _ h => h)); (case hy19_60 => (refine Or.inl ⟨by rfl, ?_⟩; intro w hSw; (try dsimp only at hSw); go_simp; try (with_reducible rfl))); (try simp only [Act.put, List.setIfInBounds_toArray, List.set_cons_zero, List.set_cons_succ]))
                    refine wpAnyH_done (by kernel_rfl) ?_ _
                    clear hHeld hHeld2
                    go_wp2_with fail
                    go_quiet (fail)
                    go_wp2_with fail
                    go_roundw
                    case rel => exact ⟨i + 1, m2, c6, A6, out2, rfl, by go_num, by omega, by omega, HM2, Hst, Ho6, HB6, Hne6, below_drewN' Hb6.out _⟩
                    case measure => simp only [intOf, Int.toNat_natCast]; omega
              · by_cases hmn : s2 < t2
                · rw [if_pos hmn] at hst0
                  have Hst := Lib.hid hst0
                  clear hst0
                  have hpair : Hid ((max s1 t1, min s2 t2) = (s1, s2)) := by
                    show _ = _
                    rw [Prod.mk.injEq]
                    omega
                  rw [hpair.out] at Hst
                  have f1 : (if s1 < t1 then t1 else s1) = s1 := if_neg hmx
                  have f2 : (if t2 < s2 then t2 else s2) = s2 := if_neg (by omega)
                  have f3 : s2 < t2 := hmn
                  clear hmx hmn
                  have hod : Own wr.drew w.heap.size 40 2 A' m c' (spc out) := Ho.out
                  have Hadd := Lib.hid (sadd_any out s1 s2 m c' w.heap.size A' wr.drew Hm.out hod (by omega) Hb.out.size)
                  have Hbd : Hid (Below w.heap.size w wr.drew) := Hb.out.drew
                  have Hbx : Hid (Blk wr.drew g 40 [.int .i64 s1, .int .i64 s2]) := Hbi.out
                  have hrge := Ho.out.row_ge
                  have Hrge := Lib.hid hrge
                  have hlen2 := addS_len out (s1, s2)
                  rw [Hm.out] at hlen2
                  clear hod hrge Ho Hb Hbi hpair
                  go_wp2_with fail
                  refine wp_region_held_drew (S := fun w' => w'.cell? ⟨g, 0, none⟩ = some (.int .i64 s1) ∧ w'.cell? ⟨g, 1, none⟩ = some (.int .i64 s2) ∧ w'.cell? ⟨bb, ob + i * 2, none⟩ = some (.int .i64 t1) ∧ w'.cell? ⟨bb, ob + i * 2 + 1, none⟩ = some (.int .i64 t2)) (by kernel_rfl) ⟨k0, k1, d0, d1⟩ (fun hHeld => ?_)
                  (refine wpAnyH_take (i := 0) (oi := ?oi0_61) (v := ?vv0_61) ?hi0_61 (by kernel_rfl) (by kernel_rfl) (by kernel_rfl) ?hQ0_61 ?hy0_61 (by assumption) ?rest0_61; (case hi0_61 => ((simp only [List.getElem?_toArray, List.getElem?_cons_succ, List.getElem?_cons_zero]); rfl)); (case hQ0_61 => exact (fun _ _ _ h => h)); (case hy0_61 => (refine Or.inl ⟨by rfl, ?_⟩; intro w hSw; (try dsimp only at hSw); go_simp; try (with_reducible rfl))); (try simp only [Act.put, List.setIfInBounds_toArray, List.set_cons_zero, List.set_cons_succ]))
                  (refine wpAnyH_take (i := 1) (oi := ?oi1_62) (v := ?vv1_62) ?hi1_62 (by kernel_rfl) (by kernel_rfl) (by kernel_rfl) ?hQ1_62 ?hy1_62 (by assumption) ?rest1_62; (case hi1_62 => ((simp only [List.getElem?_toArray, List.getElem?_cons_succ, List.getElem?_cons_zero]); rfl)); (case hQ1_62 => exact (fun _ _ _ h => h)); (case hy1_62 => (refine Or.inl ⟨by rfl, ?_⟩; intro w hSw; (try dsimp only at hSw); go_simp; try (with_reducible rfl))); (try simp only [Act.put, List.setIfInBounds_toArray, List.set_cons_zero, List.set_cons_succ]))
                  (refine wpAnyH_take (i := 2) (oi := ?oi2_63) (v := ?vv2_63) ?hi2_63 (by kernel_rfl) (by kernel_rfl) (by kernel_rfl) ?hQ2_63 ?hy2_63 (by assumption) ?rest2_63; (case hi2_63 => ((simp only [List.getElem?_toArray, List.getElem?_cons_succ, List.getElem?_cons_zero]); rfl)); (case hQ2_63 => exact (fun _ _ _ h => h)); (case hy2_63 => (refine Or.inl ⟨by rfl, ?_⟩; intro w hSw; (try dsimp only at hSw); go_simp; try (with_reducible rfl))); (try simp only [Act.put, List.setIfInBounds_toArray, List.set_cons_zero, List.set_cons_succ]))
                  (refine wpAnyH_take (i := 3) (oi := ?oi3_64) (v := ?vv3_64) ?hi3_64 (by kernel_rfl) (by kernel_rfl) (by kernel_rfl) ?hQ3_64 ?hy3_64 (by assumption) ?rest3_64; (case hi3_64 => ((simp only [List.getElem?_toArray, List.getElem?_cons_succ, List.getElem?_cons_zero]); rfl)); (case hQ3_64 => exact (fun _ _ _ h => h)); (case hy3_64 => (refine Or.inl ⟨by rfl, ?_⟩; intro w hSw; (try dsimp only at hSw); go_simp; try (with_reducible rfl))); (try simp only [Act.put, List.setIfInBounds_toArray, List.set_cons_zero, List.set_cons_succ]))
                  (refine wpAnyH_take (i := 4) (oi := ?oi4_65) (v := ?vv4_65) ?hi4_65 (by kernel_rfl) (by kernel_rfl) (by kernel_rfl) ?hQ4_65 ?hy4_65 (by assumption) ?rest4_65; (case hi4_65 => ((simp only [List.getElem?_toArray, List.getElem?_cons_succ, List.getElem?_cons_zero]); rfl)); (case hQ4_65 => exact (fun _ _ _ h => h)); (case hy4_65 => (refine Or.inl ⟨by rfl, ?_⟩; intro w hSw; (try dsimp only at hSw); go_simp; try (with_reducible rfl))); (try simp only [Act.put, List.setIfInBounds_toArray, List.set_cons_zero, List.set_cons_succ]))
                  (refine wpAnyH_take (i := 5) (oi := ?oi5_66) (v := ?vv5_66) ?hi5_66 (by kernel_rfl) (by kernel_rfl) (by kernel_rfl) ?hQ5_66 ?hy5_66 (by assumption) ?rest5_66; (case hi5_66 => ((simp only [List.getElem?_toArray, List.getElem?_cons_succ, List.getElem?_cons_zero]); rfl)); (case hQ5_66 => exact (fun _ _ _ h => h)); (case hy5_66 => (refine Or.inl ⟨by rfl, ?_⟩; intro w hSw; (try dsimp only at hSw); go_simp; try (with_reducible rfl))); (try simp only [Act.put, List.setIfInBounds_toArray, List.set_cons_zero, List.set_cons_succ]))
                  (refine wpAnyH_take (i := 6) (oi := ?oi6_67) (v := ?vv6_67) ?hi6_67 (by kernel_rfl) (by kernel_rfl) (by kernel_rfl) ?hQ6_67 ?hy6_67 (by assumption) ?rest6_67; (case hi6_67 => ((simp only [List.getElem?_toArray, List.getElem?_cons_succ, List.getElem?_cons_zero]); rfl)); (case hQ6_67 => exact (fun _ _ _ h => h)); (case hy6_67 => (refine Or.inl ⟨by rfl, ?_⟩; intro w hSw; (try dsimp only at hSw); go_simp; try (with_reducible rfl))); (try simp only [Act.put, List.setIfInBounds_toArray, List.set_cons_zero, List.set_cons_succ]))
                  (refine wpAnyH_take (i := 7) (oi := ?oi7_68) (v := ?vv7_68) ?hi7_68 (by kernel_rfl) (by kernel_rfl) (by kernel_rfl) ?hQ7_68 ?hy7_68 (by assumption) ?rest7_68; (case hi7_68 => ((simp only [List.getElem?_toArray, List.getElem?_cons_succ, List.getElem?_cons_zero]); rfl)); (case hQ7_68 => exact (fun _ _ _ h => h)); (case hy7_68 => (refine Or.inl ⟨by rfl, ?_⟩; intro w hSw; (try dsimp only at hSw); go_simp; try (with_reducible rfl))); (try simp only [Act.put, List.setIfInBounds_toArray, List.set_cons_zero, List.set_cons_succ]))
                  (refine wpAnyH_take (i := 8) (oi := ?oi8_69) (v := ?vv8_69) ?hi8_69 (by kernel_rfl) (by kernel_rfl) (by kernel_rfl) ?hQ8_69 ?hy8_69 (by assumption) ?rest8_69; (case hi8_69 => ((simp only [List.getElem?_toArray, List.getElem?_cons_succ, List.getElem?_cons_zero]); rfl)); (case hQ8_69 => exact (fun _ _ _ h => h)); (case hy8_69 => (refine Or.inl ⟨by rfl, ?_⟩; intro w hSw; (try dsimp only at hSw); go_simp; try (with_reducible rfl))); (try simp only [Act.put, List.setIfInBounds_toArray, List.set_cons_zero, List.set_cons_succ]))
                  (refine wpAnyH_take (i := 9) (oi := ?oi9_70) (v := ?vv9_70) ?hi9_70 (by kernel_rfl) (by kernel_rfl) (by kernel_rfl) ?hQ9_70 ?hy9_70 (by assumption) ?rest9_70; (case hi9_70 => ((simp only [List.getElem?_toArray, List.getElem?_cons_succ, List.getElem?_cons_zero]); rfl)); (case hQ9_70 => exact (fun _ _ _ h => h)); (case hy9_70 => (refine Or.inl ⟨by rfl, ?_⟩; intro w hSw; (try dsimp only at hSw); go_simp; try (with_reducible rfl))); (try simp only [Act.put, List.setIfInBounds_toArray, List.set_cons_zero, List.set_cons_succ]))
                  (refine wpAnyH_take (i := 10) (oi := ?oi10_71) (v := ?vv10_71) ?hi10_71 (by kernel_rfl) (by kernel_rfl) (by kernel_rfl) ?hQ10_71 ?hy10_71 (by assumption) ?rest10_71; (case hi10_71 => ((simp only [List.getElem?_toArray, List.getElem?_cons_succ, List.getElem?_cons_zero]); rfl)); (case hQ10_71 => exact (fun _ _ _ h => h)); (case hy10_71 => (refine Or.inl ⟨by rfl, ?_⟩; intro w hSw; (try dsimp only at hSw); go_simp; try (with_reducible rfl))); (try simp only [Act.put, List.setIfInBounds_toArray, List.set_cons_zero, List.set_cons_succ]))
                  (refine wpAnyH_take (i := 11) (oi := ?oi11_72) (v := ?vv11_72) ?hi11_72 (by kernel_rfl) (by kernel_rfl) (by kernel_rfl) ?hQ11_72 ?hy11_72 (by assumption) ?rest11_72; (case hi11_72 => ((simp only [List.getElem?_toArray, List.getElem?_cons_succ, List.getElem?_cons_zero]); rfl)); (case hQ11_72 => exact (fun _ _ _ h => h)); (case hy11_72 => (refine Or.inl ⟨by rfl, ?_⟩; intro w hSw; (try dsimp only at hSw); go_simp; try (with_reducible rfl))); (try simp only [Act.put, List.setIfInBounds_toArray, List.set_cons_zero, List.set_cons_succ]))
                  (refine wpAnyH_take (i := 12) (oi := ?oi12_73) (v := ?vv12_73) ?hi12_73 (by kernel_rfl) (by kernel_rfl) (by kernel_rfl) ?hQ12_73 ?hy12_73 (by assumption) ?rest12_73; (case hi12_73 => ((simp only [List.getElem?_toArray, List.getElem?_cons_succ, List.getElem?_cons_zero]); rfl)); (case hQ12_73 => exact (fun _ _ _ h => h)); (case hy12_73 => (refine Or.inl ⟨by rfl, ?_⟩; intro w hSw; (try dsimp only at hSw); go_simp; try (with_reducible rfl))); (try simp only [Act.put, List.setIfInBounds_toArray, List.set_cons_zero, List.set_cons_succ]))
                  (refine wpAnyH_take (i := 13) (oi := ?oi13_74) (v := ?vv13_74) ?hi13_74 (by kernel_rfl) (by kernel_rfl) (by kernel_rfl) ?hQ13_74 ?hy13_74 (by assumption) ?rest13_74; (case hi13_74 => ((simp only [List.getElem?_toArray, List.getElem?_cons_succ, List.getElem?_cons_zero]); rfl)); (case hQ13_74 => exact (fun _ _ _ h => h)); (case hy13_74 => (refine Or.inl ⟨by rfl, ?_⟩; intro w hSw; (try dsimp only at hSw); go_simp; try (with_reducible rfl))); (try simp only [Act.put, List.setIfInBounds_toArray, List.set_cons_zero, List.set_cons_succ]))
                  (refine wpAnyH_take (i := 14) (oi := ?oi14_75) (v := ?vv14_75) ?hi14_75 (by kernel_rfl) (by kernel_rfl) (by kernel_rfl) ?hQ14_75 ?hy14_75 (by assumption) ?rest14_75; (case hi14_75 => ((simp only [List.getElem?_toArray, List.getElem?_cons_succ, List.getElem?_cons_zero]); rfl)); (case hQ14_75 => exact (fun _ _ _ h => h)); (case hy14_75 => (refine Or.inl ⟨by rfl, ?_⟩; intro w hSw; (try dsimp only at hSw); go_simp; try (with_reducible rfl))); (try simp only [Act.put, List.setIfInBounds_toArray, List.set_cons_zero, List.set_cons_succ]))
                  (refine wpAnyH_take (i := 15) (oi := ?oi15_76) (v := ?vv15_76) ?hi15_76 (by kernel_rfl) (by kernel_rfl) (by kernel_rfl) ?hQ15_76 ?hy15_76 (by assumption) ?rest15_76; (case hi15_76 => ((simp only [List.getElem?_toArray, List.getElem?_cons_succ, List.getElem?_cons_zero]); rfl)); (case hQ15_76 => exact (fun _ _ _ h => h)); (case hy15_76 => (refine Or.inl ⟨by rfl, ?_⟩; intro w hSw; (try dsimp only at hSw); go_simp; try (with_reducible rfl))); (try simp only [Act.put, List.setIfInBounds_toArray, List.set_cons_zero, List.set_cons_succ]))
                  (refine wpAnyH_take (i := 16) (oi := ?oi16_77) (v := ?vv16_77) ?hi16_77 (by kernel_rfl) (by kernel_rfl) (by kernel_rfl) ?hQ16_77 ?hy16_77 (by assumption) ?rest16_77; (case hi16_77 => ((simp only [List.getElem?_toArray, List.getElem?_cons_succ, List.getElem?_cons_zero]); rfl)); (case hQ16_77 => exact (fun _ _ _ h => h)); (case hy16_77 => (refine Or.inl ⟨by rfl, ?_⟩; intro w hSw; (try dsimp only at hSw); go_simp; try (with_reducible rfl))); (try simp only [Act.put, List.setIfInBounds_toArray, List.set_cons_zero, List.set_cons_succ]))
                  (refine wpAnyH_take (i := 17) (oi := ?oi17_78) (v := ?vv17_78) ?hi17_78 (by kernel_rfl) (by kernel_rfl) (by kernel_rfl) ?hQ17_78 ?hy17_78 (by assumption) ?rest17_78; (case hi17_78 => ((simp only [List.getElem?_toArray, List.getElem?_cons_succ, List.getElem?_cons_zero]); rfl)); (case hQ17_78 => exact (fun _ _ _ h => h)); (case hy17_78 => (refine Or.inl ⟨by rfl, ?_⟩; intro w hSw; (try dsimp only at hSw); go_simp; try (with_reducible rfl))); (try simp only [Act.put, List.setIfInBounds_toArray, List.set_cons_zero, List.set_cons_succ]))
                  (refine wpAnyH_ready (rs := [18]) (by kernel_rfl) (by simp) ?_; refine AllReadyH.cons (o := ?oc18_79) ?ho18_79 (fun K hK => ?_) AllReadyH.nil; (case ho18_79 => ((simp only [List.getElem?_toArray, List.getElem?_cons_succ, List.getElem?_cons_zero]); rfl)); go_simp)
                  refine Hadd.out.mono ?_
                  rintro e w6 ⟨A6, c6, rfl, ho6, hg6, hrow6⟩
                  have Hb6 := Lib.hid (Hbd.out.grown hg6 Hbd.out.size Hrge.out)
                  have hB6 := Hbx.out.grown hg6 (fun e => Hne.out g e.symm rfl)
                  have Hne6 : Hid (∀ k, (Value.slice A6 (addS out (s1, s2)).length c6).ownBlock = some k → k ≠ g) := fun k hk => by
                    rcases hrow6 with h | ⟨k', h, h'⟩
                    · rw [h] at hk
                      exact Hne.out k hk
                    · rw [h] at hk
                      cases hk
                      have := Hbx.out.lt
                      omega
                  have x0 := hB6.cell 0
                  have x1 := hB6.cell 1
                  simp only [List.getElem?_cons_zero, List.getElem?_cons_succ] at x0 x1
                  have y0 : w6.cell? ⟨bb, ob + i * 2, none⟩ = some (.int .i64 t1) := by
                    obtain ⟨b3, o3, e3, d3, d4⟩ := (Hrb.out.below Hb6.out).span Hil.out
                    injection e3 with e3
                    injection e3 with e4 e5
                    subst e4
                    subst e5
                    rw [Hte.out] at d3
                    exact d3
                  have y1 : w6.cell? ⟨bb, ob + i * 2 + 1, none⟩ = some (.int .i64 t2) := by
                    obtain ⟨b3, o3, e3, d3, d4⟩ := (Hrb.out.below Hb6.out).span Hil.out
                    injection e3 with e3
                    injection e3 with e4 e5
                    subst e4
                    subst e5
                    rw [Hte.out] at d4
                    exact d4
                  have Ho6 := Lib.hid ho6
                  have HB6 := Lib.hid hB6
                  have Hm6 : Hid ((addS out (s1, s2)).length = (addS out (s1, s2)).length) := rfl
                  generalize addS out (s1, s2) = out2 at *
                  obtain ⟨m2, hm2⟩ : ∃ m2, out2.length = m2 := ⟨_, rfl⟩
                  rw [hm2] at Ho6 Hne6 hlen2 ⊢
                  have HM2 := Lib.hid hm2
                  clear hm2 Hm6 ho6 hg6 hrow6 hB6 Hadd
                  go_wp2_with fail
                  refine hK.out _ _ ⟨x0, x1, y0, y1⟩ (fun hHeld2 => ?_)
                  clear hK
                  (try simp only [Act.put, List.setIfInBounds_toArray, List.set_cons_zero, List.set_cons_succ])
                  (refine wpAnyH_take (i := 19) (oi := ?oi19_80) (v := ?vv19_80) ?hi19_80 (by kernel_rfl) (by kernel_rfl) (by kernel_rfl) ?hQ19_80 ?hy19_80 (by assumption) ?rest19_80; (case hi19_80 => ((simp only [List.getElem?_toArray, List.getElem?_cons_succ, List.getElem?_cons_zero]); rfl)); (case hQ19_80 => exact (fun _ _ _ h => h)); (case hy19_80 => (refine Or.inl ⟨by rfl, ?_⟩; intro w hSw; (try dsimp only at hSw); go_simp; try (with_reducible rfl))); (try simp only [Act.put, List.setIfInBounds_toArray, List.set_cons_zero, List.set_cons_succ]))
                  refine wpAnyH_done (by kernel_rfl) ?_ _
                  clear hHeld hHeld2
                  go_wp2_with fail
                  go_quiet (fail)
                  go_wp2_with fail
                  go_roundw
                  case rel => exact ⟨j + 1, i, m2, c6, A6, out2, rfl, rfl, by go_num, by omega, by omega, by omega, HM2, by show _ = _; rw [Hst.out, Hdb.out], Ho6, below_drewN' Hb6.out _⟩
                  case measure => simp only [intOf, Int.toNat_natCast]; omega
                · rw [if_neg hmn] at hst0
                  have Hst := Lib.hid hst0
                  clear hst0
                  by_cases hmn2 : t2 < s2
                  · skip
                    have hpair : Hid ((max s1 t1, min s2 t2) = (s1, t2)) := by
                      show _ = _
                      rw [Prod.mk.injEq]
                      omega
                    rw [hpair.out] at Hst
                    have f1 : (if s1 < t1 then t1 else s1) = s1 := if_neg hmx
                    have f2 : (if t2 < s2 then t2 else s2) = t2 := if_pos hmn2
                    have f3 : ¬ s2 < t2 := hmn
                    clear hmx hmn hmn2
                    have hod : Own wr.drew w.heap.size 40 2 A' m c' (spc out) := Ho.out
                    have Hadd := Lib.hid (sadd_any out s1 t2 m c' w.heap.size A' wr.drew Hm.out hod (by omega) Hb.out.size)
                    have Hbd : Hid (Below w.heap.size w wr.drew) := Hb.out.drew
                    have Hbx : Hid (Blk wr.drew g 40 [.int .i64 s1, .int .i64 s2]) := Hbi.out
                    have hrge := Ho.out.row_ge
                    have Hrge := Lib.hid hrge
                    have hlen2 := addS_len out (s1, t2)
                    rw [Hm.out] at hlen2
                    clear hod hrge Ho Hb Hbi hpair
                    go_wp2_with fail
                    refine wp_region_held_drew (S := fun w' => w'.cell? ⟨g, 0, none⟩ = some (.int .i64 s1) ∧ w'.cell? ⟨g, 1, none⟩ = some (.int .i64 s2) ∧ w'.cell? ⟨bb, ob + i * 2, none⟩ = some (.int .i64 t1) ∧ w'.cell? ⟨bb, ob + i * 2 + 1, none⟩ = some (.int .i64 t2)) (by kernel_rfl) ⟨k0, k1, d0, d1⟩ (fun hHeld => ?_)
                    (refine wpAnyH_take (i := 0) (oi := ?oi0_81) (v := ?vv0_81) ?hi0_81 (by kernel_rfl) (by kernel_rfl) (by kernel_rfl) ?hQ0_81 ?hy0_81 (by assumption) ?rest0_81; (case hi0_81 => ((simp only [List.getElem?_toArray, List.getElem?_cons_succ, List.getElem?_cons_zero]); rfl)); (case hQ0_81 => exact (fun _ _ _ h => h)); (case hy0_81 => (refine Or.inl ⟨by rfl, ?_⟩; intro w hSw; (try dsimp only at hSw); go_simp; try (with_reducible rfl))); (try simp only [Act.put, List.setIfInBounds_toArray, List.set_cons_zero, List.set_cons_succ]))
                    (refine wpAnyH_take (i := 1) (oi := ?oi1_82) (v := ?vv1_82) ?hi1_82 (by kernel_rfl) (by kernel_rfl) (by kernel_rfl) ?hQ1_82 ?hy1_82 (by assumption) ?rest1_82; (case hi1_82 => ((simp only [List.getElem?_toArray, List.getElem?_cons_succ, List.getElem?_cons_zero]); rfl)); (case hQ1_82 => exact (fun _ _ _ h => h)); (case hy1_82 => (refine Or.inl ⟨by rfl, ?_⟩; intro w hSw; (try dsimp only at hSw); go_simp; try (with_reducible rfl))); (try simp only [Act.put, List.setIfInBounds_toArray, List.set_cons_zero, List.set_cons_succ]))
                    (refine wpAnyH_take (i := 2) (oi := ?oi2_83) (v := ?vv2_83) ?hi2_83 (by kernel_rfl) (by kernel_rfl) (by kernel_rfl) ?hQ2_83 ?hy2_83 (by assumption) ?rest2_83; (case hi2_83 => ((simp only [List.getElem?_toArray, List.getElem?_cons_succ, List.getElem?_cons_zero]); rfl)); (case hQ2_83 => exact (fun _ _ _ h => h)); (case hy2_83 => (refine Or.inl ⟨by rfl, ?_⟩; intro w hSw; (try dsimp only at hSw); go_simp; try (with_reducible rfl))); (try simp only [Act.put, List.setIfInBounds_toArray, List.set_cons_zero, List.set_cons_succ]))
                    (refine wpAnyH_take (i := 3) (oi := ?oi3_84) (v := ?vv3_84) ?hi3_84 (by kernel_rfl) (by kernel_rfl) (by kernel_rfl) ?hQ3_84 ?hy3_84 (by assumption) ?rest3_84; (case hi3_84 => ((simp only [List.getElem?_toArray, List.getElem?_cons_succ, List.getElem?_cons_zero]); rfl)); (case hQ3_84 => exact (fun _ _ _ h => h)); (case hy3_84 => (refine Or.inl ⟨by rfl, ?_⟩; intro w hSw; (try dsimp only at hSw); go_simp; try (with_reducible rfl))); (try simp only [Act.put, List.setIfInBounds_toArray, List.set_cons_zero, List.set_cons_succ]))
                    (refine wpAnyH_take (i := 4) (oi := ?oi4_85) (v := ?vv4_85) ?hi4_85 (by kernel_rfl) (by kernel_rfl) (by kernel_rfl) ?hQ4_85 ?hy4_85 (by assumption) ?rest4_85; (case hi4_85 => ((simp only [List.getElem?_toArray, List.getElem?_cons_succ, List.getElem?_cons_zero]); rfl)); (case hQ4_85 => exact (fun _ _ _ h => h)); (case hy4_85 => (refine Or.inl ⟨by rfl, ?_⟩; intro w hSw; (try dsimp only at hSw); go_simp; try (with_reducible rfl))); (try simp only [Act.put, List.setIfInBounds_toArray, List.set_cons_zero, List.set_cons_succ]))
                    (refine wpAnyH_take (i := 5) (oi := ?oi5_86) (v := ?vv5_86) ?hi5_86 (by kernel_rfl) (by kernel_rfl) (by kernel_rfl) ?hQ5_86 ?hy5_86 (by assumption) ?rest5_86; (case hi5_86 => ((simp only [List.getElem?_toArray, List.getElem?_cons_succ, List.getElem?_cons_zero]); rfl)); (case hQ5_86 => exact (fun _ _ _ h => h)); (case hy5_86 => (refine Or.inl ⟨by rfl, ?_⟩; intro w hSw; (try dsimp only at hSw); go_simp; try (with_reducible rfl))); (try simp only [Act.put, List.setIfInBounds_toArray, List.set_cons_zero, List.set_cons_succ]))
                    (refine wpAnyH_take (i := 6) (oi := ?oi6_87) (v := ?vv6_87) ?hi6_87 (by kernel_rfl) (by kernel_rfl) (by kernel_rfl) ?hQ6_87 ?hy6_87 (by assumption) ?rest6_87; (case hi6_87 => ((simp only [List.getElem?_toArray, List.getElem?_cons_succ, List.getElem?_cons_zero]); rfl)); (case hQ6_87 => exact (fun _ _ _ h => h)); (case hy6_87 => (refine Or.inl ⟨by rfl, ?_⟩; intro w hSw; (try dsimp only at hSw); go_simp; try (with_reducible rfl))); (try simp only [Act.put, List.setIfInBounds_toArray, List.set_cons_zero, List.set_cons_succ]))
                    (refine wpAnyH_take (i := 7) (oi := ?oi7_88) (v := ?vv7_88) ?hi7_88 (by kernel_rfl) (by kernel_rfl) (by kernel_rfl) ?hQ7_88 ?hy7_88 (by assumption) ?rest7_88; (case hi7_88 => ((simp only [List.getElem?_toArray, List.getElem?_cons_succ, List.getElem?_cons_zero]); rfl)); (case hQ7_88 => exact (fun _ _ _ h => h)); (case hy7_88 => (refine Or.inl ⟨by rfl, ?_⟩; intro w hSw; (try dsimp only at hSw); go_simp; try (with_reducible rfl))); (try simp only [Act.put, List.setIfInBounds_toArray, List.set_cons_zero, List.set_cons_succ]))
                    (refine wpAnyH_take (i := 8) (oi := ?oi8_89) (v := ?vv8_89) ?hi8_89 (by kernel_rfl) (by kernel_rfl) (by kernel_rfl) ?hQ8_89 ?hy8_89 (by assumption) ?rest8_89; (case hi8_89 => ((simp only [List.getElem?_toArray, List.getElem?_cons_succ, List.getElem?_cons_zero]); rfl)); (case hQ8_89 => exact (fun _ _ _ h => h)); (case hy8_89 => (refine Or.inl ⟨by rfl, ?_⟩; intro w hSw; (try dsimp only at hSw); go_simp; try (with_reducible rfl))); (try simp only [Act.put, List.setIfInBounds_toArray, List.set_cons_zero, List.set_cons_succ]))
                    (refine wpAnyH_take (i := 9) (oi := ?oi9_90) (v := ?vv9_90) ?hi9_90 (by kernel_rfl) (by kernel_rfl) (by kernel_rfl) ?hQ9_90 ?hy9_90 (by assumption) ?rest9_90; (case hi9_90 => ((simp only [List.getElem?_toArray, List.getElem?_cons_succ, List.getElem?_cons_zero]); rfl)); (case hQ9_90 => exact (fun _ _ _ h => h)); (case hy9_90 => (refine Or.inl ⟨by rfl, ?_⟩; intro w hSw; (try dsimp only at hSw); go_simp; try (with_reducible rfl))); (try simp only [Act.put, List.setIfInBounds_toArray, List.set_cons_zero, List.set_cons_succ]))
                    (refine wpAnyH_take (i := 10) (oi := ?oi10_91) (v := ?vv10_91) ?hi10_91 (by kernel_rfl) (by kernel_rfl) (by kernel_rfl) ?hQ10_91 ?hy10_91 (by assumption) ?rest10_91; (case hi10_91 => ((simp only [List.getElem?_toArray, List.getElem?_cons_succ, List.getElem?_cons_zero]); rfl)); (case hQ10_91 => exact (fun _ _ _ h => h)); (case hy10_91 => (refine Or.inl ⟨by rfl, ?_⟩; intro w hSw; (try dsimp only at hSw); go_simp; try (with_reducible rfl))); (try simp only [Act.put, List.setIfInBounds_toArray, List.set_cons_zero, List.set_cons_succ]))
                    (refine wpAnyH_take (i := 11) (oi := ?oi11_92) (v := ?vv11_92) ?hi11_92 (by kernel_rfl) (by kernel_rfl) (by kernel_rfl) ?hQ11_92 ?hy11_92 (by assumption) ?rest11_92; (case hi11_92 => ((simp only [List.getElem?_toArray, List.getElem?_cons_succ, List.getElem?_cons_zero]); rfl)); (case hQ11_92 => exact (fun _ _ _ h => h)); (case hy11_92 => (refine Or.inl ⟨by rfl, ?_⟩; intro w hSw; (try dsimp only at hSw); go_simp; try (with_reducible rfl))); (try simp only [Act.put, List.setIfInBounds_toArray, List.set_cons_zero, List.set_cons_succ]))
                    (refine wpAnyH_take (i := 12) (oi := ?oi12_93) (v := ?vv12_93) ?hi12_93 (by kernel_rfl) (by kernel_rfl) (by kernel_rfl) ?hQ12_93 ?hy12_93 (by assumption) ?rest12_93; (case hi12_93 => ((simp only [List.getElem?_toArray, List.getElem?_cons_succ, List.getElem?_cons_zero]); rfl)); (case hQ12_93 => exact (fun _ _ _ h => h)); (case hy12_93 => (refine Or.inl ⟨by rfl, ?_⟩; intro w hSw; (try dsimp only at hSw); go_simp; try (with_reducible rfl))); (try simp only [Act.put, List.setIfInBounds_toArray, List.set_cons_zero, List.set_cons_succ]))
                    (refine wpAnyH_take (i := 13) (oi := ?oi13_94) (v := ?vv13_94) ?hi13_94 (by kernel_rfl) (by kernel_rfl) (by kernel_rfl) ?hQ13_94 ?hy13_94 (by assumption) ?rest13_94; (case hi13_94 => ((simp only [List.getElem?_toArray, List.getElem?_cons_succ, List.getElem?_cons_zero]); rfl)); (case hQ13_94 => exact (fun _ _ _ h => h)); (case hy13_94 => (refine Or.inl ⟨by rfl, ?_⟩; intro w hSw; (try dsimp only at hSw); go_simp; try (with_reducible rfl))); (try simp only [Act.put, List.setIfInBounds_toArray, List.set_cons_zero, List.set_cons_succ]))
                    (refine wpAnyH_take (i := 14) (oi := ?oi14_95) (v := ?vv14_95) ?hi14_95 (by kernel_rfl) (by kernel_rfl) (by kernel_rfl) ?hQ14_95 ?hy14_95 (by assumption) ?rest14_95; (case hi14_95 => ((simp only [List.getElem?_toArray, List.getElem?_cons_succ, List.getElem?_cons_zero]); rfl)); (case hQ14_95 => exact (fun _ _ _ h => h)); (case hy14_95 => (refine Or.inl ⟨by rfl, ?_⟩; intro w hSw; (try dsimp only at hSw); go_simp; try (with_reducible rfl))); (try simp only [Act.put, List.setIfInBounds_toArray, List.set_cons_zero, List.set_cons_succ]))
                    (refine wpAnyH_take (i := 15) (oi := ?oi15_96) (v := ?vv15_96) ?hi15_96 (by kernel_rfl) (by kernel_rfl) (by kernel_rfl) ?hQ15_96 ?hy15_96 (by assumption) ?rest15_96; (case hi15_96 => ((simp only [List.getElem?_toArray, List.getElem?_cons_succ, List.getElem?_cons_zero]); rfl)); (case hQ15_96 => exact (fun _ _ _ h => h)); (case hy15_96 => (refine Or.inl ⟨by rfl, ?_⟩; intro w hSw; (try dsimp only at hSw); go_simp; try (with_reducible rfl))); (try simp only [Act.put, List.setIfInBounds_toArray, List.set_cons_zero, List.set_cons_succ]))
                    (refine wpAnyH_take (i := 16) (oi := ?oi16_97) (v := ?vv16_97) ?hi16_97 (by kernel_rfl) (by kernel_rfl) (by kernel_rfl) ?hQ16_97 ?hy16_97 (by assumption) ?rest16_97; (case hi16_97 => ((simp only [List.getElem?_toArray, List.getElem?_cons_succ, List.getElem?_cons_zero]); rfl)); (case hQ16_97 => exact (fun _ _ _ h => h)); (case hy16_97 => (refine Or.inl ⟨by rfl, ?_⟩; intro w hSw; (try dsimp only at hSw); go_simp; try (with_reducible rfl))); (try simp only [Act.put, List.setIfInBounds_toArray, List.set_cons_zero, List.set_cons_succ]))
                    (refine wpAnyH_take (i := 17) (oi := ?oi17_98) (v := ?vv17_98) ?hi17_98 (by kernel_rfl) (by kernel_rfl) (by kernel_rfl) ?hQ17_98 ?hy17_98 (by assumption) ?rest17_98; (case hi17_98 => ((simp only [List.getElem?_toArray, List.getElem?_cons_succ, List.getElem?_cons_zero]); rfl)); (case hQ17_98 => exact (fun _ _ _ h => h)); (case hy17_98 => (refine Or.inl ⟨by rfl, ?_⟩; intro w hSw; (try dsimp only at hSw); go_simp; try (with_reducible rfl))); (try simp only [Act.put, List.setIfInBounds_toArray, List.set_cons_zero, List.set_cons_succ]))
                    (refine wpAnyH_ready (rs := [18]) (by kernel_rfl) (by simp) ?_; refine AllReadyH.cons (o := ?oc18_99) ?ho18_99 (fun K hK => ?_) AllReadyH.nil; (case ho18_99 => ((simp only [List.getElem?_toArray, List.getElem?_cons_succ, List.getElem?_cons_zero]); rfl)); go_simp)
                    refine Hadd.out.mono ?_
                    rintro e w6 ⟨A6, c6, rfl, ho6, hg6, hrow6⟩
                    have Hb6 := Lib.hid (Hbd.out.grown hg6 Hbd.out.size Hrge.out)
                    have hB6 := Hbx.out.grown hg6 (fun e => Hne.out g e.symm rfl)
                    have Hne6 : Hid (∀ k, (Value.slice A6 (addS out (s1, t2)).length c6).ownBlock = some k → k ≠ g) := fun k hk => by
                      rcases hrow6 with h | ⟨k', h, h'⟩
                      · rw [h] at hk
                        exact Hne.out k hk
                      · rw [h] at hk
                        cases hk
                        have := Hbx.out.lt
                        omega
                    have x0 := hB6.cell 0
                    have x1 := hB6.cell 1
                    simp only [List.getElem?_cons_zero, List.getElem?_cons_succ] at x0 x1
                    have y0 : w6.cell? ⟨bb, ob + i * 2, none⟩ = some (.int .i64 t1) := by
                      obtain ⟨b3, o3, e3, d3, d4⟩ := (Hrb.out.below Hb6.out).span Hil.out
                      injection e3 with e3
                      injection e3 with e4 e5
                      subst e4
                      subst e5
                      rw [Hte.out] at d3
                      exact d3
                    have y1 : w6.cell? ⟨bb, ob + i * 2 + 1, none⟩ = some (.int .i64 t2) := by
                      obtain ⟨b3, o3, e3, d3, d4⟩ := (Hrb.out.below Hb6.out).span Hil.out
                      injection e3 with e3
                      injection e3 with e4 e5
                      subst e4
                      subst e5
                      rw [Hte.out] at d4
                      exact d4
                    have Ho6 := Lib.hid ho6
                    have HB6 := Lib.hid hB6
                    have Hm6 : Hid ((addS out (s1, t2)).length = (addS out (s1, t2)).length) := rfl
                    generalize addS out (s1, t2) = out2 at *
                    obtain ⟨m2, hm2⟩ : ∃ m2, out2.length = m2 := ⟨_, rfl⟩
                    rw [hm2] at Ho6 Hne6 hlen2 ⊢
                    have HM2 := Lib.hid hm2
                    clear hm2 Hm6 ho6 hg6 hrow6 hB6 Hadd
                    go_wp2_with fail
                    refine hK.out _ _ ⟨x0, x1, y0, y1⟩ (fun hHeld2 => ?_)
                    clear hK
                    (try simp only [Act.put, List.setIfInBounds_toArray, List.set_cons_zero, List.set_cons_succ])
                    (refine wpAnyH_take (i := 19) (oi := ?oi19_100) (v := ?vv19_100) ?hi19_100 (by kernel_rfl) (by kernel_rfl) (by kernel_rfl) ?hQ19_100 ?hy19_100 (by assumption) ?rest19_100; (case hi19_100 => ((simp only [List.getElem?_toArray, List.getElem?_cons_succ, List.getElem?_cons_zero]); rfl)); (case hQ19_100 => exact (fun _ _ _ h => h)); (case hy19_100 => (refine Or.inl ⟨by rfl, ?_⟩; intro w hSw; (try dsimp only at hSw); go_simp; try (with_reducible rfl))); (try simp only [Act.put, List.setIfInBounds_toArray, List.set_cons_zero, List.set_cons_succ]))
                    refine wpAnyH_done (by kernel_rfl) ?_ _
                    clear hHeld hHeld2
                    go_wp2_with fail
                    go_quiet (fail)
                    go_wp2_with fail
                    go_roundw
                    case rel => exact ⟨i + 1, m2, c6, A6, out2, rfl, by go_num, by omega, by omega, HM2, Hst, Ho6, HB6, Hne6, below_drewN' Hb6.out _⟩
                    case measure => simp only [intOf, Int.toNat_natCast]; omega
                  · skip
                    have hpair : Hid ((max s1 t1, min s2 t2) = (s1, s2)) := by
                      show _ = _
                      rw [Prod.mk.injEq]
                      omega
                    rw [hpair.out] at Hst
                    have f1 : (if s1 < t1 then t1 else s1) = s1 := if_neg hmx
                    have f2 : (if t2 < s2 then t2 else s2) = s2 := if_neg hmn2
                    have f3 : ¬ s2 < t2 := hmn
                    clear hmx hmn hmn2
                    have hod : Own wr.drew w.heap.size 40 2 A' m c' (spc out) := Ho.out
                    have Hadd := Lib.hid (sadd_any out s1 s2 m c' w.heap.size A' wr.drew Hm.out hod (by omega) Hb.out.size)
                    have Hbd : Hid (Below w.heap.size w wr.drew) := Hb.out.drew
                    have Hbx : Hid (Blk wr.drew g 40 [.int .i64 s1, .int .i64 s2]) := Hbi.out
                    have hrge := Ho.out.row_ge
                    have Hrge := Lib.hid hrge
                    have hlen2 := addS_len out (s1, s2)
                    rw [Hm.out] at hlen2
                    clear hod hrge Ho Hb Hbi hpair
                    go_wp2_with fail
                    refine wp_region_held_drew (S := fun w' => w'.cell? ⟨g, 0, none⟩ = some (.int .i64 s1) ∧ w'.cell? ⟨g, 1, none⟩ = some (.int .i64 s2) ∧ w'.cell? ⟨bb, ob + i * 2, none⟩ = some (.int .i64 t1) ∧ w'.cell? ⟨bb, ob + i * 2 + 1, none⟩ = some (.int .i64 t2)) (by kernel_rfl) ⟨k0, k1, d0, d1⟩ (fun hHeld => ?_)
                    (refine wpAnyH_take (i := 0) (oi := ?oi0_101) (v := ?vv0_101) ?hi0_101 (by kernel_rfl) (by kernel_rfl) (by kernel_rfl) ?hQ0_101 ?hy0_101 (by assumption) ?rest0_101; (case hi0_101 => ((simp only [List.getElem?_toArray, List.getElem?_cons_succ, List.getElem?_cons_zero]); rfl)); (case hQ0_101 => exact (fun _ _ _ h => h)); (case hy0_101 => (refine Or.inl ⟨by rfl, ?_⟩; intro w hSw; (try dsimp only at hSw); go_simp; try (with_reducible rfl))); (try simp only [Act.put, List.setIfInBounds_toArray, List.set_cons_zero, List.set_cons_succ]))
                    (refine wpAnyH_take (i := 1) (oi := ?oi1_102) (v := ?vv1_102) ?hi1_102 (by kernel_rfl) (by kernel_rfl) (by kernel_rfl) ?hQ1_102 ?hy1_102 (by assumption) ?rest1_102; (case hi1_102 => ((simp only [List.getElem?_toArray, List.getElem?_cons_succ, List.getElem?_cons_zero]); rfl)); (case hQ1_102 => exact (fun _ _ _ h => h)); (case hy1_102 => (refine Or.inl ⟨by rfl, ?_⟩; intro w hSw; (try dsimp only at hSw); go_simp; try (with_reducible rfl))); (try simp only [Act.put, List.setIfInBounds_toArray, List.set_cons_zero, List.set_cons_succ]))
                    (refine wpAnyH_take (i := 2) (oi := ?oi2_103) (v := ?vv2_103) ?hi2_103 (by kernel_rfl) (by kernel_rfl) (by kernel_rfl) ?hQ2_103 ?hy2_103 (by assumption) ?rest2_103; (case hi2_103 => ((simp only [List.getElem?_toArray, List.getElem?_cons_succ, List.getElem?_cons_zero]); rfl)); (case hQ2_103 => exact (fun _ _ _ h => h)); (case hy2_103 => (refine Or.inl ⟨by rfl, ?_⟩; intro w hSw; (try dsimp only at hSw); go_simp; try (with_reducible rfl))); (try simp only [Act.put, List.setIfInBounds_toArray, List.set_cons_zero, List.set_cons_succ]))
                    (refine wpAnyH_take (i := 3) (oi := ?oi3_104) (v := ?vv3_104) ?hi3_104 (by kernel_rfl) (by kernel_rfl) (by kernel_rfl) ?hQ3_104 ?hy3_104 (by assumption) ?rest3_104; (case hi3_104 => ((simp only [List.getElem?_toArray, List.getElem?_cons_succ, List.getElem?_cons_zero]); rfl)); (case hQ3_104 => exact (fun _ _ _ h => h)); (case hy3_104 => (refine Or.inl ⟨by rfl, ?_⟩; intro w hSw; (try dsimp only at hSw); go_simp; try (with_reducible rfl))); (try simp only [Act.put, List.setIfInBounds_toArray, List.set_cons_zero, List.set_cons_succ]))
                    (refine wpAnyH_take (i := 4) (oi := ?oi4_105) (v := ?vv4_105) ?hi4_105 (by kernel_rfl) (by kernel_rfl) (by kernel_rfl) ?hQ4_105 ?hy4_105 (by assumption) ?rest4_105; (case hi4_105 => ((simp only [List.getElem?_toArray, List.getElem?_cons_succ, List.getElem?_cons_zero]); rfl)); (case hQ4_105 => exact (fun _ _ _ h => h)); (case hy4_105 => (refine Or.inl ⟨by rfl, ?_⟩; intro w hSw; (try dsimp only at hSw); go_simp; try (with_reducible rfl))); (try simp only [Act.put, List.setIfInBounds_toArray, List.set_cons_zero, List.set_cons_succ]))
                    (refine wpAnyH_take (i := 5) (oi := ?oi5_106) (v := ?vv5_106) ?hi5_106 (by kernel_rfl) (by kernel_rfl) (by kernel_rfl) ?hQ5_106 ?hy5_106 (by assumption) ?rest5_106; (case hi5_106 => ((simp only [List.getElem?_toArray, List.getElem?_cons_succ, List.getElem?_cons_zero]); rfl)); (case hQ5_106 => exact (fun _ _ _ h => h)); (case hy5_106 => (refine Or.inl ⟨by rfl, ?_⟩; intro w hSw; (try dsimp only at hSw); go_simp; try (with_reducible rfl))); (try simp only [Act.put, List.setIfInBounds_toArray, List.set_cons_zero, List.set_cons_succ]))
                    (refine wpAnyH_take (i := 6) (oi := ?oi6_107) (v := ?vv6_107) ?hi6_107 (by kernel_rfl) (by kernel_rfl) (by kernel_rfl) ?hQ6_107 ?hy6_107 (by assumption) ?rest6_107; (case hi6_107 => ((simp only [List.getElem?_toArray, List.getElem?_cons_succ, List.getElem?_cons_zero]); rfl)); (case hQ6_107 => exact (fun _ _ _ h => h)); (case hy6_107 => (refine Or.inl ⟨by rfl, ?_⟩; intro w hSw; (try dsimp only at hSw); go_simp; try (with_reducible rfl))); (try simp only [Act.put, List.setIfInBounds_toArray, List.set_cons_zero, List.set_cons_succ]))
                    (refine wpAnyH_take (i := 7) (oi := ?oi7_108) (v := ?vv7_108) ?hi7_108 (by kernel_rfl) (by kernel_rfl) (by kernel_rfl) ?hQ7_108 ?hy7_108 (by assumption) ?rest7_108; (case hi7_108 => ((simp only [List.getElem?_toArray, List.getElem?_cons_succ, List.getElem?_cons_zero]); rfl)); (case hQ7_108 => exact (fun _ _ _ h => h)); (case hy7_108 => (refine Or.inl ⟨by rfl, ?_⟩; intro w hSw; (try dsimp only at hSw); go_simp; try (with_reducible rfl))); (try simp only [Act.put, List.setIfInBounds_toArray, List.set_cons_zero, List.set_cons_succ]))
                    (refine wpAnyH_take (i := 8) (oi := ?oi8_109) (v := ?vv8_109) ?hi8_109 (by kernel_rfl) (by kernel_rfl) (by kernel_rfl) ?hQ8_109 ?hy8_109 (by assumption) ?rest8_109; (case hi8_109 => ((simp only [List.getElem?_toArray, List.getElem?_cons_succ, List.getElem?_cons_zero]); rfl)); (case hQ8_109 => exact (fun _ _ _ h => h)); (case hy8_109 => (refine Or.inl ⟨by rfl, ?_⟩; intro w hSw; (try dsimp only at hSw); go_simp; try (with_reducible rfl))); (try simp only [Act.put, List.setIfInBounds_toArray, List.set_cons_zero, List.set_cons_succ]))
                    (refine wpAnyH_take (i := 9) (oi := ?oi9_110) (v := ?vv9_110) ?hi9_110 (by kernel_rfl) (by kernel_rfl) (by kernel_rfl) ?hQ9_110 ?hy9_110 (by assumption) ?rest9_110; (case hi9_110 => ((simp only [List.getElem?_toArray, List.getElem?_cons_succ, List.getElem?_cons_zero]); rfl)); (case hQ9_110 => exact (fun _ _ _ h => h)); (case hy9_110 => (refine Or.inl ⟨by rfl, ?_⟩; intro w hSw; (try dsimp only at hSw); go_simp; try (with_reducible rfl))); (try simp only [Act.put, List.setIfInBounds_toArray, List.set_cons_zero, List.set_cons_succ]))
                    (refine wpAnyH_take (i := 10) (oi := ?oi10_111) (v := ?vv10_111) ?hi10_111 (by kernel_rfl) (by kernel_rfl) (by kernel_rfl) ?hQ10_111 ?hy10_111 (by assumption) ?rest10_111; (case hi10_111 => ((simp only [List.getElem?_toArray, List.getElem?_cons_succ, List.getElem?_cons_zero]); rfl)); (case hQ10_111 => exact (fun _ _ _ h => h)); (case hy10_111 => (refine Or.inl ⟨by rfl, ?_⟩; intro w hSw; (try dsimp only at hSw); go_simp; try (with_reducible rfl))); (try simp only [Act.put, List.setIfInBounds_toArray, List.set_cons_zero, List.set_cons_succ]))
                    (refine wpAnyH_take (i := 11) (oi := ?oi11_112) (v := ?vv11_112) ?hi11_112 (by kernel_rfl) (by kernel_rfl) (by kernel_rfl) ?hQ11_112 ?hy11_112 (by assumption) ?rest11_112; (case hi11_112 => ((simp only [List.getElem?_toArray, List.getElem?_cons_succ, List.getElem?_cons_zero]); rfl)); (case hQ11_112 => exact (fun _ _ _ h => h)); (case hy11_112 => (refine Or.inl ⟨by rfl, ?_⟩; intro w hSw; (try dsimp only at hSw); go_simp; try (with_reducible rfl))); (try simp only [Act.put, List.setIfInBounds_toArray, List.set_cons_zero, List.set_cons_succ]))
                    (refine wpAnyH_take (i := 12) (oi := ?oi12_113) (v := ?vv12_113) ?hi12_113 (by kernel_rfl) (by kernel_rfl) (by kernel_rfl) ?hQ12_113 ?hy12_113 (by assumption) ?rest12_113; (case hi12_113 => ((simp only [List.getElem?_toArray, List.getElem?_cons_succ, List.getElem?_cons_zero]); rfl)); (case hQ12_113 => exact (fun _ _ _ h => h)); (case hy12_113 => (refine Or.inl ⟨by rfl, ?_⟩; intro w hSw; (try dsimp only at hSw); go_simp; try (with_reducible rfl))); (try simp only [Act.put, List.setIfInBounds_toArray, List.set_cons_zero, List.set_cons_succ]))
                    (refine wpAnyH_take (i := 13) (oi := ?oi13_114) (v := ?vv13_114) ?hi13_114 (by kernel_rfl) (by kernel_rfl) (by kernel_rfl) ?hQ13_114 ?hy13_114 (by assumption) ?rest13_114; (case hi13_114 => ((simp only [List.getElem?_toArray, List.getElem?_cons_succ, List.getElem?_cons_zero]); rfl)); (case hQ13_114 => exact (fun _ _ _ h => h)); (case hy13_114 => (refine Or.inl ⟨by rfl, ?_⟩; intro w hSw; (try dsimp only at hSw); go_simp; try (with_reducible rfl))); (try simp only [Act.put, List.setIfInBounds_toArray, List.set_cons_zero, List.set_cons_succ]))
                    (refine wpAnyH_take (i := 14) (oi := ?oi14_115) (v := ?vv14_115) ?hi14_115 (by kernel_rfl) (by kernel_rfl) (by kernel_rfl) ?hQ14_115 ?hy14_115 (by assumption) ?rest14_115; (case hi14_115 => ((simp only [List.getElem?_toArray, List.getElem?_cons_succ, List.getElem?_cons_zero]); rfl)); (case hQ14_115 => exact (fun _ _ _ h => h)); (case hy14_115 => (refine Or.inl ⟨by rfl, ?_⟩; intro w hSw; (try dsimp only at hSw); go_simp; try (with_reducible rfl))); (try simp only [Act.put, List.setIfInBounds_toArray, List.set_cons_zero, List.set_cons_succ]))
                    (refine wpAnyH_take (i := 15) (oi := ?oi15_116) (v := ?vv15_116) ?hi15_116 (by kernel_rfl) (by kernel_rfl) (by kernel_rfl) ?hQ15_116 ?hy15_116 (by assumption) ?rest15_116; (case hi15_116 => ((simp only [List.getElem?_toArray, List.getElem?_cons_succ, List.getElem?_cons_zero]); rfl)); (case hQ15_116 => exact (fun _ _ _ h => h)); (case hy15_116 => (refine Or.inl ⟨by rfl, ?_⟩; intro w hSw; (try dsimp only at hSw); go_simp; try (with_reducible rfl))); (try simp only [Act.put, List.setIfInBounds_toArray, List.set_cons_zero, List.set_cons_succ]))
                    (refine wpAnyH_take (i := 16) (oi := ?oi16_117) (v := ?vv16_117) ?hi16_117 (by kernel_rfl) (by kernel_rfl) (by kernel_rfl) ?hQ16_117 ?hy16_117 (by assumption) ?rest16_117; (case hi16_117 => ((simp only [List.getElem?_toArray, List.getElem?_cons_succ, List.getElem?_cons_zero]); rfl)); (case hQ16_117 => exact (fun _ _ _ h => h)); (case hy16_117 => (refine Or.inl ⟨by rfl, ?_⟩; intro w hSw; (try dsimp only at hSw); go_simp; try (with_reducible rfl))); (try simp only [Act.put, List.setIfInBounds_toArray, List.set_cons_zero, List.set_cons_succ]))
                    (refine wpAnyH_take (i := 17) (oi := ?oi17_118) (v := ?vv17_118) ?hi17_118 (by kernel_rfl) (by kernel_rfl) (by kernel_rfl) ?hQ17_118 ?hy17_118 (by assumption) ?rest17_118; (case hi17_118 => ((simp only [List.getElem?_toArray, List.getElem?_cons_succ, List.getElem?_cons_zero]); rfl)); (case hQ17_118 => exact (fun _ _ _ h => h)); (case hy17_118 => (refine Or.inl ⟨by rfl, ?_⟩; intro w hSw; (try dsimp only at hSw); go_simp; try (with_reducible rfl))); (try simp only [Act.put, List.setIfInBounds_toArray, List.set_cons_zero, List.set_cons_succ]))
                    (refine wpAnyH_ready (rs := [18]) (by kernel_rfl) (by simp) ?_; refine AllReadyH.cons (o := ?oc18_119) ?ho18_119 (fun K hK => ?_) AllReadyH.nil; (case ho18_119 => ((simp only [List.getElem?_toArray, List.getElem?_cons_succ, List.getElem?_cons_zero]); rfl)); go_simp)
                    refine Hadd.out.mono ?_
                    rintro e w6 ⟨A6, c6, rfl, ho6, hg6, hrow6⟩
                    have Hb6 := Lib.hid (Hbd.out.grown hg6 Hbd.out.size Hrge.out)
                    have hB6 := Hbx.out.grown hg6 (fun e => Hne.out g e.symm rfl)
                    have Hne6 : Hid (∀ k, (Value.slice A6 (addS out (s1, s2)).length c6).ownBlock = some k → k ≠ g) := fun k hk => by
                      rcases hrow6 with h | ⟨k', h, h'⟩
                      · rw [h] at hk
                        exact Hne.out k hk
                      · rw [h] at hk
                        cases hk
                        have := Hbx.out.lt
                        omega
                    have x0 := hB6.cell 0
                    have x1 := hB6.cell 1
                    simp only [List.getElem?_cons_zero, List.getElem?_cons_succ] at x0 x1
                    have y0 : w6.cell? ⟨bb, ob + i * 2, none⟩ = some (.int .i64 t1) := by
                      obtain ⟨b3, o3, e3, d3, d4⟩ := (Hrb.out.below Hb6.out).span Hil.out
                      injection e3 with e3
                      injection e3 with e4 e5
                      subst e4
                      subst e5
                      rw [Hte.out] at d3
                      exact d3
                    have y1 : w6.cell? ⟨bb, ob + i * 2 + 1, none⟩ = some (.int .i64 t2) := by
                      obtain ⟨b3, o3, e3, d3, d4⟩ := (Hrb.out.below Hb6.out).span Hil.out
                      injection e3 with e3
                      injection e3 with e4 e5
                      subst e4
                      subst e5
                      rw [Hte.out] at d4
                      exact d4
                    have Ho6 := Lib.hid ho6
                    have HB6 := Lib.hid hB6
                    have Hm6 : Hid ((addS out (s1, s2)).length = (addS out (s1, s2)).length) := rfl
                    generalize addS out (s1, s2) = out2 at *
                    obtain ⟨m2, hm2⟩ : ∃ m2, out2.length = m2 := ⟨_, rfl⟩
                    rw [hm2] at Ho6 Hne6 hlen2 ⊢
                    have HM2 := Lib.hid hm2
                    clear hm2 Hm6 ho6 hg6 hrow6 hB6 Hadd
                    go_wp2_with fail
                    refine hK.out _ _ ⟨x0, x1, y0, y1⟩ (fun hHeld2 => ?_)
                    clear hK
                    (try simp only [Act.put, List.setIfInBounds_toArray, List.set_cons_zero, List.set_cons_succ])
                    (refine wpAnyH_take (i := 19) (oi := ?oi19_120) (v := ?vv19_120) ?hi19_120 (by kernel_rfl) (by kernel_rfl) (by kernel_rfl) ?hQ19_120 ?hy19_120 (by assumption) ?rest19_120; (case hi19_120 => ((simp only [List.getElem?_toArray, List.getElem?_cons_succ, List.getElem?_cons_zero]); rfl)); (case hQ19_120 => exact (fun _ _ _ h => h)); (case hy19_120 => (refine Or.inl ⟨by rfl, ?_⟩; intro w hSw; (try dsimp only at hSw); go_simp; try (with_reducible rfl))); (try simp only [Act.put, List.setIfInBounds_toArray, List.set_cons_zero, List.set_cons_succ]))
                    refine wpAnyH_done (by kernel_rfl) ?_ _
                    clear hHeld hHeld2
                    go_wp2_with fail
                    go_quiet (fail)
                    go_wp2_with fail
                    go_roundw
                    case rel => exact ⟨i + 1, m2, c6, A6, out2, rfl, by go_num, by omega, by omega, HM2, Hst, Ho6, HB6, Hne6, below_drewN' Hb6.out _⟩
                    case measure => simp only [intOf, Int.toNat_natCast]; omega
            · obtain rfl : i = nb := by omega
              have hres : Hid (andS a b = out) := by
                show _ = _
                rw [Hand.out, (show b.drop i = [] from List.drop_eq_nil_of_le (by rw [Hlb.out]; exact Nat.le_refl _)), and_stop]
              go_wp2_with fail
              try rw [Exit.noGoto_ret]
              go_ret2
              refine ⟨.inr ⟨hf.out, A', c', ?_, ?_⟩, Hb.out⟩
              · rw [hres.out, Hm.out]
                rfl
              · rw [hres.out, Hm.out]
                exact Ho.out
        · obtain rfl : j = n := by omega
          have hres : Hid (andS a b = out) := by
            show _ = _
            rw [Hand.out, (show a.drop j = [] from List.drop_eq_nil_of_le (by rw [Hl.out]; exact Nat.le_refl _)), and_end]
          go_wp2_with fail
          try rw [Exit.noGoto_ret]
          go_ret2
          refine ⟨.inr ⟨hf.out, A', c', ?_, ?_⟩, Hb.out⟩
          · rw [hres.out, Hm.out]
            rfl
          · rw [hres.out, Hm.out]
            exact Ho.out
end Go.Proofs.Ytjfpflnijkokaaa
