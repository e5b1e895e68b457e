/- Walks: the examples at the head of every statement hold. -/
import Derived.Test.YtghaffafglfdlaaJoO
import Derived.Test.YtghaffafglfdlaaJoN
namespace Go.Proofs.Ytghaffafglfdlaa
open Go.RowKit

attribute [local go_sem ↓] Go.wp_at_zero Go.wp_at_succ

def numR (n : Int) : RowM := [⟨2, n, []⟩]
theorem numR_ok {n : Int} (h : -9223372036854775808 ≤ n ∧ n ≤ 9223372036854775807) : ∀ v ∈ numR n, v.ok := fun v hv => by
  have : v = ⟨2, n, []⟩ := by simpa [numR] using hv
  subst this
  exact ⟨⟨by show (0 : Int) ≤ 2; decide, by show (2 : Int) ≤ 255; decide⟩, h, by show 0 ≤ _; omega⟩

theorem num_any (n : Int) (w : World) : Calls Try.prog 26 #[.int .i64 n] w fun e w' => ∃ g, e = .returned (.slice (some ⟨g, 0, none⟩) 1 1) ∧ Own w' w.heap.size 30 3 (some ⟨g, 0, none⟩) 1 1 (rcells (numR n)) ∧ Below w.heap.size w w' := by
  have ho : Hid (Own (w.alloc (.cells #[.int .u8 2, .int .i64 n, .string ⟨#[]⟩] 30)) w.heap.size 30 3 (some ⟨w.heap.size, 0, none⟩) 1 1 (rcells (numR n))) := World.ownsRow_lit w #[.int .u8 2, .int .i64 n, .string ⟨#[]⟩] 1 (Nat.le_refl _) (by unfold maxLen; omega) rfl
  go_enter Try.func26, Try.ntmps26
  go_wp2_with fail
  go_ret
  exact ⟨_, rfl, ho.out, by go_grown⟩

/-- Headers of rows that lie where they say. -/
def HdOk (w : World) (h : Value) (r : RowM) : Prop := ∃ A c, h = .slice A r.length c ∧ r.length ≤ c ∧ c ≤ maxLen ∧ Rd w A (rcells r) ∧ ∀ v ∈ r, v.ok
theorem HdOk.below {w w' : World} {h : Value} {r : RowM} (hh : HdOk w h r) (hb : Below w.heap.size w w') : HdOk w' h r := by
  obtain ⟨A, c, h1, h2, h3, h4, h5⟩ := hh
  exact ⟨A, c, h1, h2, h3, h4.below hb, h5⟩
theorem Rows.mk0 (w : World) : Rows w [] [] := Rows.nil w
theorem Rows.cons {w : World} {h : Value} {r : RowM} {hs : List Value} {rs : List RowM} (hh : HdOk w h r) (hr : Rows w hs rs) : Rows w (h :: hs) (r :: rs) :=
  ⟨by rw [List.length_cons, List.length_cons, hr.len], fun i q hi => by
    match i with
    | 0 =>
      obtain ⟨A, c, h1, h2⟩ := hh
      have : r = q := by simpa using hi
      subst this
      exact ⟨A, c, by rw [h1]; rfl, h2⟩
    | i + 1 =>
      obtain ⟨A, c, h1, h2⟩ := hr.at_ i q (by simpa using hi)
      exact ⟨A, c, by simpa using h1, h2⟩⟩
theorem HdOk.num {w : World} {B g : Nat} {n : Int} (h : Own w B 30 3 (some ⟨g, 0, none⟩) 1 1 (rcells (numR n))) (hn : -9223372036854775808 ≤ n ∧ n ≤ 9223372036854775807) : HdOk w (.slice (some ⟨g, 0, none⟩) 1 1) (numR n) :=
  ⟨_, 1, rfl, Nat.le_refl _, by unfold maxLen; omega, h.rd, numR_ok hn⟩

set_option maxRecDepth 100000 in
theorem merge_unsorted (ra : List RowM) (ha : List Value) (n c : Nat) (A : Option Addr) (w : World) (hn : ra.length = n) (hA : Rd w A ha) (hR : Rows w ha ra) (hn1 : n ≤ 1000000) (hs : inOrderB ra 0 = false) :
    Calls Try.prog 24 #[.slice A n c, .slice none 0 0, .int .i64 0, .int .i64 0] w fun e w' => e = .returned (.tuple #[.slice none 0 0, .int .i64 1]) ∧ Below w.heap.size w w' := by
  have hb1 : Below w.heap.size w (w.alloc (.cells #[.int .i64 0, .bool false] 54)) := (Below.refl _ _).alloc (Nat.le_refl _) _
  have hk := Blk.new w 54 #[.int .i64 0, .bool false]
  have hc := osorted_any ra ha n c A w.heap.size 1 0 _ hn (hA.below hb1) (hR.below hb1) hn1 (hk.cell 0) (hk.cell 1)
  rw [hs] at hc
  have Hc := Lib.hid hc
  clear hc hk hs hn hA hR
  go_enter Try.func24, Try.ntmps24
  go_wp2_with fail
  refine Hc.out.mono ?_
  rintro e w3 ⟨rfl, hb3⟩
  go_wp2_with fail
  go_ret2
  exact ⟨rfl, hb1.trans (hb3.mono hb1.size)⟩

theorem sh_unsorted : inOrderB [numR 2, numR 1] 0 = false := inOrderB_false fun h => h 1 (by decide) (by decide) (by unfold downAt; decide)
theorem sh_nested : nested [numR 1, numR 2] [numR 2, numR 2, numR 3] 0 0 = [numR 2 ++ numR 2, numR 2 ++ numR 2] := by decide
theorem sh_nil : nested [[Va.nil]] [[Va.nil]] 0 0 = [] := by decide

theorem nil_nested (w : World) : Calls Try.prog 10 #[.slice (some ⟨w.heap.size + 1, 0, none⟩) 1 1, .slice (some ⟨w.heap.size + 1 + 1 + 1, 0, none⟩) 1 1, .int .i64 0, .int .i64 0]
    ((((w.alloc (.cells #[.int .u8 0, .int .i64 0, .string ⟨#[]⟩] 30)).alloc (.cells #[.slice (some ⟨w.heap.size, 0, none⟩) 1 1] 28)).alloc (.cells #[.int .u8 0, .int .i64 0, .string ⟨#[]⟩] 30)).alloc (.cells #[.slice (some ⟨w.heap.size + 1 + 1, 0, none⟩) 1 1] 28))
    fun e w' => ∃ O oc, e = .returned (.slice O 0 oc) ∧ Below w.heap.size w w' := by
  have hnil : ∀ v ∈ ([Va.nil] : RowM), v.ok := fun v hv => by rw [List.mem_singleton.1 hv]; exact Va.nil_ok
  obtain ⟨WA, hA⟩ : ∃ z, z = w.alloc (.cells #[.int .u8 0, .int .i64 0, .string ⟨#[]⟩] 30) := ⟨_, rfl⟩
  have sA : WA.heap.size = w.heap.size + 1 := by rw [hA, World.size_alloc]
  have bA : Below w.heap.size w WA := by rw [hA]; go_grown
  have rA : Blk WA w.heap.size 30 (rcells [Va.nil]) := by rw [hA]; exact Blk.new w _ _
  rw [← hA]
  obtain ⟨WB, hB⟩ : ∃ z, z = WA.alloc (.cells #[.slice (some ⟨w.heap.size, 0, none⟩) 1 1] 28) := ⟨_, rfl⟩
  have sB : WB.heap.size = w.heap.size + 1 + 1 := by rw [hB, World.size_alloc, sA]
  have bB : Below WA.heap.size WA WB := by rw [hB]; go_grown
  have rB : Blk WB (w.heap.size + 1) 28 [.slice (some ⟨w.heap.size, 0, none⟩) 1 1] := by rw [hB, ← sA]; exact Blk.new WA _ _
  rw [← hB]
  obtain ⟨WC, hC⟩ : ∃ z, z = WB.alloc (.cells #[.int .u8 0, .int .i64 0, .string ⟨#[]⟩] 30) := ⟨_, rfl⟩
  have sC : WC.heap.size = w.heap.size + 1 + 1 + 1 := by rw [hC, World.size_alloc, sB]
  have bC : Below WB.heap.size WB WC := by rw [hC]; go_grown
  have rC : Blk WC (w.heap.size + 1 + 1) 30 (rcells [Va.nil]) := by rw [hC, ← sB]; exact Blk.new WB _ _
  rw [← hC]
  obtain ⟨WD, hD⟩ : ∃ z, z = WC.alloc (.cells #[.slice (some ⟨w.heap.size + 1 + 1, 0, none⟩) 1 1] 28) := ⟨_, rfl⟩
  have bD : Below WC.heap.size WC WD := by rw [hD]; go_grown
  have rD : Blk WD (w.heap.size + 1 + 1 + 1) 28 [.slice (some ⟨w.heap.size + 1 + 1, 0, none⟩) 1 1] := by rw [hD, ← sC]; exact Blk.new WC _ _
  rw [← hD]
  have bBD : Below WB.heap.size WB WD := bC.trans (bD.mono bC.size)
  have bAD : Below WA.heap.size WA WD := bB.trans (bBD.mono bB.size)
  have h1 : HdOk WD (.slice (some ⟨w.heap.size, 0, none⟩) 1 1) [Va.nil] := ⟨_, 1, rfl, Nat.le_refl _, by unfold maxLen; omega, fun _ => ⟨_, _, rfl, (rA.below bAD).range⟩, hnil⟩
  have h2 : HdOk WD (.slice (some ⟨w.heap.size + 1 + 1, 0, none⟩) 1 1) [Va.nil] := ⟨_, 1, rfl, Nat.le_refl _, by unfold maxLen; omega, fun _ => ⟨_, _, rfl, (rC.below bD).range⟩, hnil⟩
  refine (nested_any [[Va.nil]] [[Va.nil]] _ _ 1 1 1 1 (some ⟨w.heap.size + 1, 0, none⟩) (some ⟨w.heap.size + 1 + 1 + 1, 0, none⟩) 0 0 WD rfl rfl (fun _ => ⟨_, _, rfl, (rB.below bBD).range⟩) (fun _ => ⟨_, _, rfl, rD.range⟩) (Rows.cons h1 (Rows.mk0 _)) (Rows.cons h2 (Rows.mk0 _)) (by omega) (by omega) (fun r hr => by rw [List.mem_singleton.1 hr]; simp) (fun r hr => by rw [List.mem_singleton.1 hr]; simp)).mono ?_
  rintro e w' ⟨O, oc, oh, L, rfl, hL, _, _, hb⟩
  rw [sh_nil] at hL
  have hL0 : L = 0 := hL.symm
  subst hL0
  have b0D := bA.trans (bAD.mono bA.size)
  exact ⟨O, oc, rfl, b0D.trans (hb.mono b0D.size)⟩
theorem sm1 {x : RowM} (h : x.length = 1) : x.length ≤ 1000 := by omega
set_option maxHeartbeats 4000000 in
set_option maxRecDepth 100000 in
theorem shown_any (w : World) : Calls Try.prog 7 #[] w fun e w' => e = .returned (.bool true) ∧ Below w.heap.size w w' := by
  go_enter Try.func7, Try.ntmps7
  go_wp2_with fail
  refine (num_any 1 w).mono ?_
  rintro e w1 ⟨g1, rfl, ho1, hb1⟩
  have hh1 := Lib.hid (HdOk.num ho1 (by omega))
  clear ho1
  go_wp2_with fail
  refine (num_any 2 w1).mono ?_
  rintro e w2 ⟨g2, rfl, ho2, hb2⟩
  have hh2 := Lib.hid (HdOk.num ho2 (by omega))
  have hb3 : Below w2.heap.size w2 (w2.alloc (.cells #[.slice (some ⟨g1, 0, none⟩) 1 1, .slice (some ⟨g2, 0, none⟩) 1 1] 28)) := (Below.refl _ _).alloc (Nat.le_refl _) _
  have hl1 := (Blk.new w2 28 #[.slice (some ⟨g1, 0, none⟩) 1 1, .slice (some ⟨g2, 0, none⟩) 1 1]).range
  have hr1 : Hid (Rd (w2.alloc (.cells #[.slice (some ⟨g1, 0, none⟩) 1 1, .slice (some ⟨g2, 0, none⟩) 1 1] 28)) (some ⟨w2.heap.size, 0, none⟩) [.slice (some ⟨g1, 0, none⟩) 1 1, .slice (some ⟨g2, 0, none⟩) 1 1]) := fun _ => ⟨_, _, rfl, hl1⟩
  have hR1 := Lib.hid (Rows.cons ((hh1.out.below hb2).below hb3) (Rows.cons (hh2.out.below hb3) (Rows.mk0 _)))
  have hb03 : Below w.heap.size w (w2.alloc (.cells #[.slice (some ⟨g1, 0, none⟩) 1 1, .slice (some ⟨g2, 0, none⟩) 1 1] 28)) := (hb1.trans (hb2.mono hb1.size)).trans (hb3.mono (hb1.trans (hb2.mono hb1.size)).size)
  have Hb03 := Lib.hid hb03
  clear ho2 hl1 hb1 hb2 hb3 hh1 hh2 hb03
  go_wp2_with fail
  refine (num_any 2 _).mono ?_
  rintro e w4 ⟨g4, rfl, ho4, hb4⟩
  have hh4 := Lib.hid (HdOk.num ho4 (by omega))
  have hr4 := Lib.hid (hr1.out.below hb4)
  have hR4 := Lib.hid (hR1.out.below hb4)
  have Hb04 := Lib.hid (Hb03.out.trans (hb4.mono Hb03.out.size))
  clear ho4 hb4 hr1 hR1 Hb03
  go_wp2_with fail
  refine (num_any 2 w4).mono ?_
  rintro e w5 ⟨g5, rfl, ho5, hb5⟩
  have hh5 := Lib.hid (HdOk.num ho5 (by omega))
  have hh45 := Lib.hid (hh4.out.below hb5)
  have hr5 := Lib.hid (hr4.out.below hb5)
  have hR5 := Lib.hid (hR4.out.below hb5)
  have Hb05 := Lib.hid (Hb04.out.trans (hb5.mono Hb04.out.size))
  clear ho5 hb5 hr4 hR4 hh4 Hb04
  go_wp2_with fail
  refine (num_any 3 w5).mono ?_
  rintro e w6 ⟨g6, rfl, ho6, hb6⟩
  have hh6 := Lib.hid (HdOk.num ho6 (by omega))
  have hb7 : Below w6.heap.size w6 (w6.alloc (.cells #[.slice (some ⟨g4, 0, none⟩) 1 1, .slice (some ⟨g5, 0, none⟩) 1 1, .slice (some ⟨g6, 0, none⟩) 1 1] 28)) := (Below.refl _ _).alloc (Nat.le_refl _) _
  have hl7 := (Blk.new w6 28 #[.slice (some ⟨g4, 0, none⟩) 1 1, .slice (some ⟨g5, 0, none⟩) 1 1, .slice (some ⟨g6, 0, none⟩) 1 1]).range
  have hR7 := Rows.cons ((hh45.out.below hb6).below hb7) (Rows.cons ((hh5.out.below hb6).below hb7) (Rows.cons (hh6.out.below hb7) (Rows.mk0 _)))
  have hn7 := nested_any [numR 1, numR 2] [numR 2, numR 2, numR 3] _ _ 2 2 3 3 (some ⟨_, 0, none⟩) (some ⟨w6.heap.size, 0, none⟩) 0 0 _ rfl rfl ((hr5.out.below hb6).below hb7) (fun _ => ⟨_, _, rfl, hl7⟩) ((hR5.out.below hb6).below hb7) hR7 (by omega) (by omega) (fun r hr => by simp [numR] at hr; rcases hr with rfl | rfl <;> simp) (fun r hr => by simp [numR] at hr; rcases hr with rfl | rfl <;> simp)
  rw [sh_nested] at hn7
  have Hn7 := Lib.hid hn7
  have h06 := Hb05.out.trans (hb6.mono Hb05.out.size)
  have Hb07 := Lib.hid (h06.trans (hb7.mono h06.size))
  clear ho6 hb6 hb7 hl7 hR7 hn7 h06 hh45 hh5 hh6 hr5 hR5 Hb05
  go_wp2_with fail
  refine Hn7.out.mono ?_
  rintro e w8 ⟨O, oc, oh, L, rfl, hL, hO, hOR, hb8⟩
  have hL2 : L = 2 := hL.symm
  subst hL2
  have hO8 := Lib.hid hO.rd
  have hOR8 := Lib.hid hOR.rows
  have Hb08 := Lib.hid (Hb07.out.trans (hb8.mono Hb07.out.size))
  clear hO hOR hb8 hL Hb07 Hn7
  go_wp2_with fail
  refine (num_any 2 w8).mono ?_
  rintro e w9 ⟨g9, rfl, ho9, hb9⟩
  have hh9 := Lib.hid (HdOk.num ho9 (by omega))
  have h89 := Lib.hid hb9
  clear ho9 hb9
  go_wp2_with fail
  refine (num_any 1 w9).mono ?_
  rintro e w10 ⟨g10, rfl, ho10, hb10⟩
  have hh10 := Lib.hid (HdOk.num ho10 (by omega))
  have hb11 : Below w10.heap.size w10 (w10.alloc (.cells #[.slice (some ⟨g9, 0, none⟩) 1 1, .slice (some ⟨g10, 0, none⟩) 1 1] 28)) := (Below.refl _ _).alloc (Nat.le_refl _) _
  have hl11 := (Blk.new w10 28 #[.slice (some ⟨g9, 0, none⟩) 1 1, .slice (some ⟨g10, 0, none⟩) 1 1]).range
  have hmu := Lib.hid (merge_unsorted [numR 2, numR 1] _ 2 2 (some ⟨w10.heap.size, 0, none⟩) _ rfl (fun _ => ⟨_, _, rfl, hl11⟩) (Rows.cons ((hh9.out.below hb10).below hb11) (Rows.cons (hh10.out.below hb11) (Rows.mk0 _))) (by omega) sh_unsorted)
  have h8a := h89.out.trans (hb10.mono h89.out.size)
  have h811 := Lib.hid (h8a.trans (hb11.mono h8a.size))
  clear ho10 hb10 hb11 hl11 h8a h89 hh9 hh10
  go_wp2_with fail
  refine hmu.out.mono ?_
  rintro e w12 ⟨rfl, hb12⟩
  have h812 := Lib.hid (h811.out.trans (hb12.mono h811.out.size))
  clear hb12 h811 hmu
  go_wp2_with fail
  refine (num_any 2 w12).mono ?_
  rintro e w13 ⟨g13, rfl, ho13, hb13⟩
  go_wp2_with fail
  refine (num_any 2 w13).mono ?_
  rintro e w14 ⟨g14, rfl, ho14, hb14⟩
  have h813 := h812.out.trans (hb13.mono h812.out.size)
  have h814 := h813.trans (hb14.mono h813.size)
  have hbase := hb13.trans (hb14.mono hb13.size)
  have ho134 := Own.below ho13 hb14
  have hrd14 := ho14.rd
  go_wp2_with (first | (at_builtin; refine hold ?_) | (at_make; refine hold ?_))
  (with_reducible refine unhold ?_)
  refine wpList_apd rfl _ _ _ rfl Eval w12.heap.size _ 1 _ (rcells (numR 2)) rfl ho134 _ 1 _ (rcells (numR 2)) rfl rfl hrd14 (rcells_one _) 2 rfl (rcells (numR 2 ++ numR 2)) (rcells_append _ _).symm (by omega) (by omega) hbase.size ?_
  intro A15 c15 w15 ho15 hg15 _
  have hb15 : Below w12.heap.size w12 w15 := hbase.grown hg15 hbase.size ho134.row_ge
  have h815 := h812.out.trans (hb15.mono h812.out.size)
  have hcap := ho15.cap
  have hh15 : HdOk w15 (.slice A15 2 c15) (numR 2 ++ numR 2) := ⟨A15, c15, rfl, hcap.1, hcap.2, ho15.rd, fun v hv => by
    rcases List.mem_append.1 hv with hv | hv <;> exact numR_ok (by omega) v hv⟩
  have hb16 : Below w15.heap.size w15 (w15.alloc (.cells #[.slice A15 2 c15, .slice A15 2 c15] 28)) := (Below.refl _ _).alloc (Nat.le_refl _) _
  have hl16 := (Blk.new w15 28 #[.slice A15 2 c15, .slice A15 2 c15]).range
  have h816 := h815.trans (hb16.mono h815.size)
  have hs16 := samerows_any [numR 2 ++ numR 2, numR 2 ++ numR 2] [numR 2 ++ numR 2, numR 2 ++ numR 2] _ _ 2 2 O (some ⟨w15.heap.size, 0, none⟩) oc 2 _ rfl rfl (hO8.out.below h816) (fun _ => ⟨_, _, rfl, hl16⟩) (hOR8.out.below h816) (Rows.cons (hh15.below hb16) (Rows.cons (hh15.below hb16) (Rows.mk0 _))) (by omega) (by omega) (fun r hr => by simp [numR] at hr; subst hr; simp) (fun r hr => by simp [numR] at hr; subst hr; simp)
  rw [decide_eq_true rfl] at hs16
  have Hs16 := Lib.hid hs16
  have H016 := Lib.hid (Hb08.out.trans (h816.mono Hb08.out.size))
  clear ho13 hb13 ho14 hb14 h813 h814 hbase ho134 hrd14 ho15 hg15 hb15 h815 hcap hh15 hb16 hl16 h816 hs16 hO8 hOR8 h812 Hb08
  go_wp2_with fail
  refine Hs16.out.mono ?_
  rintro e w17 ⟨rfl, q, rfl⟩
  have H017 := Lib.hid (below_drewN' H016.out q)
  obtain ⟨w17, hw17⟩ : ∃ z, z = (w15.alloc (.cells #[.slice A15 2 c15, .slice A15 2 c15] 28)).drewN q := ⟨_, rfl⟩
  rw [← hw17] at H017 ⊢
  clear hw17 Hs16 H016
  have hz := Lib.hid (nil_nested w17)
  go_wp2_with fail
  refine hz.out.mono ?_
  rintro e w18 ⟨O2, oc2, rfl, hb18⟩
  go_wp2_with fail
  go_ret
  exact ⟨rfl, H017.out.trans (hb18.mono H017.out.size)⟩
end Go.Proofs.Ytghaffafglfdlaa
