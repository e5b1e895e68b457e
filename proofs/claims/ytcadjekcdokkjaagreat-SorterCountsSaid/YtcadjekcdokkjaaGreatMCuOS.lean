/- The walk of cell.Take, on: a slice that has room for one byte alone. The walk of spill.take. -/
import Derived.Test.YtcadjekcdokkjaaGreatMCuV
import Derived.Test.YtcadjekcdokkjaaGreatMSpSMH
import Derived.Test.YtcadjekcdokkjaaGreatMJoXY
namespace Go.Proofs.YtcadjekcdokkjaaGreat
set_option linter.unusedVariables false
set_option linter.unusedSimpArgs false
open Go.RowKit
attribute [local go_sem ↓] Go.wp_at_zero Go.wp_at_succ
set_option maxHeartbeats 8000000 in
set_option maxRecDepth 100000 in
theorem ctake_one (k : UInt8) (t : List UInt8) (n c : Nat) (A : Option Addr) (w : World) (hl : t.length + 1 = n) (hr : Rd w A (Bs (k :: t))) (hn : n ≤ 1000000) (hnc : n ≤ c) (hc : c ≤ 9223372036854775807) (hc1 : c = 1) : Calls Tryz.prog 136 #[.slice A n c] w fun e w' => TakeOK (k :: t) w e w' := by
 have hk8 := k.toNat_lt
 obtain ⟨b, o, rfl, hbl, hrr, c0⟩ := hr.get (k := 0) (by simp)
 simp only [List.map_cons, List.getElem_cons_zero, Nat.add_zero, B] at c0
 have hnew : Hid (∀ (q : Option Addr) (w' : World), Below w.heap.size w w' → (if c = 1 then q = some ⟨b, o, none⟩ else q = some ⟨b, o + 1, none⟩) → Calls Tryz.prog 132 #[.slice q (n - 1) (c - 1)] w' fun e w'' => ∃ p, e = .returned (.pointer (some ⟨p, 0, none⟩)) ∧ Rdr w'' p t false ∧ w'.heap.size ≤ p ∧ Below w'.heap.size w' w'') := fun q w' hb hq => by
  refine rdr_new t (n - 1) (c - 1) q w' (by omega) ?_ (by omega)
  have : t = [] := List.eq_nil_of_length_eq_zero (by omega)
  subst this
  exact Rd.nil _ _
 have hbA : Below w.heap.size w (w.alloc (.cells #[.int .u8 0, .int .i64 0, .string ⟨#[]⟩] 38)) := (Below.refl _ _).alloc (Nat.le_refl _) _
 have hgA := Blk.new w 38 #[.int .u8 0, .int .i64 0, .string ⟨#[]⟩]
 have hnp : 0 < n := by omega
 have hk0 : 0 ≤ (k.toNat : Int) := by omega
 have htl : Hid ((k :: t).length = n) := by show _ = _; rw [List.length_cons]; exact hl
 obtain rfl : n = 1 := by omega
 obtain rfl : t = [] := List.eq_nil_of_length_eq_zero (by omega)
 subst hc1
 have hN := Lib.hid (hnew.out (some ⟨b, o, none⟩) _ hbA (by rw [if_pos rfl]))
 clear hnew
 go_enter Tryz.func136, Tryz.ntmps136
 go_wp2_with fail
 refine hN.out.mono ?_
 rintro e wN ⟨p, rfl, hrd, hpz, hbN⟩
 have hpw : w.heap.size < p := by have := hpz; simp at this; omega
 have hplt : p < wN.heap.size := by obtain ⟨_, _, _, h, _⟩ := hrd; exact h.lt
 have hgN := hgA.below hbN
 have hbwN := hbA.trans (hbN.mono hbA.size)
 have c0N := cell_keep hbwN c0
 have hzN := hbwN.size
 have Hr := Lib.hid hr
 obtain ⟨K, hK⟩ : ∃ K : Nat, k.toNat = K := ⟨_, rfl⟩
 rw [hK] at c0N
 have HK := Lib.hid hK
 clear hK hbN hN hr hrr c0
 by_cases h1 : K = 1
 ·subst h1
  have hk1 : k = 1 ∨ k = 2 := .inl (UInt8.toNat_inj.1 HK.out)
  have hbV : Below wN.heap.size wN (wN.alloc (.cells #[.int .u8 1, .int .i64 0, .string ⟨#[]⟩] 38)) := (Below.refl _ _).alloc (Nat.le_refl _) _
  have hg1 := Blk.new wN 38 #[.int .u8 1, .int .i64 0, .string ⟨#[]⟩]
  have hrV := hrd.below hbV
  have hI := Lib.hid (rdr_int p [] false _ hrV)
  have hgV := hgN.below hbV
  have hbwV := hbwN.trans (hbV.mono hzN)
  have hzV := hbwV.size
  have hsV : (wN.alloc (.cells #[.int .u8 1, .int .i64 0, .string ⟨#[]⟩] 38)).heap.size = wN.heap.size + 1 := by simp
  clear hrd hbV
  go_wp2_with fail
  refine hI.out.mono ?_
  rintro e w2 ⟨⟨htn, rfl, hbad⟩ | ⟨m, u, htn, rfl, hr2⟩, hk2⟩
  ·have HT : Hid (takeVal [k] = none) := takeVal_no (body_num_no hk1 htn)
   have hg12 := hg1.keeps (by decide) hk2
   have hg02 := hgV.keeps (by decide) hk2
   have hne : w.heap.size ≠ wN.heap.size := by have := hgN.lt; omega
   have x1 := hg12.cell 1
   have x1f := hg12.frozen 1
   simp only [List.getElem?_cons_zero, List.getElem?_cons_succ] at x1
   have HG0 := Lib.hid (hg02.far (p := ⟨wN.heap.size, 1, none⟩) hne (.int .i64 0))
   have HB := Lib.hid (Blk.far hbad (p := ⟨wN.heap.size, 1, none⟩) (fun e => hbad.ne_of_type hg12 (by decide) e) (.int .i64 0))
   have HBw := Lib.hid ((hbwV.trans ((hk2.below (by omega)).mono (by omega))).setCell (p := ⟨wN.heap.size, 1, none⟩) hzN (.int .i64 0))
   clear htn hbad hk2 hg1 hgV hg12 hg02 hrV hI
   go_wp2_with fail
   obtain ⟨W, hW⟩ : ∃ x, x = w2.setCell ⟨wN.heap.size, 1, none⟩ (.int .i64 0) := ⟨_, rfl⟩
   rw [← hW] at HG0 HB HBw ⊢
   clear hW x1 x1f
   have hbd := Lib.hid (rdr_bad p [] true W (RdrBad.rdr HB.out))
   have z0 := HG0.out.cell 0
   have z1 := HG0.out.cell 1
   have z2 := HG0.out.cell 2
   have y0 := HG0.out.frozen 0
   have y1 := HG0.out.frozen 1
   have y2 := HG0.out.frozen 2
   simp only [List.getElem?_cons_zero, List.getElem?_cons_succ] at z0 z1 z2
   go_wp2_with fail
   refine hbd.out.mono ?_
   rintro e w' ⟨rfl, rfl⟩
   go_wp2_with fail
   have q0 := (HG0.out.set_ 0 (.int .u8 0)).cell 0
   have q1 := ((HG0.out.set_ 0 (.int .u8 0)).set_ 1 (.int .i64 0)).cell 1
   have q2 := (((HG0.out.set_ 0 (.int .u8 0)).set_ 1 (.int .i64 0)).set_ 2 (.string ⟨#[]⟩)).cell 2
   simp only [List.set_cons_zero, List.set_cons_succ, List.getElem?_cons_zero, List.getElem?_cons_succ] at q0 q1 q2
   refine bodyPost_ret (by simp [results, Tryz.results136, go_sem, q0, q1, q2]; try rfl) rfl ?_
   exact ⟨.inl ⟨HT.out, rfl⟩, ((HBw.out.setCell (p := ⟨w.heap.size, 0, none⟩) (Nat.le_refl _) _).setCell (p := ⟨w.heap.size, 1, none⟩) (Nat.le_refl _) _).setCell (p := ⟨w.heap.size, 2, none⟩) (Nat.le_refl _) _⟩
  ·cases htn
 ·by_cases h2 : K = 2
  ·subst h2
   have hk1 : k = 1 ∨ k = 2 := .inr (UInt8.toNat_inj.1 HK.out)
   have hbV : Below wN.heap.size wN (wN.alloc (.cells #[.int .u8 2, .int .i64 0, .string ⟨#[]⟩] 38)) := (Below.refl _ _).alloc (Nat.le_refl _) _
   have hg1 := Blk.new wN 38 #[.int .u8 2, .int .i64 0, .string ⟨#[]⟩]
   have hrV := hrd.below hbV
   have hI := Lib.hid (rdr_int p [] false _ hrV)
   have hgV := hgN.below hbV
   have hbwV := hbwN.trans (hbV.mono hzN)
   have hzV := hbwV.size
   have hsV : (wN.alloc (.cells #[.int .u8 2, .int .i64 0, .string ⟨#[]⟩] 38)).heap.size = wN.heap.size + 1 := by simp
   clear hrd hbV
   go_wp2_with fail
   refine hI.out.mono ?_
   rintro e w2 ⟨⟨htn, rfl, hbad⟩ | ⟨m, u, htn, rfl, hr2⟩, hk2⟩
   ·have HT : Hid (takeVal [k] = none) := takeVal_no (body_num_no hk1 htn)
    have hg12 := hg1.keeps (by decide) hk2
    have hg02 := hgV.keeps (by decide) hk2
    have hne : w.heap.size ≠ wN.heap.size := by have := hgN.lt; omega
    have x1 := hg12.cell 1
    have x1f := hg12.frozen 1
    simp only [List.getElem?_cons_zero, List.getElem?_cons_succ] at x1
    have HG0 := Lib.hid (hg02.far (p := ⟨wN.heap.size, 1, none⟩) hne (.int .i64 0))
    have HB := Lib.hid (Blk.far hbad (p := ⟨wN.heap.size, 1, none⟩) (fun e => hbad.ne_of_type hg12 (by decide) e) (.int .i64 0))
    have HBw := Lib.hid ((hbwV.trans ((hk2.below (by omega)).mono (by omega))).setCell (p := ⟨wN.heap.size, 1, none⟩) hzN (.int .i64 0))
    clear htn hbad hk2 hg1 hgV hg12 hg02 hrV hI
    go_wp2_with fail
    obtain ⟨W, hW⟩ : ∃ x, x = w2.setCell ⟨wN.heap.size, 1, none⟩ (.int .i64 0) := ⟨_, rfl⟩
    rw [← hW] at HG0 HB HBw ⊢
    clear hW x1 x1f
    have hbd := Lib.hid (rdr_bad p [] true W (RdrBad.rdr HB.out))
    have z0 := HG0.out.cell 0
    have z1 := HG0.out.cell 1
    have z2 := HG0.out.cell 2
    have y0 := HG0.out.frozen 0
    have y1 := HG0.out.frozen 1
    have y2 := HG0.out.frozen 2
    simp only [List.getElem?_cons_zero, List.getElem?_cons_succ] at z0 z1 z2
    go_wp2_with fail
    refine hbd.out.mono ?_
    rintro e w' ⟨rfl, rfl⟩
    go_wp2_with fail
    have q0 := (HG0.out.set_ 0 (.int .u8 0)).cell 0
    have q1 := ((HG0.out.set_ 0 (.int .u8 0)).set_ 1 (.int .i64 0)).cell 1
    have q2 := (((HG0.out.set_ 0 (.int .u8 0)).set_ 1 (.int .i64 0)).set_ 2 (.string ⟨#[]⟩)).cell 2
    simp only [List.set_cons_zero, List.set_cons_succ, List.getElem?_cons_zero, List.getElem?_cons_succ] at q0 q1 q2
    refine bodyPost_ret (by simp [results, Tryz.results136, go_sem, q0, q1, q2]; try rfl) rfl ?_
    exact ⟨.inl ⟨HT.out, rfl⟩, ((HBw.out.setCell (p := ⟨w.heap.size, 0, none⟩) (Nat.le_refl _) _).setCell (p := ⟨w.heap.size, 1, none⟩) (Nat.le_refl _) _).setCell (p := ⟨w.heap.size, 2, none⟩) (Nat.le_refl _) _⟩
   ·cases htn
  ·by_cases h3 : K = 3
   ·subst h3
    have hk1 : k = 3 := UInt8.toNat_inj.1 HK.out
    have hbV : Below wN.heap.size wN (wN.alloc (.cells #[.int .u8 3, .int .i64 0, .string ⟨#[]⟩] 38)) := (Below.refl _ _).alloc (Nat.le_refl _) _
    have hg1 := Blk.new wN 38 #[.int .u8 3, .int .i64 0, .string ⟨#[]⟩]
    have hrV := hrd.below hbV
    have hI := Lib.hid (rdr_text p [] false _ hrV)
    have hgV := hgN.below hbV
    have hbwV := hbwN.trans (hbV.mono hzN)
    have hzV := hbwV.size
    have hsV : (wN.alloc (.cells #[.int .u8 3, .int .i64 0, .string ⟨#[]⟩] 38)).heap.size = wN.heap.size + 1 := by simp
    clear hrd hbV
    go_wp2_with fail
    refine hI.out.mono ?_
    rintro e w2 ⟨⟨htn, rfl, hbad⟩ | ⟨m, u, htn, rfl, hr2⟩, hk2⟩
    ·have HT : Hid (takeVal [k] = none) := takeVal_no (body_txt_no hk1 htn)
     have hg12 := hg1.keeps (by decide) hk2
     have hg02 := hgV.keeps (by decide) hk2
     have hne : w.heap.size ≠ wN.heap.size := by have := hgN.lt; omega
     have x1 := hg12.cell 2
     have x1f := hg12.frozen 2
     simp only [List.getElem?_cons_zero, List.getElem?_cons_succ] at x1
     have HG0 := Lib.hid (hg02.far (p := ⟨wN.heap.size, 2, none⟩) hne (.string (St8 [])))
     have HB := Lib.hid (Blk.far hbad (p := ⟨wN.heap.size, 2, none⟩) (fun e => hbad.ne_of_type hg12 (by decide) e) (.string (St8 [])))
     have HBw := Lib.hid ((hbwV.trans ((hk2.below (by omega)).mono (by omega))).setCell (p := ⟨wN.heap.size, 2, none⟩) hzN (.string (St8 [])))
     clear htn hbad hk2 hg1 hgV hg12 hg02 hrV hI
     go_wp2_with fail
     obtain ⟨W, hW⟩ : ∃ x, x = w2.setCell ⟨wN.heap.size, 2, none⟩ (.string (St8 [])) := ⟨_, rfl⟩
     rw [← hW] at HG0 HB HBw ⊢
     clear hW x1 x1f
     have hbd := Lib.hid (rdr_bad p [] true W (RdrBad.rdr HB.out))
     have z0 := HG0.out.cell 0
     have z1 := HG0.out.cell 1
     have z2 := HG0.out.cell 2
     have y0 := HG0.out.frozen 0
     have y1 := HG0.out.frozen 1
     have y2 := HG0.out.frozen 2
     simp only [List.getElem?_cons_zero, List.getElem?_cons_succ] at z0 z1 z2
     go_wp2_with fail
     refine hbd.out.mono ?_
     rintro e w' ⟨rfl, rfl⟩
     go_wp2_with fail
     have q0 := (HG0.out.set_ 0 (.int .u8 0)).cell 0
     have q1 := ((HG0.out.set_ 0 (.int .u8 0)).set_ 1 (.int .i64 0)).cell 1
     have q2 := (((HG0.out.set_ 0 (.int .u8 0)).set_ 1 (.int .i64 0)).set_ 2 (.string ⟨#[]⟩)).cell 2
     simp only [List.set_cons_zero, List.set_cons_succ, List.getElem?_cons_zero, List.getElem?_cons_succ] at q0 q1 q2
     refine bodyPost_ret (by simp [results, Tryz.results136, go_sem, q0, q1, q2]; try rfl) rfl ?_
     exact ⟨.inl ⟨HT.out, rfl⟩, ((HBw.out.setCell (p := ⟨w.heap.size, 0, none⟩) (Nat.le_refl _) _).setCell (p := ⟨w.heap.size, 1, none⟩) (Nat.le_refl _) _).setCell (p := ⟨w.heap.size, 2, none⟩) (Nat.le_refl _) _⟩
    ·cases htn
   ·skip
    have hbV : Below wN.heap.size wN (wN.alloc (.cells #[.int .u8 (K : Int), .int .i64 0, .string ⟨#[]⟩] 38)) := (Below.refl _ _).alloc (Nat.le_refl _) _
    have hg1 := Blk.new wN 38 #[.int .u8 (K : Int), .int .i64 0, .string ⟨#[]⟩]
    have HTB := Lib.hid (body_else (k := k) (t := []) (fun e => by rcases e with e | e <;> (subst e; first | exact h1 HK.out.symm | exact h2 HK.out.symm)) (fun e => by subst e; exact h3 HK.out.symm))
    have Hsuf : Hid (∃ kk, [] = [k].drop kk ∧ kk ≤ [k].length) := ⟨1, rfl, by simp⟩
    have hne : w.heap.size ≠ wN.heap.size := by have := hgN.lt; omega
    have HR := Lib.hid (hrd.below hbV)
    have HG0 := Lib.hid (hgN.below hbV)
    have HG1 := Lib.hid hg1
    have HBw := Lib.hid (hbwN.trans (hbV.mono hzN))
    have g1 : ((K : Int) == 1) = false := by rw [beq_eq_false_iff_ne]; omega
    have g2 : ((K : Int) == 2) = false := by rw [beq_eq_false_iff_ne]; omega
    have g3 : ((K : Int) == 3) = false := by rw [beq_eq_false_iff_ne]; omega
    obtain ⟨W, hW⟩ : ∃ x, x = wN.alloc (.cells #[.int .u8 (K : Int), .int .i64 0, .string ⟨#[]⟩] 38) := ⟨_, rfl⟩
    rw [← hW] at HG0 HG1 HR HBw
    clear hrd hbV hg1
    go_wp2_with fail
    rw [← hW]
    clear hW g1 g2 g3
    obtain ⟨u, hu⟩ : ∃ x, x = ([] : List UInt8) := ⟨_, rfl⟩
    have HR : Hid (Rdr W p u false) := by rw [hu]; exact HR.out
    have HTB : Hid (takeBody k [] = some (0, [], u)) := by rw [hu]; exact HTB.out
    have Hsuf : Hid (∃ kk, u = [k].drop kk ∧ kk ≤ [k].length) := by rw [hu]; exact Hsuf.out
    have Hu := Lib.hid hu
    have hK255 : K ≤ 255 := by have := HK.out; omega
    clear hu
    have hbd := Lib.hid (rdr_bad p u false W HR.out)
    have hri := cright_any ⟨(k.toNat : Int), 0, []⟩ W
    have hk1' : (k.toNat : Int) = (K : Int) := by rw [HK.out] <;> rfl
    have hk1'' := Lib.hid hk1'
    generalize hRr : rightV ⟨(k.toNat : Int), 0, []⟩ = R at hri
    have HRr := Lib.hid hRr
    unfold Va.agg at hri
    dsimp only at hri
    rw [hk1'] at hri
    have Hri : Hid (Calls Tryz.prog 113 #[.agg #[.int .u8 (K : Int), .int .i64 0, .string (⟨#[]⟩)]] W fun e w' => e = .returned (.bool R) ∧ Below W.heap.size W w') := hri
    have x0 := HG1.out.cell 0
    have x1 := HG1.out.cell 1
    have x2 := HG1.out.cell 2
    simp only [List.getElem?_cons_zero, List.getElem?_cons_succ] at x0 x1 x2
    clear hRr hri hk1'
    go_wp2_with fail
    refine hbd.out.mono ?_
    rintro e w' ⟨rfl, rfl⟩
    go_wp2_with fail
    refine Hri.out.mono ?_
    rintro e W2 ⟨rfl, hb2⟩
    have HB2 := Lib.hid (HBw.out.trans (hb2.mono HBw.out.size))
    have HG02 := Lib.hid (HG0.out.below hb2)
    have HG12 := Lib.hid (HG1.out.below hb2)
    have HR2 := Lib.hid (HR.out.below hb2)
    have z0 := HG02.out.cell 0
    have z1 := HG02.out.cell 1
    have z2 := HG02.out.cell 2
    have y0 := HG02.out.frozen 0
    have y1 := HG02.out.frozen 1
    have y2 := HG02.out.frozen 2
    simp only [List.getElem?_cons_zero, List.getElem?_cons_succ] at z0 z1 z2
    clear hb2 HG0 HG1 HR HBw hbd Hri x0 x1 x2
    cases R with
    | false =>
     go_wp2_with fail
     have q0 := (HG02.out.set_ 0 (.int .u8 0)).cell 0
     have q1 := ((HG02.out.set_ 0 (.int .u8 0)).set_ 1 (.int .i64 0)).cell 1
     have q2 := (((HG02.out.set_ 0 (.int .u8 0)).set_ 1 (.int .i64 0)).set_ 2 (.string ⟨#[]⟩)).cell 2
     simp only [List.set_cons_zero, List.set_cons_succ, List.getElem?_cons_zero, List.getElem?_cons_succ] at q0 q1 q2
     refine bodyPost_ret (by simp [results, Tryz.results136, go_sem, q0, q1, q2]; try rfl) rfl ?_
     exact ⟨.inl ⟨takeVal_bad HTB.out HRr.out, rfl⟩, ((HB2.out.setCell (p := ⟨w.heap.size, 0, none⟩) (Nat.le_refl _) _).setCell (p := ⟨w.heap.size, 1, none⟩) (Nat.le_refl _) _).setCell (p := ⟨w.heap.size, 2, none⟩) (Nat.le_refl _) _⟩
    | true =>
     have x0 := HG12.out.cell 0
     have x1 := HG12.out.cell 1
     have x2 := HG12.out.cell 2
     simp only [List.getElem?_cons_zero, List.getElem?_cons_succ] at x0 x1 x2
     have hul : u.length ≤ 1 := by
      obtain ⟨kk, hu, hkk⟩ := Hsuf.out
      have := htl.out
      rw [hu, List.length_drop]
      omega
     obtain ⟨d, hd⟩ : ∃ d, 1 = d + u.length := ⟨1 - u.length, by omega⟩
     have hdr : Hid ([k].drop d = u) := by
      obtain ⟨kk, hu, hkk⟩ := Hsuf.out
      have := drop_len hu hkk
      rw [htl.out, show 1 - u.length = d from by omega] at this
      exact this
     have hrd2 : Hid (Rd W2 (some ⟨b, o + d, none⟩) (Bs u)) := by
      show Rd _ _ _
      intro hne
      obtain ⟨b', o', e, hrg⟩ := (Hr.out.below HB2.out) (by simp)
      injection e with e
      injection e with e1 e2
      subst e1; subst e2
      have h3 := Rd.part hrg d u.length
      rw [← List.map_drop, hdr.out, List.take_of_length_le (by simp)] at h3
      exact ⟨b, o + d, rfl, h3⟩
     have hlf := Lib.hid (rdr_left p u false _ (HR2.out.below (Below.refl _ _).drew))
     generalize hUL : u.length = ul at *
     have HUL := Lib.hid hUL
     have hdI : (1 : Int) - (ul : Int) = (d : Int) := by omega
     have hw : IntKind.i64.wrap (d : Int) = (d : Int) := by rw [IntKind.wrap_i64]; omega
     have Hd := Lib.hid hd
     have hdn : d ≤ 1 := by omega
     clear hUL hul hd z0 z1 z2 y0 y1 y2
     have k0 := HG12.out.cell 0
     by_cases hdc : d = 1
     ·have hul0 : ul = 0 := by have := Hd.out; omega
      have hnc3 : 1 = 1 := by have := Hd.out; omega
      subst hul0
      subst hdc
      try subst hnc3
      have hw1 : IntKind.i64.wrap (1 : Int) = 1 := by decide
      have hw2 : IntKind.i64.wrap ((1 : Int) - 0) = 1 := by decide
      have hrd3 : Rd W2 (some ⟨b, o, none⟩) (Bs u) := by
       have : u = [] := List.eq_nil_of_length_eq_zero HUL.out
       rw [this]
       exact Rd.nil _ _
      go_wp2_with fail
      go_region_held3 (fun w' => w'.cell? ⟨wN.heap.size, 0, none⟩ = some (.int .u8 (K : Int)) ∧ w'.cell? ⟨wN.heap.size, 1, none⟩ = some (.int .i64 0) ∧ w'.cell? ⟨wN.heap.size, 2, none⟩ = some (.string (⟨#[]⟩)))
       (first | exact ⟨x0, x1, x2⟩ | exact ⟨v0, v1, v2⟩ | exact ⟨t0, t1, t2⟩)
       (first | (go_at_call 135; refine hlf.out.mono ?_; rintro e w' ⟨rfl, rfl⟩)
              | (refine step_apd rfl (.const (.slice none 0 0)) (.tmp 46) 36 rfl E8 w.heap.size none 0 0 [] rfl (Own.nil _ w.heap.size 5 1) (some ⟨b, o, none⟩) (0) (0) (Bs u) (by simp [Act.eval, Act.put]) (by rw [List.length_map, HUL.out] <;> (have := Hd.out; omega)) (by exact hrd3) (Bs_one u) 0 (by have := Hd.out; omega) (Bs u) rfl (by omega) (by omega) (by exact HB2.out.size) ?_; intro A6 c6 w6 ho6 hg6 _; have hb6' : Below W2.heap.size W2.drew w6 := (Below.refl _ _).grown hg6 (Nat.le_refl _) (fun k hk => by simp [Value.ownBlock] at hk); have hb6 : Below W2.heap.size W2 w6 := ⟨hb6'.os, hb6'.tape, hb6'.output, hb6'.size, hb6'.block⟩; have hG6 := HG02.out.below hb6; have z0 := hG6.cell 0; have z1 := hG6.cell 1; have z2 := hG6.cell 2; have y0 := hG6.frozen 0; have y1 := hG6.frozen 1; have y2 := hG6.frozen 2; have hV6 := HG12.out.below hb6; have v0 := hV6.cell 0; have v1 := hV6.cell 1; have v2 := hV6.cell 2; have hT6 := ((hV6.far (p := ⟨w.heap.size, 0, none⟩) (Ne.symm hne) (.int .u8 (K : Int))).far (p := ⟨w.heap.size, 1, none⟩) (Ne.symm hne) (.int .i64 0)).far (p := ⟨w.heap.size, 2, none⟩) (Ne.symm hne) (.string (⟨#[]⟩)); have t0 := hT6.cell 0; have t1 := hT6.cell 1; have t2 := hT6.cell 2; simp only [List.getElem?_cons_zero, List.getElem?_cons_succ] at z0 z1 z2 v0 v1 v2 t0 t1 t2))
      have q0 := (hG6.set_ 0 (.int .u8 (K : Int))).cell 0
      have q1 := ((hG6.set_ 0 (.int .u8 (K : Int))).set_ 1 (.int .i64 0)).cell 1
      have q2 := (((hG6.set_ 0 (.int .u8 (K : Int))).set_ 1 (.int .i64 0)).set_ 2 (.string (⟨#[]⟩))).cell 2
      simp only [List.set_cons_zero, List.set_cons_succ, List.getElem?_cons_zero, List.getElem?_cons_succ] at q0 q1 q2
      have hkF : Keeps [38] 0 w6 (((w6.setCell ⟨w.heap.size, 0, none⟩ (.int .u8 (K : Int))).setCell ⟨w.heap.size, 1, none⟩ (.int .i64 0)).setCell ⟨w.heap.size, 2, none⟩ (.string (⟨#[]⟩))) := (((Keeps.refl _ _ _).setCell hG6 (by simp) (Nat.zero_le _) _).setCell (hG6.set_ 0 _) (by simp) (Nat.zero_le _) _).setCell ((hG6.set_ 0 _).set_ 1 _) (by simp) (Nat.zero_le _) _
      have HOF := Lib.hid (Own.keeps ho6 (by decide) hkF)
      have HBF := Lib.hid ((((HB2.out.trans (hb6.mono HB2.out.size)).setCell (p := ⟨w.heap.size, 0, none⟩) (Nat.le_refl _) (.int .u8 (K : Int))).setCell (p := ⟨w.heap.size, 1, none⟩) (Nat.le_refl _) (.int .i64 0)).setCell (p := ⟨w.heap.size, 2, none⟩) (Nat.le_refl _) (.string (⟨#[]⟩)))
      clear hG6 hV6 hT6 v0 v1 v2 t0 t1 t2 hkF ho6 hb6 hb6'
      go_wp2_with fail
      refine bodyPost_ret (by simp [results, Tryz.results136, go_sem, q0, q1, q2]; try rfl) rfl ?_
      have hVk := takeVal_of HTB.out HRr.out
      rw [hk1''.out] at hVk
      refine ⟨.inr ⟨_, u, A6, c6, hVk, ⟨by constructor <;> simp <;> omega, ⟨by first | exact hub.1 | (show (-9223372036854775808 : Int) ≤ 0; decide), by first | exact hub.2 | (show (0 : Int) ≤ 9223372036854775807; decide)⟩, by first | exact Nat.le_trans hsl (by decide) | (show 0 ≤ _; omega)⟩, by rw [HUL.out]; rfl, by rw [HUL.out]; exact HOF.out⟩, HBF.out⟩
     ·exfalso
      have h9 := HUL.out
      rw [Hu.out] at h9
      have := Hd.out
      simp at h9
      omega
theorem ctake_cons (k : UInt8) (t : List UInt8) (n c : Nat) (A : Option Addr) (w : World) (hl : t.length + 1 = n) (hr : Rd w A (Bs (k :: t))) (hn : n ≤ 1000000) (hnc : n ≤ c) (hc : c ≤ 9223372036854775807) : Calls Tryz.prog 136 #[.slice A n c] w fun e w' => TakeOK (k :: t) w e w' := by
 by_cases hc1 : c = 1
 ·exact ctake_one k t n c A w hl hr hn hnc hc hc1
 ·exact ctake_more k t n c A w hl hr hn hnc hc hc1
end Go.Proofs.YtcadjekcdokkjaaGreat
namespace Go.Proofs.YtcadjekcdokkjaaGreat
set_option linter.unusedVariables false
set_option linter.unusedSimpArgs false
open Go.RowKit
attribute [local go_sem ↓] Go.wp_at_zero Go.wp_at_succ
theorem ctake_any (l : List UInt8) (n c : Nat) (A : Option Addr) (w : World) (hl : l.length = n) (hr : Rd w A (Bs l)) (hn : n ≤ 1000000) (hnc : n ≤ c) (hc : c ≤ 9223372036854775807) : Calls Tryz.prog 136 #[.slice A n c] w fun e w' => TakeOK l w e w' := by
 cases l with
 | nil => exact ctake_nil n c A w hl.symm
 | cons k t => exact ctake_cons k t n c A w (by rw [← hl, List.length_cons]) hr hn hnc hc
def RowOK (l : List UInt8) (A : Option Addr) (w : World) (e : Ending) (w' : World) : Prop :=
 ((takeRow l = none ∧ e = .returned (.tuple #[.slice none 0 0, .slice none 0 0, .bool false])) ∨
  ∃ r u R rc A' c', takeRow l = some (r, u) ∧ (∀ v ∈ r, v.ok) ∧ e = .returned (.tuple #[.slice R r.length rc, .slice A' u.length c', .bool true]) ∧ Own w' w.heap.size 38 3 R r.length rc (rcells r) ∧ R.isSome = true ∧
   OwnX w' 0 5 A' u.length c' (Bs u) ∧ ∀ b o, A' = some ⟨b, o, none⟩ → (∃ o', A = some ⟨b, o', none⟩) ∨ w.heap.size ≤ b) ∧ Below w.heap.size w w'
theorem own_some {A A' : Option Addr} {n c n' c' b : Nat} (h : (Value.slice A' n' c').ownBlock = (Value.slice A n c).ownBlock ∨ (Value.slice A' n' c').ownBlock = some b) (hA : A.isSome = true) : A'.isSome = true := by
 cases A with
 | none => cases hA
 | some a =>
  cases A' with
  | some _ => rfl
  | none =>
   rcases h with h | h
   ·exact absurd (show (none : Option Nat) = some a.block from h) (by simp)
   ·exact absurd (show (none : Option Nat) = some b from h) (by simp)
theorem takeVals_no {k j : Nat} {a : RowM} {p : List UInt8} (hj : j < k) (h : takeVal p = none) : takeVals (k - j) a p = none := by
 obtain ⟨q, hq⟩ : ∃ q, k - j = q + 1 := ⟨k - j - 1, by omega⟩
 rw [hq, takeVals, h]
theorem takeVals_yes {k j : Nat} {a : RowM} {p u : List UInt8} {v : Va} (hj : j < k) (h : takeVal p = some (v, u)) : takeVals (k - j) a p = takeVals (k - (j + 1)) (a ++ [v]) u := by
 obtain ⟨q, hq⟩ : ∃ q, k - j = q + 1 := ⟨k - j - 1, by omega⟩
 rw [hq, takeVals, h, show k - (j + 1) = q from by omega]
theorem takeVal_len {l u : List UInt8} {v : Va} (h : takeVal l = some (v, u)) : u.length ≤ l.length := by
 cases l with
 | nil => cases h
 | cons k t =>
  cases hb : takeBody k t with
  | none => rw [takeVal_no hb] at h; cases h
  | some x =>
   obtain ⟨n, s, u'⟩ := x
   have hu : u' = u := by
    by_cases hr : rightV ⟨k.toNat, n, s⟩ = true
    ·rw [takeVal_of hb hr] at h
     exact (Prod.mk.inj (Option.some.inj h)).2
    ·rw [takeVal_bad hb (by simpa using hr)] at h
     cases h
   subst hu
   unfold takeBody at hb
   split at hb
   ·cases hn : takeNum t with
    | none => rw [hn] at hb; cases hb
    | some y =>
     obtain ⟨m, z⟩ := y
     rw [hn] at hb
     have := (Prod.mk.inj (Prod.mk.inj (Option.some.inj hb)).2).2
     subst this
     have := (takeNum_lt hn).2
     rw [List.length_cons]
     omega
   ·split at hb
    ·cases hn : takeText t with
     | none => rw [hn] at hb; cases hb
     | some y =>
      obtain ⟨m, z⟩ := y
      rw [hn] at hb
      have := (Prod.mk.inj (Prod.mk.inj (Option.some.inj hb)).2).2
      subst this
      obtain ⟨_, q, hq, _⟩ := takeText_suf hn
      rw [hq, List.length_drop, List.length_cons]
      omega
    ·have := (Prod.mk.inj (Prod.mk.inj (Option.some.inj hb)).2).2
     subst this
     rw [List.length_cons]
     omega
set_option maxHeartbeats 8000000 in
set_option maxRecDepth 100000 in
theorem stake_tail (l : List UInt8) (n c : Nat) (A : Option Addr) (w : World) (hl : l.length = n) (hx : OwnX w 0 5 A n c (Bs l)) (hn : n ≤ 100000) :
  Calls Tryz.prog 119 #[.slice A n c] w fun e w' => RowOK l A w e w' := by
 have hcap := hx.cap
 have hc : c ≤ 9223372036854775807 := by have := hcap.2; unfold maxLen at this; omega
 have hnew := Lib.hid (rdr_new l n c A w hl hx.rd (by omega))
 have Hx := Lib.hid hx
 have Hl := Lib.hid hl
 have htr : Hid (takeRow l = match takeNum l with | none => none | some (m, u) => if 32 < m then none else takeVals m [] u) := Lib.hid (by unfold takeRow; rfl)
 clear hx hl
 go_enter Tryz.func119, Tryz.ntmps119
 go_wp2_with fail
 refine hnew.out.mono ?_
 rintro e w1 ⟨p, rfl, hr1, hp1, hb1⟩
 have hnum := Lib.hid (rdr_num p l false w1 hr1)
 have hpl : p < w1.heap.size := by obtain ⟨_, _, _, h, _⟩ := hr1; exact h.lt
 have hz1 := hb1.size
 clear hr1 hnew
 go_wp2_with fail
 refine hnum.out.mono ?_
 rintro e w2 ⟨⟨ht, rfl, hbad⟩ | ⟨m, u, ht, rfl, hr2⟩, hk2⟩
 ·have HT : Hid (takeRow l = none) := Lib.hid (by rw [htr.out, ht])
  have hbd := Lib.hid (rdr_bad p [] true w2 (RdrBad.rdr hbad))
  have HB := Lib.hid (hb1.trans ((hk2.below (by omega)).mono hp1))
  clear ht hbad hk2 htr
  go_wp2_with fail
  refine hbd.out.mono ?_
  rintro e w' ⟨rfl, rfl⟩
  go_wp2_with fail
  go_ret3
  exact ⟨.inl ⟨HT.out, rfl⟩, HB.out⟩
 ·have hm64 := (takeNum_lt ht).1
  have hbd := Lib.hid (rdr_bad p u false w2 hr2)
  have HB := Lib.hid (hb1.trans ((hk2.below (by omega)).mono hp1))
  have Ht := Lib.hid ht
  have Hr2 := Lib.hid hr2
  clear ht hk2 hr2
  by_cases h32 : 32 < m
  ·have HT : Hid (takeRow l = none) := Lib.hid (by rw [htr.out, Ht.out]; exact if_pos h32)
   clear htr
   go_wp2_with fail
   refine hbd.out.mono ?_
   rintro e w' ⟨rfl, rfl⟩
   go_wp2_with fail
   go_ret3
   exact ⟨.inl ⟨HT.out, rfl⟩, HB.out⟩
  ·have HT : Hid (takeRow l = takeVals m [] u) := Lib.hid (by rw [htr.out, Ht.out]; exact if_neg h32)
   clear htr
   have hn0 : 0 < n := by
    rcases Nat.eq_zero_or_pos n with h | h
    ·have h9 : l = [] := List.eq_nil_of_length_eq_zero (by rw [Hl.out]; exact h)
     have := Ht.out
     rw [h9] at this
     cases this
    ·exact h
   obtain ⟨b, o, rfl, _, _⟩ := Hx.out.at_ hn0
   have hsuf := takeNum_suf Ht.out
   have hul : u.length ≤ n := by
    obtain ⟨kk, hu, hkk⟩ := hsuf
    have := Hl.out
    rw [hu, List.length_drop]
    omega
   obtain ⟨d, hd⟩ : ∃ d, n = d + u.length := ⟨n - u.length, by omega⟩
   have hdr : Hid (l.drop d = u) := by
    obtain ⟨kk, hu, hkk⟩ := hsuf
    have := drop_len hu hkk
    rw [Hl.out, show n - u.length = d from by omega] at this
    exact this
   have hbE : Below w2.heap.size w2 (w2.alloc (.cells #[] 38)) := (Below.refl _ _).alloc (Nat.le_refl _) _
   have HB3 := Lib.hid (HB.out.trans (hbE.mono HB.out.size))
   have hoE : Own (w2.alloc (.cells #[] 38)) w2.heap.size 38 3 (some ⟨w2.heap.size, 0, none⟩) 0 0 [] := World.ownsRow_made w2 #[] 0 (Nat.le_refl _) (by unfold maxLen; omega) rfl
   have HO3 := Lib.hid (Own.base hoE HB.out.size)
   have hX3 := Hx.out.below HB3.out
   have hlf := Lib.hid (rdr_left p u false _ (Hr2.out.below hbE))
   generalize hUL : u.length = ul at *
   have HUL := Lib.hid hUL
   have Hd := Lib.hid hd
   have hdI : (n : Int) - (ul : Int) = (d : Int) := by omega
   have hw : IntKind.i64.wrap (d : Int) = (d : Int) := by rw [IntKind.wrap_i64]; omega
   have hdn : d ≤ n := by omega
   clear hUL hul hd hbE hoE hsuf
   by_cases hdc : d = c
   ·have hul0 : ul = 0 := by have := Hd.out; omega
    have hnc3 : n = c := by have := Hd.out; omega
    subst hul0
    subst hdc
    subst hnc3
    have hX4 : OwnX (w2.alloc (.cells #[] 38)) 0 5 (some ⟨b, o, none⟩) 0 0 (Bs u) := by
     have : u = [] := List.eq_nil_of_length_eq_zero HUL.out
     rw [this]
     exact hX3.dropAll
    have HX3 := Lib.hid hX4
    clear hX3 hX4
    go_wp2_with fail
    refine hbd.out.mono ?_
    rintro e w' ⟨rfl, rfl⟩
    go_wp2_with fail
    refine hlf.out.mono ?_
    rintro e w' ⟨rfl, rfl⟩
    go_wp2_with fail
    go_loopw [7, 8, 31] (fun vr vq vi wr => ∃ (j : Nat) (a : RowM) (q : List UInt8) (R A1 : Option Addr) (rc ql c1 : Nat), j ≤ m ∧ vi = .int .u64 j ∧ vr = .slice R j rc ∧ vq = .slice A1 ql c1 ∧ Hid (a.length = j) ∧ q.length = ql ∧ ql ≤ n ∧ Own wr w.heap.size 38 3 R j rc (rcells a) ∧ Hid (R.isSome = true) ∧ OwnX wr 0 5 A1 ql c1 (Bs q) ∧
      Hid (∀ b' o', A1 = some ⟨b', o', none⟩ → (∃ o'', (some ⟨b, o, none⟩ : Option Addr) = some ⟨b', o'', none⟩) ∨ w.heap.size ≤ b') ∧ Below w.heap.size w wr ∧ Hid (takeVals m [] u = takeVals (m - j) a q) ∧ Hid (∀ v ∈ a, v.ok)) (fun _ _ i _ => m - (intOf i).toNat)
    case atStart => exact ⟨0, [], u, _, some ⟨b, o, none⟩, 0, 0, 0, by omega, rfl, rfl, rfl, rfl, HUL.out, by have := Hd.out; omega, HO3.out, rfl, HX3.out, (fun b' o' h => .inl ⟨o, by injection h with h; injection h with h1 h2; rw [h1]⟩), HB3.out, by show _ = _; rw [Nat.sub_zero], fun v hv => by simp at hv⟩
    case round =>
     obtain ⟨j, a, q, R, A1, rc, ql, c1, hj, rfl, rfl, rfl, hal, hql, hqn, hown, hRs, hxq, hin, hb, htv, hoks⟩ := hrel
     have hcq := hxq.cap
     have hct := Lib.hid (ctake_any q ql c1 A1 wr hql hxq.rd (by omega) hcq.1 (by have := hcq.2; unfold maxLen at this; omega))
     have Hown := Lib.hid hown
     have Hxq := Lib.hid hxq
     have Hb := Lib.hid hb
     clear hown hxq hb
     by_cases hlt : j < m
     ·go_wp2_with fail
      refine hct.out.mono ?_
      rintro e w5 ⟨⟨hno, rfl⟩ | ⟨v, u', A5, c5, hyes, hvok, rfl, ho5⟩, hb5⟩
      ·have HN := Lib.hid (HT.out.trans (htv.out.trans (takeVals_no hlt hno)))
       have HB5 := Lib.hid (Hb.out.trans (hb5.mono Hb.out.size))
       clear hno hb5
       go_wp2_with fail
       go_ret3
       exact ⟨.inl ⟨HN.out, rfl⟩, HB5.out.alloc (by have := HB5.out.size; omega) _⟩
      ·have HN := Lib.hid (htv.out.trans (takeVals_yes hlt hyes))
       have hlen' := takeVal_len hyes
       obtain ⟨vk, vn, vs⟩ := v
       unfold Va.agg
       dsimp only
       have HB5 := Lib.hid (Hb.out.trans (hb5.mono Hb.out.size))
       have Ho5 := Lib.hid ho5
       have Hown5 := Lib.hid (Own.below Hown.out hb5)
       have hz5 := HB5.out.size
       have hzr := Hb.out.size
       have hzr5 := hb5.size
       have Hvok := Lib.hid hvok
       generalize hul' : u'.length = ul' at *
       have HUL' := Lib.hid hul'
       clear hyes hb5 ho5 hvok hct hul'
       have hbV : Below w5.heap.size w5 (w5.alloc (.cells #[.int .u8 vk, .int .i64 vn, .string (St8 vs)] 38)) := (Below.refl _ _).alloc (Nat.le_refl _) _
       have hbW : Below w5.heap.size w5 ((w5.alloc (.cells #[.int .u8 vk, .int .i64 vn, .string (St8 vs)] 38)).alloc (.cells #[.int .u8 vk, .int .i64 vn, .string (St8 vs)] 38)) := hbV.alloc (by simp) _
       have hnw := (Blk.new (w5.alloc (.cells #[.int .u8 vk, .int .i64 vn, .string (St8 vs)] 38)) 38 #[.int .u8 vk, .int .i64 vn, .string (St8 vs)]).range
       rw [show (w5.alloc (.cells #[.int .u8 vk, .int .i64 vn, .string (St8 vs)] 38)).heap.size = w5.heap.size + 1 from by simp] at hnw
       have HownW := Lib.hid (Own.below Hown5.out hbW)
       have HbW := Lib.hid (HB5.out.trans (hbW.mono hz5))
       have Ho5W := Lib.hid (Own.below Ho5.out hbW)
       clear hbV hbW Hown5 Ho5
       go_wp2_with (first | (at_builtin; refine hold ?_) | (at_make; refine hold ?_))
       (with_reducible refine unhold ?_)
       refine wpList_apd rfl _ _ _ rfl Eval w.heap.size _ j rc _ rfl HownW.out _ 1 _ [.int .u8 vk, .int .i64 vn, .string (St8 vs)] rfl rfl (fun _ => ⟨_, _, rfl, hnw⟩) (by simp [Value.oneCell']) (j + 1) rfl (rcells (a ++ [⟨vk, vn, vs⟩])) (by rw [rcells_append]; rfl) (by omega) (by omega) HbW.out.size ?_
       intro A6 c6 w6 ho6 hg6 hat6
       have HR6 : Hid (A6.isSome = true) := own_some hat6 hRs.out
       have hk6 := Own.apd_keeps HownW.out hg6
       have Hb6 := Lib.hid (HbW.out.grown hg6 HbW.out.size HownW.out.row_ge)
       have Hx6 := Lib.hid ((OwnX.of_own (Own.keeps Ho5W.out (by decide) hk6)).lower (Nat.zero_le _))
       have Hw6 := Lib.hid (fun b' o' (h : A5 = some ⟨b', o', none⟩) => (Ho5W.out.lt b' (by rw [h]; rfl)).1)
       clear hk6 hg6 hat6
       go_wp2_with fail
       go_roundw
       case rel =>
        refine ⟨j + 1, a ++ [⟨vk, vn, vs⟩], u', A6, A5, c6, ul', c5, by omega, by go_num, rfl, rfl, ?_, HUL'.out, by omega, ho6, HR6, Hx6.out, ?_, Hb6.out, HN, ?_⟩
        ·show _ = _
         rw [List.length_append, hal.out]
         rfl
        ·exact fun b' o' h => .inr (Nat.le_trans hzr (Hw6.out b' o' h))
        ·intro y hy
         rcases List.mem_append.1 hy with hy | hy
         ·exact hoks.out y hy
         ·rw [List.mem_singleton.1 hy]; exact Hvok.out
       case measure => simp [intOf]; omega
     ·obtain rfl : j = m := by omega
      have hfin := htv.out
      rw [Nat.sub_self] at hfin
      have HF := Lib.hid (HT.out.trans hfin)
      clear hct hfin
      go_wp2_with fail
      go_ret3
      refine ⟨.inr ⟨a, q, R, rc, A1, c1, HF.out, hoks.out, by rw [hal.out, hql]; rfl, ?_, hRs.out, ?_, hin.out⟩, Hb.out⟩
      ·rw [hal.out]; exact Hown.out
      ·rw [hql]; exact Hxq.out
   ·have hdc2 : ¬ c = d := fun e => hdc e.symm
    have hX4 := hX3.drop hdn
    rw [← List.map_drop, hdr.out] at hX4
    have hnd : n - d = ul := by have := Hd.out; omega
    have HX3 : Hid (OwnX (w2.alloc (.cells #[] 38)) 0 5 (some ⟨b, o + d, none⟩) ul (c - d) (Bs u)) := by rw [← hnd]; exact hX4
    clear hX3 hX4
    go_wp2_with fail
    refine hbd.out.mono ?_
    rintro e w' ⟨rfl, rfl⟩
    go_wp2_with fail
    refine hlf.out.mono ?_
    rintro e w' ⟨rfl, rfl⟩
    go_wp2_with fail
    go_loopw [7, 8, 31] (fun vr vq vi wr => ∃ (j : Nat) (a : RowM) (q : List UInt8) (R A1 : Option Addr) (rc ql c1 : Nat), j ≤ m ∧ vi = .int .u64 j ∧ vr = .slice R j rc ∧ vq = .slice A1 ql c1 ∧ Hid (a.length = j) ∧ q.length = ql ∧ ql ≤ n ∧ Own wr w.heap.size 38 3 R j rc (rcells a) ∧ Hid (R.isSome = true) ∧ OwnX wr 0 5 A1 ql c1 (Bs q) ∧
      Hid (∀ b' o', A1 = some ⟨b', o', none⟩ → (∃ o'', (some ⟨b, o, none⟩ : Option Addr) = some ⟨b', o'', none⟩) ∨ w.heap.size ≤ b') ∧ Below w.heap.size w wr ∧ Hid (takeVals m [] u = takeVals (m - j) a q) ∧ Hid (∀ v ∈ a, v.ok)) (fun _ _ i _ => m - (intOf i).toNat)
    case atStart => exact ⟨0, [], u, _, some ⟨b, o + d, none⟩, 0, ul, c - d, by omega, rfl, rfl, rfl, rfl, HUL.out, by have := Hd.out; omega, HO3.out, rfl, HX3.out, (fun b' o' h => .inl ⟨o, by injection h with h; injection h with h1 h2; rw [h1]⟩), HB3.out, by show _ = _; rw [Nat.sub_zero], fun v hv => by simp at hv⟩
    case round =>
     obtain ⟨j, a, q, R, A1, rc, ql, c1, hj, rfl, rfl, rfl, hal, hql, hqn, hown, hRs, hxq, hin, hb, htv, hoks⟩ := hrel
     have hcq := hxq.cap
     have hct := Lib.hid (ctake_any q ql c1 A1 wr hql hxq.rd (by omega) hcq.1 (by have := hcq.2; unfold maxLen at this; omega))
     have Hown := Lib.hid hown
     have Hxq := Lib.hid hxq
     have Hb := Lib.hid hb
     clear hown hxq hb
     by_cases hlt : j < m
     ·go_wp2_with fail
      refine hct.out.mono ?_
      rintro e w5 ⟨⟨hno, rfl⟩ | ⟨v, u', A5, c5, hyes, hvok, rfl, ho5⟩, hb5⟩
      ·have HN := Lib.hid (HT.out.trans (htv.out.trans (takeVals_no hlt hno)))
       have HB5 := Lib.hid (Hb.out.trans (hb5.mono Hb.out.size))
       clear hno hb5
       go_wp2_with fail
       go_ret3
       exact ⟨.inl ⟨HN.out, rfl⟩, HB5.out.alloc (by have := HB5.out.size; omega) _⟩
      ·have HN := Lib.hid (htv.out.trans (takeVals_yes hlt hyes))
       have hlen' := takeVal_len hyes
       obtain ⟨vk, vn, vs⟩ := v
       unfold Va.agg
       dsimp only
       have HB5 := Lib.hid (Hb.out.trans (hb5.mono Hb.out.size))
       have Ho5 := Lib.hid ho5
       have Hown5 := Lib.hid (Own.below Hown.out hb5)
       have hz5 := HB5.out.size
       have hzr := Hb.out.size
       have hzr5 := hb5.size
       have Hvok := Lib.hid hvok
       generalize hul' : u'.length = ul' at *
       have HUL' := Lib.hid hul'
       clear hyes hb5 ho5 hvok hct hul'
       have hbV : Below w5.heap.size w5 (w5.alloc (.cells #[.int .u8 vk, .int .i64 vn, .string (St8 vs)] 38)) := (Below.refl _ _).alloc (Nat.le_refl _) _
       have hbW : Below w5.heap.size w5 ((w5.alloc (.cells #[.int .u8 vk, .int .i64 vn, .string (St8 vs)] 38)).alloc (.cells #[.int .u8 vk, .int .i64 vn, .string (St8 vs)] 38)) := hbV.alloc (by simp) _
       have hnw := (Blk.new (w5.alloc (.cells #[.int .u8 vk, .int .i64 vn, .string (St8 vs)] 38)) 38 #[.int .u8 vk, .int .i64 vn, .string (St8 vs)]).range
       rw [show (w5.alloc (.cells #[.int .u8 vk, .int .i64 vn, .string (St8 vs)] 38)).heap.size = w5.heap.size + 1 from by simp] at hnw
       have HownW := Lib.hid (Own.below Hown5.out hbW)
       have HbW := Lib.hid (HB5.out.trans (hbW.mono hz5))
       have Ho5W := Lib.hid (Own.below Ho5.out hbW)
       clear hbV hbW Hown5 Ho5
       go_wp2_with (first | (at_builtin; refine hold ?_) | (at_make; refine hold ?_))
       (with_reducible refine unhold ?_)
       refine wpList_apd rfl _ _ _ rfl Eval w.heap.size _ j rc _ rfl HownW.out _ 1 _ [.int .u8 vk, .int .i64 vn, .string (St8 vs)] rfl rfl (fun _ => ⟨_, _, rfl, hnw⟩) (by simp [Value.oneCell']) (j + 1) rfl (rcells (a ++ [⟨vk, vn, vs⟩])) (by rw [rcells_append]; rfl) (by omega) (by omega) HbW.out.size ?_
       intro A6 c6 w6 ho6 hg6 hat6
       have HR6 : Hid (A6.isSome = true) := own_some hat6 hRs.out
       have hk6 := Own.apd_keeps HownW.out hg6
       have Hb6 := Lib.hid (HbW.out.grown hg6 HbW.out.size HownW.out.row_ge)
       have Hx6 := Lib.hid ((OwnX.of_own (Own.keeps Ho5W.out (by decide) hk6)).lower (Nat.zero_le _))
       have Hw6 := Lib.hid (fun b' o' (h : A5 = some ⟨b', o', none⟩) => (Ho5W.out.lt b' (by rw [h]; rfl)).1)
       clear hk6 hg6 hat6
       go_wp2_with fail
       go_roundw
       case rel =>
        refine ⟨j + 1, a ++ [⟨vk, vn, vs⟩], u', A6, A5, c6, ul', c5, by omega, by go_num, rfl, rfl, ?_, HUL'.out, by omega, ho6, HR6, Hx6.out, ?_, Hb6.out, HN, ?_⟩
        ·show _ = _
         rw [List.length_append, hal.out]
         rfl
        ·exact fun b' o' h => .inr (Nat.le_trans hzr (Hw6.out b' o' h))
        ·intro y hy
         rcases List.mem_append.1 hy with hy | hy
         ·exact hoks.out y hy
         ·rw [List.mem_singleton.1 hy]; exact Hvok.out
       case measure => simp [intOf]; omega
     ·obtain rfl : j = m := by omega
      have hfin := htv.out
      rw [Nat.sub_self] at hfin
      have HF := Lib.hid (HT.out.trans hfin)
      clear hct hfin
      go_wp2_with fail
      go_ret3
      refine ⟨.inr ⟨a, q, R, rc, A1, c1, HF.out, hoks.out, by rw [hal.out, hql]; rfl, ?_, hRs.out, ?_, hin.out⟩, Hb.out⟩
      ·rw [hal.out]; exact Hown.out
      ·rw [hql]; exact Hxq.out
end Go.Proofs.YtcadjekcdokkjaaGreat
