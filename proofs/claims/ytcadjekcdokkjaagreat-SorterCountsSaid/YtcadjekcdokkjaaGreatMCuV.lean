/- The walk of cell.Take. -/
import Derived.Test.YtcadjekcdokkjaaGreatMCuTM
namespace Go.Proofs.YtcadjekcdokkjaaGreat
set_option linter.unusedVariables false
set_option linter.unusedSimpArgs false
open Go.RowKit
attribute [local go_sem ↓] Go.wp_at_zero Go.wp_at_succ
def TakeOK (l : List UInt8) (w : World) (e : Ending) (w' : World) : Prop :=
 ((takeVal l = none ∧ e = .returned (.tuple #[.agg #[.int .u8 0, .int .i64 0, .string ⟨#[]⟩], .slice none 0 0, .int .i64 6])) ∨ ∃ v u A c, takeVal l = some (v, u) ∧ v.ok ∧ e = .returned (.tuple #[v.agg, .slice A u.length c, .int .i64 0]) ∧ Own w' w.heap.size 5 1 A u.length c (Bs u)) ∧ Below w.heap.size w w'
theorem takeVal_bad {k : UInt8} {t s u : List UInt8} {n : Int} (h : takeBody k t = some (n, s, u)) (hr : rightV ⟨k.toNat, n, s⟩ = false) : takeVal (k :: t) = none := by
 rw [takeVal, h]
 dsimp only
 rw [if_neg (by rw [hr]; simp)]
theorem body_num_no {k : UInt8} {t : List UInt8} (hk : k = 1 ∨ k = 2) (h : takeNum t = none) : takeBody k t = none := by
 unfold takeBody
 rw [if_pos hk, h]
theorem body_num {k : UInt8} {t u : List UInt8} {m : Nat} (hk : k = 1 ∨ k = 2) (h : takeNum t = some (m, u)) : takeBody k t = some (unzig m, [], u) := by
 unfold takeBody
 rw [if_pos hk, h]
theorem body_txt_no {k : UInt8} {t : List UInt8} (hk : k = 3) (h : takeText t = none) : takeBody k t = none := by
 subst hk
 unfold takeBody
 rw [if_neg (by decide), if_pos rfl, h]
theorem body_txt {k : UInt8} {t s u : List UInt8} (hk : k = 3) (h : takeText t = some (s, u)) : takeBody k t = some (0, s, u) := by
 subst hk
 unfold takeBody
 rw [if_neg (by decide), if_pos rfl, h]
theorem body_else {k : UInt8} {t : List UInt8} (h : ¬ (k = 1 ∨ k = 2)) (h3 : k ≠ 3) : takeBody k t = some (0, [], t) := by
 unfold takeBody
 rw [if_neg h, if_neg h3]
theorem drop_len {l u : List UInt8} {k : Nat} (h : u = l.drop k) (hk : k ≤ l.length) : l.drop (l.length - u.length) = u := by
 subst h
 rw [List.length_drop, show l.length - (l.length - k) = k from by omega]
theorem ctake_nil (n c : Nat) (A : Option Addr) (w : World) (hn : n = 0) : Calls Tryz.prog 136 #[.slice A n c] w fun e w' => TakeOK [] w e w' := by
 subst hn
 go_enter Tryz.func136, Tryz.ntmps136
 go_wp2_with fail
 go_returns
 exact ⟨.inl ⟨rfl, rfl⟩, by go_grown⟩
set_option maxHeartbeats 8000000 in
set_option maxRecDepth 100000 in
theorem ctake_more (k : UInt8) (t : List UInt8) (n c : Nat) (A : Option Addr) (w : World) (hl : t.length + 1 = n) (hr : Rd w A (Bs (k :: t))) (hn : n ≤ 1000000) (hnc : n ≤ c) (hc : c ≤ 9223372036854775807) (hc1 : ¬ c = 1) : Calls Tryz.prog 136 #[.slice A n c] w fun e w' => TakeOK (k :: t) w e w' := by
 have hk8 := k.toNat_lt
 obtain ⟨b, o, rfl, hbl, hrr, c0⟩ := hr.get (k := 0) (by simp)
 simp only [List.map_cons, List.getElem_cons_zero, Nat.add_zero, B] at c0
 have hnew : Hid (∀ (q : Option Addr) (w' : World), Below w.heap.size w w' → (if c = 1 then q = some ⟨b, o, none⟩ else q = some ⟨b, o + 1, none⟩) → Calls Tryz.prog 132 #[.slice q (n - 1) (c - 1)] w' fun e w'' => ∃ p, e = .returned (.pointer (some ⟨p, 0, none⟩)) ∧ Rdr w'' p t false ∧ w'.heap.size ≤ p ∧ Below w'.heap.size w' w'') := fun q w' hb hq => by
  refine rdr_new t (n - 1) (c - 1) q w' (by omega) ?_ (by omega)
  split at hq
  ·have : t = [] := List.eq_nil_of_length_eq_zero (by omega)
   subst this
   exact Rd.nil _ _
  ·subst hq
   have := Rd.part hrr 1 t.length
   have h2 : ((Bs (k :: t)).drop 1).take t.length = Bs t := by
    show ((B k :: Bs t).drop 1).take t.length = Bs t
    rw [List.drop_succ_cons, List.drop_zero, List.take_of_length_le (by simp)]
   rw [h2] at this
   exact (Rd.of_range this).below hb
 have hbA : Below w.heap.size w (w.alloc (.cells #[.int .u8 0, .int .i64 0, .string ⟨#[]⟩] 38)) := (Below.refl _ _).alloc (Nat.le_refl _) _
 have hgA := Blk.new w 38 #[.int .u8 0, .int .i64 0, .string ⟨#[]⟩]
 have hnp : 0 < n := by omega
 have hk0 : 0 ≤ (k.toNat : Int) := by omega
 have htl : Hid ((k :: t).length = n) := by show _ = _; rw [List.length_cons]; exact hl
 have hN := Lib.hid (hnew.out (some ⟨b, o + 1, none⟩) _ hbA (by rw [if_neg hc1]))
 clear hnew
 go_enter Tryz.func136, Tryz.ntmps136
 go_wp2_with fail
 refine hN.out.mono ?_
 rintro e wN ⟨p, rfl, hrd, hpz, hbN⟩
 have hpw : w.heap.size < p := by have := hpz; simp at this; omega
 have hplt : p < wN.heap.size := by obtain ⟨_, _, _, h, _⟩ := hrd; exact h.lt
 have hgN := hgA.below hbN
 have hbwN := hbA.trans (hbN.mono hbA.size)
 have c0N := cell_keep hbwN c0
 have hzN := hbwN.size
 have Hr := Lib.hid hr
 obtain ⟨K, hK⟩ : ∃ K : Nat, k.toNat = K := ⟨_, rfl⟩
 rw [hK] at c0N
 have HK := Lib.hid hK
 clear hK hbN hN hr hrr c0
 by_cases h1 : K = 1
 ·subst h1
  have hk1 : k = 1 ∨ k = 2 := .inl (UInt8.toNat_inj.1 HK.out)
  have hbV : Below wN.heap.size wN (wN.alloc (.cells #[.int .u8 1, .int .i64 0, .string ⟨#[]⟩] 38)) := (Below.refl _ _).alloc (Nat.le_refl _) _
  have hg1 := Blk.new wN 38 #[.int .u8 1, .int .i64 0, .string ⟨#[]⟩]
  have hrV := hrd.below hbV
  have hI := Lib.hid (rdr_int p t false _ hrV)
  have hgV := hgN.below hbV
  have hbwV := hbwN.trans (hbV.mono hzN)
  have hzV := hbwV.size
  have hsV : (wN.alloc (.cells #[.int .u8 1, .int .i64 0, .string ⟨#[]⟩] 38)).heap.size = wN.heap.size + 1 := by simp
  clear hrd hbV
  go_wp2_with fail
  refine hI.out.mono ?_
  rintro e w2 ⟨⟨htn, rfl, hbad⟩ | ⟨m, u, htn, rfl, hr2⟩, hk2⟩
  ·have HT : Hid (takeVal (k :: t) = none) := takeVal_no (body_num_no hk1 htn)
   have hg12 := hg1.keeps (by decide) hk2
   have hg02 := hgV.keeps (by decide) hk2
   have hne : w.heap.size ≠ wN.heap.size := by have := hgN.lt; omega
   have x1 := hg12.cell 1
   have x1f := hg12.frozen 1
   simp only [List.getElem?_cons_zero, List.getElem?_cons_succ] at x1
   have HG0 := Lib.hid (hg02.far (p := ⟨wN.heap.size, 1, none⟩) hne (.int .i64 0))
   have HB := Lib.hid (Blk.far hbad (p := ⟨wN.heap.size, 1, none⟩) (fun e => hbad.ne_of_type hg12 (by decide) e) (.int .i64 0))
   have HBw := Lib.hid ((hbwV.trans ((hk2.below (by omega)).mono (by omega))).setCell (p := ⟨wN.heap.size, 1, none⟩) hzN (.int .i64 0))
   clear htn hbad hk2 hg1 hgV hg12 hg02 hrV hI
   go_wp2_with fail
   obtain ⟨W, hW⟩ : ∃ x, x = w2.setCell ⟨wN.heap.size, 1, none⟩ (.int .i64 0) := ⟨_, rfl⟩
   rw [← hW] at HG0 HB HBw ⊢
   clear hW x1 x1f
   have hbd := Lib.hid (rdr_bad p [] true W (RdrBad.rdr HB.out))
   have z0 := HG0.out.cell 0
   have z1 := HG0.out.cell 1
   have z2 := HG0.out.cell 2
   have y0 := HG0.out.frozen 0
   have y1 := HG0.out.frozen 1
   have y2 := HG0.out.frozen 2
   simp only [List.getElem?_cons_zero, List.getElem?_cons_succ] at z0 z1 z2
   go_wp2_with fail
   refine hbd.out.mono ?_
   rintro e w' ⟨rfl, rfl⟩
   go_wp2_with fail
   have q0 := (HG0.out.set_ 0 (.int .u8 0)).cell 0
   have q1 := ((HG0.out.set_ 0 (.int .u8 0)).set_ 1 (.int .i64 0)).cell 1
   have q2 := (((HG0.out.set_ 0 (.int .u8 0)).set_ 1 (.int .i64 0)).set_ 2 (.string ⟨#[]⟩)).cell 2
   simp only [List.set_cons_zero, List.set_cons_succ, List.getElem?_cons_zero, List.getElem?_cons_succ] at q0 q1 q2
   refine bodyPost_ret (by simp [results, Tryz.results136, go_sem, q0, q1, q2]; try rfl) rfl ?_
   exact ⟨.inl ⟨HT.out, rfl⟩, ((HBw.out.setCell (p := ⟨w.heap.size, 0, none⟩) (Nat.le_refl _) _).setCell (p := ⟨w.heap.size, 1, none⟩) (Nat.le_refl _) _).setCell (p := ⟨w.heap.size, 2, none⟩) (Nat.le_refl _) _⟩
  ·have hmm := (takeNum_lt htn).1
   have hub := unzig_in hmm
   have HTB := Lib.hid (body_num hk1 htn)
   have Hsuf : Hid (∃ kk, u = (k :: t).drop kk ∧ kk ≤ (k :: t).length) := by
    obtain ⟨kk, h1, h2⟩ := takeNum_suf htn
    exact ⟨kk + 1, by rw [List.drop_succ_cons]; exact h1, by rw [List.length_cons]; omega⟩
   have hg12 := hg1.keeps (by decide) hk2
   have hg02 := hgV.keeps (by decide) hk2
   have hne : w.heap.size ≠ wN.heap.size := by have := hgN.lt; omega
   generalize unzig m = N at *
   have x1 := hg12.cell 1
   have x1f := hg12.frozen 1
   simp only [List.getElem?_cons_zero, List.getElem?_cons_succ] at x1
   have hg13 := hg12.set_ 1 (.int .i64 N)
   simp only [List.set_cons_zero, List.set_cons_succ] at hg13
   have HG1 := Lib.hid hg13
   have HG0 := Lib.hid (hg02.far (p := ⟨wN.heap.size, 1, none⟩) hne (.int .i64 N))
   have HR := Lib.hid (Rdr.far (i := 1) hr2 hg12 (by decide) (by decide) (.int .i64 N))
   have HBw := Lib.hid ((hbwV.trans ((hk2.below (by omega)).mono (by omega))).setCell (p := ⟨wN.heap.size, 1, none⟩) hzN (.int .i64 N))
   clear htn hr2 hk2 hg1 hgV hg12 hg02 hg13 hrV hI
   go_wp2_with fail
   obtain ⟨W, hW⟩ : ∃ x, x = w2.setCell ⟨wN.heap.size, 1, none⟩ (.int .i64 N) := ⟨_, rfl⟩
   rw [← hW] at HG0 HG1 HR HBw ⊢
   clear hW x1 x1f
   have hbd := Lib.hid (rdr_bad p u false W HR.out)
   have hri := cright_any ⟨(k.toNat : Int), N, []⟩ W
   have hk1' : (k.toNat : Int) = 1 := by rw [HK.out] <;> rfl
   have hk1'' := Lib.hid hk1'
   generalize hRr : rightV ⟨(k.toNat : Int), N, []⟩ = R at hri
   have HRr := Lib.hid hRr
   unfold Va.agg at hri
   dsimp only at hri
   rw [hk1'] at hri
   have Hri : Hid (Calls Tryz.prog 113 #[.agg #[.int .u8 1, .int .i64 N, .string (⟨#[]⟩)]] W fun e w' => e = .returned (.bool R) ∧ Below W.heap.size W w') := hri
   have x0 := HG1.out.cell 0
   have x1 := HG1.out.cell 1
   have x2 := HG1.out.cell 2
   simp only [List.getElem?_cons_zero, List.getElem?_cons_succ] at x0 x1 x2
   clear hRr hri hk1'
   go_wp2_with fail
   refine hbd.out.mono ?_
   rintro e w' ⟨rfl, rfl⟩
   go_wp2_with fail
   refine Hri.out.mono ?_
   rintro e W2 ⟨rfl, hb2⟩
   have HB2 := Lib.hid (HBw.out.trans (hb2.mono HBw.out.size))
   have HG02 := Lib.hid (HG0.out.below hb2)
   have HG12 := Lib.hid (HG1.out.below hb2)
   have HR2 := Lib.hid (HR.out.below hb2)
   have z0 := HG02.out.cell 0
   have z1 := HG02.out.cell 1
   have z2 := HG02.out.cell 2
   have y0 := HG02.out.frozen 0
   have y1 := HG02.out.frozen 1
   have y2 := HG02.out.frozen 2
   simp only [List.getElem?_cons_zero, List.getElem?_cons_succ] at z0 z1 z2
   clear hb2 HG0 HG1 HR HBw hbd Hri x0 x1 x2
   cases R with
   | false =>
    go_wp2_with fail
    have q0 := (HG02.out.set_ 0 (.int .u8 0)).cell 0
    have q1 := ((HG02.out.set_ 0 (.int .u8 0)).set_ 1 (.int .i64 0)).cell 1
    have q2 := (((HG02.out.set_ 0 (.int .u8 0)).set_ 1 (.int .i64 0)).set_ 2 (.string ⟨#[]⟩)).cell 2
    simp only [List.set_cons_zero, List.set_cons_succ, List.getElem?_cons_zero, List.getElem?_cons_succ] at q0 q1 q2
    refine bodyPost_ret (by simp [results, Tryz.results136, go_sem, q0, q1, q2]; try rfl) rfl ?_
    exact ⟨.inl ⟨takeVal_bad HTB.out HRr.out, rfl⟩, ((HB2.out.setCell (p := ⟨w.heap.size, 0, none⟩) (Nat.le_refl _) _).setCell (p := ⟨w.heap.size, 1, none⟩) (Nat.le_refl _) _).setCell (p := ⟨w.heap.size, 2, none⟩) (Nat.le_refl _) _⟩
   | true =>
    have x0 := HG12.out.cell 0
    have x1 := HG12.out.cell 1
    have x2 := HG12.out.cell 2
    simp only [List.getElem?_cons_zero, List.getElem?_cons_succ] at x0 x1 x2
    have hul : u.length ≤ n := by
     obtain ⟨kk, hu, hkk⟩ := Hsuf.out
     have := htl.out
     rw [hu, List.length_drop]
     omega
    obtain ⟨d, hd⟩ : ∃ d, n = d + u.length := ⟨n - u.length, by omega⟩
    have hdr : Hid ((k :: t).drop d = u) := by
     obtain ⟨kk, hu, hkk⟩ := Hsuf.out
     have := drop_len hu hkk
     rw [htl.out, show n - u.length = d from by omega] at this
     exact this
    have hrd2 : Hid (Rd W2 (some ⟨b, o + d, none⟩) (Bs u)) := by
     show Rd _ _ _
     intro hne
     obtain ⟨b', o', e, hrg⟩ := (Hr.out.below HB2.out) (by simp)
     injection e with e
     injection e with e1 e2
     subst e1; subst e2
     have h3 := Rd.part hrg d u.length
     rw [← List.map_drop, hdr.out, List.take_of_length_le (by simp)] at h3
     exact ⟨b, o + d, rfl, h3⟩
    have hlf := Lib.hid (rdr_left p u false _ (HR2.out.below (Below.refl _ _).drew))
    generalize hUL : u.length = ul at *
    have HUL := Lib.hid hUL
    have hdI : (n : Int) - (ul : Int) = (d : Int) := by omega
    have hw : IntKind.i64.wrap (d : Int) = (d : Int) := by rw [IntKind.wrap_i64]; omega
    have Hd := Lib.hid hd
    have hdn : d ≤ n := by omega
    clear hUL hul hd z0 z1 z2 y0 y1 y2
    have k0 := HG12.out.cell 0
    by_cases hdc : d = c
    ·have hul0 : ul = 0 := by have := Hd.out; omega
     have hnc3 : n = c := by have := Hd.out; omega
     subst hul0
     subst hdc
     try subst hnc3
     have hrd3 : Rd W2 (some ⟨b, o, none⟩) (Bs u) := by
      have : u = [] := List.eq_nil_of_length_eq_zero HUL.out
      rw [this]
      exact Rd.nil _ _
     go_wp2_with fail
     go_region_held3 (fun w' => w'.cell? ⟨wN.heap.size, 0, none⟩ = some (.int .u8 1) ∧ w'.cell? ⟨wN.heap.size, 1, none⟩ = some (.int .i64 N) ∧ w'.cell? ⟨wN.heap.size, 2, none⟩ = some (.string (⟨#[]⟩)))
      (first | exact ⟨x0, x1, x2⟩ | exact ⟨v0, v1, v2⟩ | exact ⟨t0, t1, t2⟩)
      (first | (go_at_call 135; refine hlf.out.mono ?_; rintro e w' ⟨rfl, rfl⟩)
             | (refine step_apd rfl (.const (.slice none 0 0)) (.tmp 46) 36 rfl E8 w.heap.size none 0 0 [] rfl (Own.nil _ w.heap.size 5 1) (some ⟨b, o, none⟩) (0) (0) (Bs u) (by simp [Act.eval, Act.put]) (by rw [List.length_map, HUL.out] <;> (have := Hd.out; omega)) (by exact hrd3) (Bs_one u) 0 (by have := Hd.out; omega) (Bs u) rfl (by omega) (by omega) (by exact HB2.out.size) ?_; intro A6 c6 w6 ho6 hg6 _; have hb6' : Below W2.heap.size W2.drew w6 := (Below.refl _ _).grown hg6 (Nat.le_refl _) (fun k hk => by simp [Value.ownBlock] at hk); have hb6 : Below W2.heap.size W2 w6 := ⟨hb6'.os, hb6'.tape, hb6'.output, hb6'.size, hb6'.block⟩; have hG6 := HG02.out.below hb6; have z0 := hG6.cell 0; have z1 := hG6.cell 1; have z2 := hG6.cell 2; have y0 := hG6.frozen 0; have y1 := hG6.frozen 1; have y2 := hG6.frozen 2; have hV6 := HG12.out.below hb6; have v0 := hV6.cell 0; have v1 := hV6.cell 1; have v2 := hV6.cell 2; have hT6 := ((hV6.far (p := ⟨w.heap.size, 0, none⟩) (Ne.symm hne) (.int .u8 1)).far (p := ⟨w.heap.size, 1, none⟩) (Ne.symm hne) (.int .i64 N)).far (p := ⟨w.heap.size, 2, none⟩) (Ne.symm hne) (.string (⟨#[]⟩)); have t0 := hT6.cell 0; have t1 := hT6.cell 1; have t2 := hT6.cell 2; simp only [List.getElem?_cons_zero, List.getElem?_cons_succ] at z0 z1 z2 v0 v1 v2 t0 t1 t2))
     have q0 := (hG6.set_ 0 (.int .u8 1)).cell 0
     have q1 := ((hG6.set_ 0 (.int .u8 1)).set_ 1 (.int .i64 N)).cell 1
     have q2 := (((hG6.set_ 0 (.int .u8 1)).set_ 1 (.int .i64 N)).set_ 2 (.string (⟨#[]⟩))).cell 2
     simp only [List.set_cons_zero, List.set_cons_succ, List.getElem?_cons_zero, List.getElem?_cons_succ] at q0 q1 q2
     have hkF : Keeps [38] 0 w6 (((w6.setCell ⟨w.heap.size, 0, none⟩ (.int .u8 1)).setCell ⟨w.heap.size, 1, none⟩ (.int .i64 N)).setCell ⟨w.heap.size, 2, none⟩ (.string (⟨#[]⟩))) := (((Keeps.refl _ _ _).setCell hG6 (by simp) (Nat.zero_le _) _).setCell (hG6.set_ 0 _) (by simp) (Nat.zero_le _) _).setCell ((hG6.set_ 0 _).set_ 1 _) (by simp) (Nat.zero_le _) _
     have HOF := Lib.hid (Own.keeps ho6 (by decide) hkF)
     have HBF := Lib.hid ((((HB2.out.trans (hb6.mono HB2.out.size)).setCell (p := ⟨w.heap.size, 0, none⟩) (Nat.le_refl _) (.int .u8 1)).setCell (p := ⟨w.heap.size, 1, none⟩) (Nat.le_refl _) (.int .i64 N)).setCell (p := ⟨w.heap.size, 2, none⟩) (Nat.le_refl _) (.string (⟨#[]⟩)))
     clear hG6 hV6 hT6 v0 v1 v2 t0 t1 t2 hkF ho6 hb6 hb6'
     go_wp2_with fail
     refine bodyPost_ret (by simp [results, Tryz.results136, go_sem, q0, q1, q2]; try rfl) rfl ?_
     have hVk := takeVal_of HTB.out HRr.out
     rw [hk1''.out] at hVk
     refine ⟨.inr ⟨_, u, A6, c6, hVk, ⟨by constructor <;> simp <;> omega, ⟨by first | exact hub.1 | (show (-9223372036854775808 : Int) ≤ 0; decide), by first | exact hub.2 | (show (0 : Int) ≤ 9223372036854775807; decide)⟩, by first | exact Nat.le_trans hsl (by decide) | (show 0 ≤ _; omega)⟩, by rw [HUL.out]; rfl, by rw [HUL.out]; exact HOF.out⟩, HBF.out⟩
    ·have hlow : d ≤ c := by omega
     have hdc2 : ¬ c = d := fun e => hdc e.symm
     go_wp2_with fail
     go_region_held3 (fun w' => w'.cell? ⟨wN.heap.size, 0, none⟩ = some (.int .u8 1) ∧ w'.cell? ⟨wN.heap.size, 1, none⟩ = some (.int .i64 N) ∧ w'.cell? ⟨wN.heap.size, 2, none⟩ = some (.string (⟨#[]⟩)))
      (first | exact ⟨x0, x1, x2⟩ | exact ⟨v0, v1, v2⟩ | exact ⟨t0, t1, t2⟩)
      (first | (go_at_call 135; refine hlf.out.mono ?_; rintro e w' ⟨rfl, rfl⟩)
             | (refine step_apd rfl (.const (.slice none 0 0)) (.tmp 46) 36 rfl E8 w.heap.size none 0 0 [] rfl (Own.nil _ w.heap.size 5 1) (some ⟨b, o + d, none⟩) (n - d) (c - d) (Bs u) (by simp [Act.eval, Act.put]) (by rw [List.length_map, HUL.out] <;> (have := Hd.out; omega)) (by exact hrd2.out) (Bs_one u) ul (by have := Hd.out; omega) (Bs u) rfl (by omega) (by omega) (by exact HB2.out.size) ?_; intro A6 c6 w6 ho6 hg6 _; have hb6' : Below W2.heap.size W2.drew w6 := (Below.refl _ _).grown hg6 (Nat.le_refl _) (fun k hk => by simp [Value.ownBlock] at hk); have hb6 : Below W2.heap.size W2 w6 := ⟨hb6'.os, hb6'.tape, hb6'.output, hb6'.size, hb6'.block⟩; have hG6 := HG02.out.below hb6; have z0 := hG6.cell 0; have z1 := hG6.cell 1; have z2 := hG6.cell 2; have y0 := hG6.frozen 0; have y1 := hG6.frozen 1; have y2 := hG6.frozen 2; have hV6 := HG12.out.below hb6; have v0 := hV6.cell 0; have v1 := hV6.cell 1; have v2 := hV6.cell 2; have hT6 := ((hV6.far (p := ⟨w.heap.size, 0, none⟩) (Ne.symm hne) (.int .u8 1)).far (p := ⟨w.heap.size, 1, none⟩) (Ne.symm hne) (.int .i64 N)).far (p := ⟨w.heap.size, 2, none⟩) (Ne.symm hne) (.string (⟨#[]⟩)); have t0 := hT6.cell 0; have t1 := hT6.cell 1; have t2 := hT6.cell 2; simp only [List.getElem?_cons_zero, List.getElem?_cons_succ] at z0 z1 z2 v0 v1 v2 t0 t1 t2))
     have q0 := (hG6.set_ 0 (.int .u8 1)).cell 0
     have q1 := ((hG6.set_ 0 (.int .u8 1)).set_ 1 (.int .i64 N)).cell 1
     have q2 := (((hG6.set_ 0 (.int .u8 1)).set_ 1 (.int .i64 N)).set_ 2 (.string (⟨#[]⟩))).cell 2
     simp only [List.set_cons_zero, List.set_cons_succ, List.getElem?_cons_zero, List.getElem?_cons_succ] at q0 q1 q2
     have hkF : Keeps [38] 0 w6 (((w6.setCell ⟨w.heap.size, 0, none⟩ (.int .u8 1)).setCell ⟨w.heap.size, 1, none⟩ (.int .i64 N)).setCell ⟨w.heap.size, 2, none⟩ (.string (⟨#[]⟩))) := (((Keeps.refl _ _ _).setCell hG6 (by simp) (Nat.zero_le _) _).setCell (hG6.set_ 0 _) (by simp) (Nat.zero_le _) _).setCell ((hG6.set_ 0 _).set_ 1 _) (by simp) (Nat.zero_le _) _
     have HOF := Lib.hid (Own.keeps ho6 (by decide) hkF)
     have HBF := Lib.hid ((((HB2.out.trans (hb6.mono HB2.out.size)).setCell (p := ⟨w.heap.size, 0, none⟩) (Nat.le_refl _) (.int .u8 1)).setCell (p := ⟨w.heap.size, 1, none⟩) (Nat.le_refl _) (.int .i64 N)).setCell (p := ⟨w.heap.size, 2, none⟩) (Nat.le_refl _) (.string (⟨#[]⟩)))
     clear hG6 hV6 hT6 v0 v1 v2 t0 t1 t2 hkF ho6 hb6 hb6'
     go_wp2_with fail
     refine bodyPost_ret (by simp [results, Tryz.results136, go_sem, q0, q1, q2]; try rfl) rfl ?_
     have hVk := takeVal_of HTB.out HRr.out
     rw [hk1''.out] at hVk
     refine ⟨.inr ⟨_, u, A6, c6, hVk, ⟨by constructor <;> simp <;> omega, ⟨by first | exact hub.1 | (show (-9223372036854775808 : Int) ≤ 0; decide), by first | exact hub.2 | (show (0 : Int) ≤ 9223372036854775807; decide)⟩, by first | exact Nat.le_trans hsl (by decide) | (show 0 ≤ _; omega)⟩, by rw [HUL.out]; rfl, by rw [HUL.out]; exact HOF.out⟩, HBF.out⟩
 ·by_cases h2 : K = 2
  ·subst h2
   have hk1 : k = 1 ∨ k = 2 := .inr (UInt8.toNat_inj.1 HK.out)
   have hbV : Below wN.heap.size wN (wN.alloc (.cells #[.int .u8 2, .int .i64 0, .string ⟨#[]⟩] 38)) := (Below.refl _ _).alloc (Nat.le_refl _) _
   have hg1 := Blk.new wN 38 #[.int .u8 2, .int .i64 0, .string ⟨#[]⟩]
   have hrV := hrd.below hbV
   have hI := Lib.hid (rdr_int p t false _ hrV)
   have hgV := hgN.below hbV
   have hbwV := hbwN.trans (hbV.mono hzN)
   have hzV := hbwV.size
   have hsV : (wN.alloc (.cells #[.int .u8 2, .int .i64 0, .string ⟨#[]⟩] 38)).heap.size = wN.heap.size + 1 := by simp
   clear hrd hbV
   go_wp2_with fail
   refine hI.out.mono ?_
   rintro e w2 ⟨⟨htn, rfl, hbad⟩ | ⟨m, u, htn, rfl, hr2⟩, hk2⟩
   ·have HT : Hid (takeVal (k :: t) = none) := takeVal_no (body_num_no hk1 htn)
    have hg12 := hg1.keeps (by decide) hk2
    have hg02 := hgV.keeps (by decide) hk2
    have hne : w.heap.size ≠ wN.heap.size := by have := hgN.lt; omega
    have x1 := hg12.cell 1
    have x1f := hg12.frozen 1
    simp only [List.getElem?_cons_zero, List.getElem?_cons_succ] at x1
    have HG0 := Lib.hid (hg02.far (p := ⟨wN.heap.size, 1, none⟩) hne (.int .i64 0))
    have HB := Lib.hid (Blk.far hbad (p := ⟨wN.heap.size, 1, none⟩) (fun e => hbad.ne_of_type hg12 (by decide) e) (.int .i64 0))
    have HBw := Lib.hid ((hbwV.trans ((hk2.below (by omega)).mono (by omega))).setCell (p := ⟨wN.heap.size, 1, none⟩) hzN (.int .i64 0))
    clear htn hbad hk2 hg1 hgV hg12 hg02 hrV hI
    go_wp2_with fail
    obtain ⟨W, hW⟩ : ∃ x, x = w2.setCell ⟨wN.heap.size, 1, none⟩ (.int .i64 0) := ⟨_, rfl⟩
    rw [← hW] at HG0 HB HBw ⊢
    clear hW x1 x1f
    have hbd := Lib.hid (rdr_bad p [] true W (RdrBad.rdr HB.out))
    have z0 := HG0.out.cell 0
    have z1 := HG0.out.cell 1
    have z2 := HG0.out.cell 2
    have y0 := HG0.out.frozen 0
    have y1 := HG0.out.frozen 1
    have y2 := HG0.out.frozen 2
    simp only [List.getElem?_cons_zero, List.getElem?_cons_succ] at z0 z1 z2
    go_wp2_with fail
    refine hbd.out.mono ?_
    rintro e w' ⟨rfl, rfl⟩
    go_wp2_with fail
    have q0 := (HG0.out.set_ 0 (.int .u8 0)).cell 0
    have q1 := ((HG0.out.set_ 0 (.int .u8 0)).set_ 1 (.int .i64 0)).cell 1
    have q2 := (((HG0.out.set_ 0 (.int .u8 0)).set_ 1 (.int .i64 0)).set_ 2 (.string ⟨#[]⟩)).cell 2
    simp only [List.set_cons_zero, List.set_cons_succ, List.getElem?_cons_zero, List.getElem?_cons_succ] at q0 q1 q2
    refine bodyPost_ret (by simp [results, Tryz.results136, go_sem, q0, q1, q2]; try rfl) rfl ?_
    exact ⟨.inl ⟨HT.out, rfl⟩, ((HBw.out.setCell (p := ⟨w.heap.size, 0, none⟩) (Nat.le_refl _) _).setCell (p := ⟨w.heap.size, 1, none⟩) (Nat.le_refl _) _).setCell (p := ⟨w.heap.size, 2, none⟩) (Nat.le_refl _) _⟩
   ·have hmm := (takeNum_lt htn).1
    have hub := unzig_in hmm
    have HTB := Lib.hid (body_num hk1 htn)
    have Hsuf : Hid (∃ kk, u = (k :: t).drop kk ∧ kk ≤ (k :: t).length) := by
     obtain ⟨kk, h1, h2⟩ := takeNum_suf htn
     exact ⟨kk + 1, by rw [List.drop_succ_cons]; exact h1, by rw [List.length_cons]; omega⟩
    have hg12 := hg1.keeps (by decide) hk2
    have hg02 := hgV.keeps (by decide) hk2
    have hne : w.heap.size ≠ wN.heap.size := by have := hgN.lt; omega
    generalize unzig m = N at *
    have x1 := hg12.cell 1
    have x1f := hg12.frozen 1
    simp only [List.getElem?_cons_zero, List.getElem?_cons_succ] at x1
    have hg13 := hg12.set_ 1 (.int .i64 N)
    simp only [List.set_cons_zero, List.set_cons_succ] at hg13
    have HG1 := Lib.hid hg13
    have HG0 := Lib.hid (hg02.far (p := ⟨wN.heap.size, 1, none⟩) hne (.int .i64 N))
    have HR := Lib.hid (Rdr.far (i := 1) hr2 hg12 (by decide) (by decide) (.int .i64 N))
    have HBw := Lib.hid ((hbwV.trans ((hk2.below (by omega)).mono (by omega))).setCell (p := ⟨wN.heap.size, 1, none⟩) hzN (.int .i64 N))
    clear htn hr2 hk2 hg1 hgV hg12 hg02 hg13 hrV hI
    go_wp2_with fail
    obtain ⟨W, hW⟩ : ∃ x, x = w2.setCell ⟨wN.heap.size, 1, none⟩ (.int .i64 N) := ⟨_, rfl⟩
    rw [← hW] at HG0 HG1 HR HBw ⊢
    clear hW x1 x1f
    have hbd := Lib.hid (rdr_bad p u false W HR.out)
    have hri := cright_any ⟨(k.toNat : Int), N, []⟩ W
    have hk1' : (k.toNat : Int) = 2 := by rw [HK.out] <;> rfl
    have hk1'' := Lib.hid hk1'
    generalize hRr : rightV ⟨(k.toNat : Int), N, []⟩ = R at hri
    have HRr := Lib.hid hRr
    unfold Va.agg at hri
    dsimp only at hri
    rw [hk1'] at hri
    have Hri : Hid (Calls Tryz.prog 113 #[.agg #[.int .u8 2, .int .i64 N, .string (⟨#[]⟩)]] W fun e w' => e = .returned (.bool R) ∧ Below W.heap.size W w') := hri
    have x0 := HG1.out.cell 0
    have x1 := HG1.out.cell 1
    have x2 := HG1.out.cell 2
    simp only [List.getElem?_cons_zero, List.getElem?_cons_succ] at x0 x1 x2
    clear hRr hri hk1'
    go_wp2_with fail
    refine hbd.out.mono ?_
    rintro e w' ⟨rfl, rfl⟩
    go_wp2_with fail
    refine Hri.out.mono ?_
    rintro e W2 ⟨rfl, hb2⟩
    have HB2 := Lib.hid (HBw.out.trans (hb2.mono HBw.out.size))
    have HG02 := Lib.hid (HG0.out.below hb2)
    have HG12 := Lib.hid (HG1.out.below hb2)
    have HR2 := Lib.hid (HR.out.below hb2)
    have z0 := HG02.out.cell 0
    have z1 := HG02.out.cell 1
    have z2 := HG02.out.cell 2
    have y0 := HG02.out.frozen 0
    have y1 := HG02.out.frozen 1
    have y2 := HG02.out.frozen 2
    simp only [List.getElem?_cons_zero, List.getElem?_cons_succ] at z0 z1 z2
    clear hb2 HG0 HG1 HR HBw hbd Hri x0 x1 x2
    cases R with
    | false =>
     go_wp2_with fail
     have q0 := (HG02.out.set_ 0 (.int .u8 0)).cell 0
     have q1 := ((HG02.out.set_ 0 (.int .u8 0)).set_ 1 (.int .i64 0)).cell 1
     have q2 := (((HG02.out.set_ 0 (.int .u8 0)).set_ 1 (.int .i64 0)).set_ 2 (.string ⟨#[]⟩)).cell 2
     simp only [List.set_cons_zero, List.set_cons_succ, List.getElem?_cons_zero, List.getElem?_cons_succ] at q0 q1 q2
     refine bodyPost_ret (by simp [results, Tryz.results136, go_sem, q0, q1, q2]; try rfl) rfl ?_
     exact ⟨.inl ⟨takeVal_bad HTB.out HRr.out, rfl⟩, ((HB2.out.setCell (p := ⟨w.heap.size, 0, none⟩) (Nat.le_refl _) _).setCell (p := ⟨w.heap.size, 1, none⟩) (Nat.le_refl _) _).setCell (p := ⟨w.heap.size, 2, none⟩) (Nat.le_refl _) _⟩
    | true =>
     have x0 := HG12.out.cell 0
     have x1 := HG12.out.cell 1
     have x2 := HG12.out.cell 2
     simp only [List.getElem?_cons_zero, List.getElem?_cons_succ] at x0 x1 x2
     have hul : u.length ≤ n := by
      obtain ⟨kk, hu, hkk⟩ := Hsuf.out
      have := htl.out
      rw [hu, List.length_drop]
      omega
     obtain ⟨d, hd⟩ : ∃ d, n = d + u.length := ⟨n - u.length, by omega⟩
     have hdr : Hid ((k :: t).drop d = u) := by
      obtain ⟨kk, hu, hkk⟩ := Hsuf.out
      have := drop_len hu hkk
      rw [htl.out, show n - u.length = d from by omega] at this
      exact this
     have hrd2 : Hid (Rd W2 (some ⟨b, o + d, none⟩) (Bs u)) := by
      show Rd _ _ _
      intro hne
      obtain ⟨b', o', e, hrg⟩ := (Hr.out.below HB2.out) (by simp)
      injection e with e
      injection e with e1 e2
      subst e1; subst e2
      have h3 := Rd.part hrg d u.length
      rw [← List.map_drop, hdr.out, List.take_of_length_le (by simp)] at h3
      exact ⟨b, o + d, rfl, h3⟩
     have hlf := Lib.hid (rdr_left p u false _ (HR2.out.below (Below.refl _ _).drew))
     generalize hUL : u.length = ul at *
     have HUL := Lib.hid hUL
     have hdI : (n : Int) - (ul : Int) = (d : Int) := by omega
     have hw : IntKind.i64.wrap (d : Int) = (d : Int) := by rw [IntKind.wrap_i64]; omega
     have Hd := Lib.hid hd
     have hdn : d ≤ n := by omega
     clear hUL hul hd z0 z1 z2 y0 y1 y2
     have k0 := HG12.out.cell 0
     by_cases hdc : d = c
     ·have hul0 : ul = 0 := by have := Hd.out; omega
      have hnc3 : n = c := by have := Hd.out; omega
      subst hul0
      subst hdc
      try subst hnc3
      have hrd3 : Rd W2 (some ⟨b, o, none⟩) (Bs u) := by
       have : u = [] := List.eq_nil_of_length_eq_zero HUL.out
       rw [this]
       exact Rd.nil _ _
      go_wp2_with fail
      go_region_held3 (fun w' => w'.cell? ⟨wN.heap.size, 0, none⟩ = some (.int .u8 2) ∧ w'.cell? ⟨wN.heap.size, 1, none⟩ = some (.int .i64 N) ∧ w'.cell? ⟨wN.heap.size, 2, none⟩ = some (.string (⟨#[]⟩)))
       (first | exact ⟨x0, x1, x2⟩ | exact ⟨v0, v1, v2⟩ | exact ⟨t0, t1, t2⟩)
       (first | (go_at_call 135; refine hlf.out.mono ?_; rintro e w' ⟨rfl, rfl⟩)
              | (refine step_apd rfl (.const (.slice none 0 0)) (.tmp 46) 36 rfl E8 w.heap.size none 0 0 [] rfl (Own.nil _ w.heap.size 5 1) (some ⟨b, o, none⟩) (0) (0) (Bs u) (by simp [Act.eval, Act.put]) (by rw [List.length_map, HUL.out] <;> (have := Hd.out; omega)) (by exact hrd3) (Bs_one u) 0 (by have := Hd.out; omega) (Bs u) rfl (by omega) (by omega) (by exact HB2.out.size) ?_; intro A6 c6 w6 ho6 hg6 _; have hb6' : Below W2.heap.size W2.drew w6 := (Below.refl _ _).grown hg6 (Nat.le_refl _) (fun k hk => by simp [Value.ownBlock] at hk); have hb6 : Below W2.heap.size W2 w6 := ⟨hb6'.os, hb6'.tape, hb6'.output, hb6'.size, hb6'.block⟩; have hG6 := HG02.out.below hb6; have z0 := hG6.cell 0; have z1 := hG6.cell 1; have z2 := hG6.cell 2; have y0 := hG6.frozen 0; have y1 := hG6.frozen 1; have y2 := hG6.frozen 2; have hV6 := HG12.out.below hb6; have v0 := hV6.cell 0; have v1 := hV6.cell 1; have v2 := hV6.cell 2; have hT6 := ((hV6.far (p := ⟨w.heap.size, 0, none⟩) (Ne.symm hne) (.int .u8 2)).far (p := ⟨w.heap.size, 1, none⟩) (Ne.symm hne) (.int .i64 N)).far (p := ⟨w.heap.size, 2, none⟩) (Ne.symm hne) (.string (⟨#[]⟩)); have t0 := hT6.cell 0; have t1 := hT6.cell 1; have t2 := hT6.cell 2; simp only [List.getElem?_cons_zero, List.getElem?_cons_succ] at z0 z1 z2 v0 v1 v2 t0 t1 t2))
      have q0 := (hG6.set_ 0 (.int .u8 2)).cell 0
      have q1 := ((hG6.set_ 0 (.int .u8 2)).set_ 1 (.int .i64 N)).cell 1
      have q2 := (((hG6.set_ 0 (.int .u8 2)).set_ 1 (.int .i64 N)).set_ 2 (.string (⟨#[]⟩))).cell 2
      simp only [List.set_cons_zero, List.set_cons_succ, List.getElem?_cons_zero, List.getElem?_cons_succ] at q0 q1 q2
      have hkF : Keeps [38] 0 w6 (((w6.setCell ⟨w.heap.size, 0, none⟩ (.int .u8 2)).setCell ⟨w.heap.size, 1, none⟩ (.int .i64 N)).setCell ⟨w.heap.size, 2, none⟩ (.string (⟨#[]⟩))) := (((Keeps.refl _ _ _).setCell hG6 (by simp) (Nat.zero_le _) _).setCell (hG6.set_ 0 _) (by simp) (Nat.zero_le _) _).setCell ((hG6.set_ 0 _).set_ 1 _) (by simp) (Nat.zero_le _) _
      have HOF := Lib.hid (Own.keeps ho6 (by decide) hkF)
      have HBF := Lib.hid ((((HB2.out.trans (hb6.mono HB2.out.size)).setCell (p := ⟨w.heap.size, 0, none⟩) (Nat.le_refl _) (.int .u8 2)).setCell (p := ⟨w.heap.size, 1, none⟩) (Nat.le_refl _) (.int .i64 N)).setCell (p := ⟨w.heap.size, 2, none⟩) (Nat.le_refl _) (.string (⟨#[]⟩)))
      clear hG6 hV6 hT6 v0 v1 v2 t0 t1 t2 hkF ho6 hb6 hb6'
      go_wp2_with fail
      refine bodyPost_ret (by simp [results, Tryz.results136, go_sem, q0, q1, q2]; try rfl) rfl ?_
      have hVk := takeVal_of HTB.out HRr.out
      rw [hk1''.out] at hVk
      refine ⟨.inr ⟨_, u, A6, c6, hVk, ⟨by constructor <;> simp <;> omega, ⟨by first | exact hub.1 | (show (-9223372036854775808 : Int) ≤ 0; decide), by first | exact hub.2 | (show (0 : Int) ≤ 9223372036854775807; decide)⟩, by first | exact Nat.le_trans hsl (by decide) | (show 0 ≤ _; omega)⟩, by rw [HUL.out]; rfl, by rw [HUL.out]; exact HOF.out⟩, HBF.out⟩
     ·have hlow : d ≤ c := by omega
      have hdc2 : ¬ c = d := fun e => hdc e.symm
      go_wp2_with fail
      go_region_held3 (fun w' => w'.cell? ⟨wN.heap.size, 0, none⟩ = some (.int .u8 2) ∧ w'.cell? ⟨wN.heap.size, 1, none⟩ = some (.int .i64 N) ∧ w'.cell? ⟨wN.heap.size, 2, none⟩ = some (.string (⟨#[]⟩)))
       (first | exact ⟨x0, x1, x2⟩ | exact ⟨v0, v1, v2⟩ | exact ⟨t0, t1, t2⟩)
       (first | (go_at_call 135; refine hlf.out.mono ?_; rintro e w' ⟨rfl, rfl⟩)
              | (refine step_apd rfl (.const (.slice none 0 0)) (.tmp 46) 36 rfl E8 w.heap.size none 0 0 [] rfl (Own.nil _ w.heap.size 5 1) (some ⟨b, o + d, none⟩) (n - d) (c - d) (Bs u) (by simp [Act.eval, Act.put]) (by rw [List.length_map, HUL.out] <;> (have := Hd.out; omega)) (by exact hrd2.out) (Bs_one u) ul (by have := Hd.out; omega) (Bs u) rfl (by omega) (by omega) (by exact HB2.out.size) ?_; intro A6 c6 w6 ho6 hg6 _; have hb6' : Below W2.heap.size W2.drew w6 := (Below.refl _ _).grown hg6 (Nat.le_refl _) (fun k hk => by simp [Value.ownBlock] at hk); have hb6 : Below W2.heap.size W2 w6 := ⟨hb6'.os, hb6'.tape, hb6'.output, hb6'.size, hb6'.block⟩; have hG6 := HG02.out.below hb6; have z0 := hG6.cell 0; have z1 := hG6.cell 1; have z2 := hG6.cell 2; have y0 := hG6.frozen 0; have y1 := hG6.frozen 1; have y2 := hG6.frozen 2; have hV6 := HG12.out.below hb6; have v0 := hV6.cell 0; have v1 := hV6.cell 1; have v2 := hV6.cell 2; have hT6 := ((hV6.far (p := ⟨w.heap.size, 0, none⟩) (Ne.symm hne) (.int .u8 2)).far (p := ⟨w.heap.size, 1, none⟩) (Ne.symm hne) (.int .i64 N)).far (p := ⟨w.heap.size, 2, none⟩) (Ne.symm hne) (.string (⟨#[]⟩)); have t0 := hT6.cell 0; have t1 := hT6.cell 1; have t2 := hT6.cell 2; simp only [List.getElem?_cons_zero, List.getElem?_cons_succ] at z0 z1 z2 v0 v1 v2 t0 t1 t2))
      have q0 := (hG6.set_ 0 (.int .u8 2)).cell 0
      have q1 := ((hG6.set_ 0 (.int .u8 2)).set_ 1 (.int .i64 N)).cell 1
      have q2 := (((hG6.set_ 0 (.int .u8 2)).set_ 1 (.int .i64 N)).set_ 2 (.string (⟨#[]⟩))).cell 2
      simp only [List.set_cons_zero, List.set_cons_succ, List.getElem?_cons_zero, List.getElem?_cons_succ] at q0 q1 q2
      have hkF : Keeps [38] 0 w6 (((w6.setCell ⟨w.heap.size, 0, none⟩ (.int .u8 2)).setCell ⟨w.heap.size, 1, none⟩ (.int .i64 N)).setCell ⟨w.heap.size, 2, none⟩ (.string (⟨#[]⟩))) := (((Keeps.refl _ _ _).setCell hG6 (by simp) (Nat.zero_le _) _).setCell (hG6.set_ 0 _) (by simp) (Nat.zero_le _) _).setCell ((hG6.set_ 0 _).set_ 1 _) (by simp) (Nat.zero_le _) _
      have HOF := Lib.hid (Own.keeps ho6 (by decide) hkF)
      have HBF := Lib.hid ((((HB2.out.trans (hb6.mono HB2.out.size)).setCell (p := ⟨w.heap.size, 0, none⟩) (Nat.le_refl _) (.int .u8 2)).setCell (p := ⟨w.heap.size, 1, none⟩) (Nat.le_refl _) (.int .i64 N)).setCell (p := ⟨w.heap.size, 2, none⟩) (Nat.le_refl _) (.string (⟨#[]⟩)))
      clear hG6 hV6 hT6 v0 v1 v2 t0 t1 t2 hkF ho6 hb6 hb6'
      go_wp2_with fail
      refine bodyPost_ret (by simp [results, Tryz.results136, go_sem, q0, q1, q2]; try rfl) rfl ?_
      have hVk := takeVal_of HTB.out HRr.out
      rw [hk1''.out] at hVk
      refine ⟨.inr ⟨_, u, A6, c6, hVk, ⟨by constructor <;> simp <;> omega, ⟨by first | exact hub.1 | (show (-9223372036854775808 : Int) ≤ 0; decide), by first | exact hub.2 | (show (0 : Int) ≤ 9223372036854775807; decide)⟩, by first | exact Nat.le_trans hsl (by decide) | (show 0 ≤ _; omega)⟩, by rw [HUL.out]; rfl, by rw [HUL.out]; exact HOF.out⟩, HBF.out⟩
  ·by_cases h3 : K = 3
   ·subst h3
    have hk1 : k = 3 := UInt8.toNat_inj.1 HK.out
    have hbV : Below wN.heap.size wN (wN.alloc (.cells #[.int .u8 3, .int .i64 0, .string ⟨#[]⟩] 38)) := (Below.refl _ _).alloc (Nat.le_refl _) _
    have hg1 := Blk.new wN 38 #[.int .u8 3, .int .i64 0, .string ⟨#[]⟩]
    have hrV := hrd.below hbV
    have hI := Lib.hid (rdr_text p t false _ hrV)
    have hgV := hgN.below hbV
    have hbwV := hbwN.trans (hbV.mono hzN)
    have hzV := hbwV.size
    have hsV : (wN.alloc (.cells #[.int .u8 3, .int .i64 0, .string ⟨#[]⟩] 38)).heap.size = wN.heap.size + 1 := by simp
    clear hrd hbV
    go_wp2_with fail
    refine hI.out.mono ?_
    rintro e w2 ⟨⟨htn, rfl, hbad⟩ | ⟨s, u, htn, rfl, hr2⟩, hk2⟩
    ·have HT : Hid (takeVal (k :: t) = none) := takeVal_no (body_txt_no hk1 htn)
     have hg12 := hg1.keeps (by decide) hk2
     have hg02 := hgV.keeps (by decide) hk2
     have hne : w.heap.size ≠ wN.heap.size := by have := hgN.lt; omega
     have x1 := hg12.cell 2
     have x1f := hg12.frozen 2
     simp only [List.getElem?_cons_zero, List.getElem?_cons_succ] at x1
     have HG0 := Lib.hid (hg02.far (p := ⟨wN.heap.size, 2, none⟩) hne (.string (St8 [])))
     have HB := Lib.hid (Blk.far hbad (p := ⟨wN.heap.size, 2, none⟩) (fun e => hbad.ne_of_type hg12 (by decide) e) (.string (St8 [])))
     have HBw := Lib.hid ((hbwV.trans ((hk2.below (by omega)).mono (by omega))).setCell (p := ⟨wN.heap.size, 2, none⟩) hzN (.string (St8 [])))
     clear htn hbad hk2 hg1 hgV hg12 hg02 hrV hI
     go_wp2_with fail
     obtain ⟨W, hW⟩ : ∃ x, x = w2.setCell ⟨wN.heap.size, 2, none⟩ (.string (St8 [])) := ⟨_, rfl⟩
     rw [← hW] at HG0 HB HBw ⊢
     clear hW x1 x1f
     have hbd := Lib.hid (rdr_bad p [] true W (RdrBad.rdr HB.out))
     have z0 := HG0.out.cell 0
     have z1 := HG0.out.cell 1
     have z2 := HG0.out.cell 2
     have y0 := HG0.out.frozen 0
     have y1 := HG0.out.frozen 1
     have y2 := HG0.out.frozen 2
     simp only [List.getElem?_cons_zero, List.getElem?_cons_succ] at z0 z1 z2
     go_wp2_with fail
     refine hbd.out.mono ?_
     rintro e w' ⟨rfl, rfl⟩
     go_wp2_with fail
     have q0 := (HG0.out.set_ 0 (.int .u8 0)).cell 0
     have q1 := ((HG0.out.set_ 0 (.int .u8 0)).set_ 1 (.int .i64 0)).cell 1
     have q2 := (((HG0.out.set_ 0 (.int .u8 0)).set_ 1 (.int .i64 0)).set_ 2 (.string ⟨#[]⟩)).cell 2
     simp only [List.set_cons_zero, List.set_cons_succ, List.getElem?_cons_zero, List.getElem?_cons_succ] at q0 q1 q2
     refine bodyPost_ret (by simp [results, Tryz.results136, go_sem, q0, q1, q2]; try rfl) rfl ?_
     exact ⟨.inl ⟨HT.out, rfl⟩, ((HBw.out.setCell (p := ⟨w.heap.size, 0, none⟩) (Nat.le_refl _) _).setCell (p := ⟨w.heap.size, 1, none⟩) (Nat.le_refl _) _).setCell (p := ⟨w.heap.size, 2, none⟩) (Nat.le_refl _) _⟩
    ·have hsl := (takeText_suf htn).1
     have HTB := Lib.hid (body_txt hk1 htn)
     have Hsuf : Hid (∃ kk, u = (k :: t).drop kk ∧ kk ≤ (k :: t).length) := by
      obtain ⟨kk, h1, h2⟩ := (takeText_suf htn).2
      exact ⟨kk + 1, by rw [List.drop_succ_cons]; exact h1, by rw [List.length_cons]; omega⟩
     have hg12 := hg1.keeps (by decide) hk2
     have hg02 := hgV.keeps (by decide) hk2
     have hne : w.heap.size ≠ wN.heap.size := by have := hgN.lt; omega
     have x1 := hg12.cell 2
     have x1f := hg12.frozen 2
     simp only [List.getElem?_cons_zero, List.getElem?_cons_succ] at x1
     have hg13 := hg12.set_ 2 (.string (St8 s))
     simp only [List.set_cons_zero, List.set_cons_succ] at hg13
     have HG1 := Lib.hid hg13
     have HG0 := Lib.hid (hg02.far (p := ⟨wN.heap.size, 2, none⟩) hne (.string (St8 s)))
     have HR := Lib.hid (Rdr.far (i := 2) hr2 hg12 (by decide) (by decide) (.string (St8 s)))
     have HBw := Lib.hid ((hbwV.trans ((hk2.below (by omega)).mono (by omega))).setCell (p := ⟨wN.heap.size, 2, none⟩) hzN (.string (St8 s)))
     clear htn hr2 hk2 hg1 hgV hg12 hg02 hg13 hrV hI
     go_wp2_with fail
     obtain ⟨W, hW⟩ : ∃ x, x = w2.setCell ⟨wN.heap.size, 2, none⟩ (.string (St8 s)) := ⟨_, rfl⟩
     rw [← hW] at HG0 HG1 HR HBw ⊢
     clear hW x1 x1f
     have hbd := Lib.hid (rdr_bad p u false W HR.out)
     have hri := cright_any ⟨(k.toNat : Int), 0, s⟩ W
     have hk1' : (k.toNat : Int) = 3 := by rw [HK.out] <;> rfl
     have hk1'' := Lib.hid hk1'
     generalize hRr : rightV ⟨(k.toNat : Int), 0, s⟩ = R at hri
     have HRr := Lib.hid hRr
     unfold Va.agg at hri
     dsimp only at hri
     rw [hk1'] at hri
     have Hri : Hid (Calls Tryz.prog 113 #[.agg #[.int .u8 3, .int .i64 0, .string (St8 s)]] W fun e w' => e = .returned (.bool R) ∧ Below W.heap.size W w') := hri
     have x0 := HG1.out.cell 0
     have x1 := HG1.out.cell 1
     have x2 := HG1.out.cell 2
     simp only [List.getElem?_cons_zero, List.getElem?_cons_succ] at x0 x1 x2
     clear hRr hri hk1'
     go_wp2_with fail
     refine hbd.out.mono ?_
     rintro e w' ⟨rfl, rfl⟩
     go_wp2_with fail
     refine Hri.out.mono ?_
     rintro e W2 ⟨rfl, hb2⟩
     have HB2 := Lib.hid (HBw.out.trans (hb2.mono HBw.out.size))
     have HG02 := Lib.hid (HG0.out.below hb2)
     have HG12 := Lib.hid (HG1.out.below hb2)
     have HR2 := Lib.hid (HR.out.below hb2)
     have z0 := HG02.out.cell 0
     have z1 := HG02.out.cell 1
     have z2 := HG02.out.cell 2
     have y0 := HG02.out.frozen 0
     have y1 := HG02.out.frozen 1
     have y2 := HG02.out.frozen 2
     simp only [List.getElem?_cons_zero, List.getElem?_cons_succ] at z0 z1 z2
     clear hb2 HG0 HG1 HR HBw hbd Hri x0 x1 x2
     cases R with
     | false =>
      go_wp2_with fail
      have q0 := (HG02.out.set_ 0 (.int .u8 0)).cell 0
      have q1 := ((HG02.out.set_ 0 (.int .u8 0)).set_ 1 (.int .i64 0)).cell 1
      have q2 := (((HG02.out.set_ 0 (.int .u8 0)).set_ 1 (.int .i64 0)).set_ 2 (.string ⟨#[]⟩)).cell 2
      simp only [List.set_cons_zero, List.set_cons_succ, List.getElem?_cons_zero, List.getElem?_cons_succ] at q0 q1 q2
      refine bodyPost_ret (by simp [results, Tryz.results136, go_sem, q0, q1, q2]; try rfl) rfl ?_
      exact ⟨.inl ⟨takeVal_bad HTB.out HRr.out, rfl⟩, ((HB2.out.setCell (p := ⟨w.heap.size, 0, none⟩) (Nat.le_refl _) _).setCell (p := ⟨w.heap.size, 1, none⟩) (Nat.le_refl _) _).setCell (p := ⟨w.heap.size, 2, none⟩) (Nat.le_refl _) _⟩
     | true =>
      have x0 := HG12.out.cell 0
      have x1 := HG12.out.cell 1
      have x2 := HG12.out.cell 2
      simp only [List.getElem?_cons_zero, List.getElem?_cons_succ] at x0 x1 x2
      have hul : u.length ≤ n := by
       obtain ⟨kk, hu, hkk⟩ := Hsuf.out
       have := htl.out
       rw [hu, List.length_drop]
       omega
      obtain ⟨d, hd⟩ : ∃ d, n = d + u.length := ⟨n - u.length, by omega⟩
      have hdr : Hid ((k :: t).drop d = u) := by
       obtain ⟨kk, hu, hkk⟩ := Hsuf.out
       have := drop_len hu hkk
       rw [htl.out, show n - u.length = d from by omega] at this
       exact this
      have hrd2 : Hid (Rd W2 (some ⟨b, o + d, none⟩) (Bs u)) := by
       show Rd _ _ _
       intro hne
       obtain ⟨b', o', e, hrg⟩ := (Hr.out.below HB2.out) (by simp)
       injection e with e
       injection e with e1 e2
       subst e1; subst e2
       have h3 := Rd.part hrg d u.length
       rw [← List.map_drop, hdr.out, List.take_of_length_le (by simp)] at h3
       exact ⟨b, o + d, rfl, h3⟩
      have hlf := Lib.hid (rdr_left p u false _ (HR2.out.below (Below.refl _ _).drew))
      generalize hUL : u.length = ul at *
      have HUL := Lib.hid hUL
      have hdI : (n : Int) - (ul : Int) = (d : Int) := by omega
      have hw : IntKind.i64.wrap (d : Int) = (d : Int) := by rw [IntKind.wrap_i64]; omega
      have Hd := Lib.hid hd
      have hdn : d ≤ n := by omega
      clear hUL hul hd z0 z1 z2 y0 y1 y2
      have k0 := HG12.out.cell 0
      by_cases hdc : d = c
      ·have hul0 : ul = 0 := by have := Hd.out; omega
       have hnc3 : n = c := by have := Hd.out; omega
       subst hul0
       subst hdc
       try subst hnc3
       have hrd3 : Rd W2 (some ⟨b, o, none⟩) (Bs u) := by
        have : u = [] := List.eq_nil_of_length_eq_zero HUL.out
        rw [this]
        exact Rd.nil _ _
       go_wp2_with fail
       go_region_held3 (fun w' => w'.cell? ⟨wN.heap.size, 0, none⟩ = some (.int .u8 3) ∧ w'.cell? ⟨wN.heap.size, 1, none⟩ = some (.int .i64 0) ∧ w'.cell? ⟨wN.heap.size, 2, none⟩ = some (.string (St8 s)))
        (first | exact ⟨x0, x1, x2⟩ | exact ⟨v0, v1, v2⟩ | exact ⟨t0, t1, t2⟩)
        (first | (go_at_call 135; refine hlf.out.mono ?_; rintro e w' ⟨rfl, rfl⟩)
               | (refine step_apd rfl (.const (.slice none 0 0)) (.tmp 46) 36 rfl E8 w.heap.size none 0 0 [] rfl (Own.nil _ w.heap.size 5 1) (some ⟨b, o, none⟩) (0) (0) (Bs u) (by simp [Act.eval, Act.put]) (by rw [List.length_map, HUL.out] <;> (have := Hd.out; omega)) (by exact hrd3) (Bs_one u) 0 (by have := Hd.out; omega) (Bs u) rfl (by omega) (by omega) (by exact HB2.out.size) ?_; intro A6 c6 w6 ho6 hg6 _; have hb6' : Below W2.heap.size W2.drew w6 := (Below.refl _ _).grown hg6 (Nat.le_refl _) (fun k hk => by simp [Value.ownBlock] at hk); have hb6 : Below W2.heap.size W2 w6 := ⟨hb6'.os, hb6'.tape, hb6'.output, hb6'.size, hb6'.block⟩; have hG6 := HG02.out.below hb6; have z0 := hG6.cell 0; have z1 := hG6.cell 1; have z2 := hG6.cell 2; have y0 := hG6.frozen 0; have y1 := hG6.frozen 1; have y2 := hG6.frozen 2; have hV6 := HG12.out.below hb6; have v0 := hV6.cell 0; have v1 := hV6.cell 1; have v2 := hV6.cell 2; have hT6 := ((hV6.far (p := ⟨w.heap.size, 0, none⟩) (Ne.symm hne) (.int .u8 3)).far (p := ⟨w.heap.size, 1, none⟩) (Ne.symm hne) (.int .i64 0)).far (p := ⟨w.heap.size, 2, none⟩) (Ne.symm hne) (.string (St8 s)); have t0 := hT6.cell 0; have t1 := hT6.cell 1; have t2 := hT6.cell 2; simp only [List.getElem?_cons_zero, List.getElem?_cons_succ] at z0 z1 z2 v0 v1 v2 t0 t1 t2))
       have q0 := (hG6.set_ 0 (.int .u8 3)).cell 0
       have q1 := ((hG6.set_ 0 (.int .u8 3)).set_ 1 (.int .i64 0)).cell 1
       have q2 := (((hG6.set_ 0 (.int .u8 3)).set_ 1 (.int .i64 0)).set_ 2 (.string (St8 s))).cell 2
       simp only [List.set_cons_zero, List.set_cons_succ, List.getElem?_cons_zero, List.getElem?_cons_succ] at q0 q1 q2
       have hkF : Keeps [38] 0 w6 (((w6.setCell ⟨w.heap.size, 0, none⟩ (.int .u8 3)).setCell ⟨w.heap.size, 1, none⟩ (.int .i64 0)).setCell ⟨w.heap.size, 2, none⟩ (.string (St8 s))) := (((Keeps.refl _ _ _).setCell hG6 (by simp) (Nat.zero_le _) _).setCell (hG6.set_ 0 _) (by simp) (Nat.zero_le _) _).setCell ((hG6.set_ 0 _).set_ 1 _) (by simp) (Nat.zero_le _) _
       have HOF := Lib.hid (Own.keeps ho6 (by decide) hkF)
       have HBF := Lib.hid ((((HB2.out.trans (hb6.mono HB2.out.size)).setCell (p := ⟨w.heap.size, 0, none⟩) (Nat.le_refl _) (.int .u8 3)).setCell (p := ⟨w.heap.size, 1, none⟩) (Nat.le_refl _) (.int .i64 0)).setCell (p := ⟨w.heap.size, 2, none⟩) (Nat.le_refl _) (.string (St8 s)))
       clear hG6 hV6 hT6 v0 v1 v2 t0 t1 t2 hkF ho6 hb6 hb6'
       go_wp2_with fail
       refine bodyPost_ret (by simp [results, Tryz.results136, go_sem, q0, q1, q2]; try rfl) rfl ?_
       have hVk := takeVal_of HTB.out HRr.out
       rw [hk1''.out] at hVk
       refine ⟨.inr ⟨_, u, A6, c6, hVk, ⟨by constructor <;> simp <;> omega, ⟨by first | exact hub.1 | (show (-9223372036854775808 : Int) ≤ 0; decide), by first | exact hub.2 | (show (0 : Int) ≤ 9223372036854775807; decide)⟩, by first | exact Nat.le_trans hsl (by decide) | (show 0 ≤ _; omega)⟩, by rw [HUL.out]; rfl, by rw [HUL.out]; exact HOF.out⟩, HBF.out⟩
      ·have hlow : d ≤ c := by omega
       have hdc2 : ¬ c = d := fun e => hdc e.symm
       go_wp2_with fail
       go_region_held3 (fun w' => w'.cell? ⟨wN.heap.size, 0, none⟩ = some (.int .u8 3) ∧ w'.cell? ⟨wN.heap.size, 1, none⟩ = some (.int .i64 0) ∧ w'.cell? ⟨wN.heap.size, 2, none⟩ = some (.string (St8 s)))
        (first | exact ⟨x0, x1, x2⟩ | exact ⟨v0, v1, v2⟩ | exact ⟨t0, t1, t2⟩)
        (first | (go_at_call 135; refine hlf.out.mono ?_; rintro e w' ⟨rfl, rfl⟩)
               | (refine step_apd rfl (.const (.slice none 0 0)) (.tmp 46) 36 rfl E8 w.heap.size none 0 0 [] rfl (Own.nil _ w.heap.size 5 1) (some ⟨b, o + d, none⟩) (n - d) (c - d) (Bs u) (by simp [Act.eval, Act.put]) (by rw [List.length_map, HUL.out] <;> (have := Hd.out; omega)) (by exact hrd2.out) (Bs_one u) ul (by have := Hd.out; omega) (Bs u) rfl (by omega) (by omega) (by exact HB2.out.size) ?_; intro A6 c6 w6 ho6 hg6 _; have hb6' : Below W2.heap.size W2.drew w6 := (Below.refl _ _).grown hg6 (Nat.le_refl _) (fun k hk => by simp [Value.ownBlock] at hk); have hb6 : Below W2.heap.size W2 w6 := ⟨hb6'.os, hb6'.tape, hb6'.output, hb6'.size, hb6'.block⟩; have hG6 := HG02.out.below hb6; have z0 := hG6.cell 0; have z1 := hG6.cell 1; have z2 := hG6.cell 2; have y0 := hG6.frozen 0; have y1 := hG6.frozen 1; have y2 := hG6.frozen 2; have hV6 := HG12.out.below hb6; have v0 := hV6.cell 0; have v1 := hV6.cell 1; have v2 := hV6.cell 2; have hT6 := ((hV6.far (p := ⟨w.heap.size, 0, none⟩) (Ne.symm hne) (.int .u8 3)).far (p := ⟨w.heap.size, 1, none⟩) (Ne.symm hne) (.int .i64 0)).far (p := ⟨w.heap.size, 2, none⟩) (Ne.symm hne) (.string (St8 s)); have t0 := hT6.cell 0; have t1 := hT6.cell 1; have t2 := hT6.cell 2; simp only [List.getElem?_cons_zero, List.getElem?_cons_succ] at z0 z1 z2 v0 v1 v2 t0 t1 t2))
       have q0 := (hG6.set_ 0 (.int .u8 3)).cell 0
       have q1 := ((hG6.set_ 0 (.int .u8 3)).set_ 1 (.int .i64 0)).cell 1
       have q2 := (((hG6.set_ 0 (.int .u8 3)).set_ 1 (.int .i64 0)).set_ 2 (.string (St8 s))).cell 2
       simp only [List.set_cons_zero, List.set_cons_succ, List.getElem?_cons_zero, List.getElem?_cons_succ] at q0 q1 q2
       have hkF : Keeps [38] 0 w6 (((w6.setCell ⟨w.heap.size, 0, none⟩ (.int .u8 3)).setCell ⟨w.heap.size, 1, none⟩ (.int .i64 0)).setCell ⟨w.heap.size, 2, none⟩ (.string (St8 s))) := (((Keeps.refl _ _ _).setCell hG6 (by simp) (Nat.zero_le _) _).setCell (hG6.set_ 0 _) (by simp) (Nat.zero_le _) _).setCell ((hG6.set_ 0 _).set_ 1 _) (by simp) (Nat.zero_le _) _
       have HOF := Lib.hid (Own.keeps ho6 (by decide) hkF)
       have HBF := Lib.hid ((((HB2.out.trans (hb6.mono HB2.out.size)).setCell (p := ⟨w.heap.size, 0, none⟩) (Nat.le_refl _) (.int .u8 3)).setCell (p := ⟨w.heap.size, 1, none⟩) (Nat.le_refl _) (.int .i64 0)).setCell (p := ⟨w.heap.size, 2, none⟩) (Nat.le_refl _) (.string (St8 s)))
       clear hG6 hV6 hT6 v0 v1 v2 t0 t1 t2 hkF ho6 hb6 hb6'
       go_wp2_with fail
       refine bodyPost_ret (by simp [results, Tryz.results136, go_sem, q0, q1, q2]; try rfl) rfl ?_
       have hVk := takeVal_of HTB.out HRr.out
       rw [hk1''.out] at hVk
       refine ⟨.inr ⟨_, u, A6, c6, hVk, ⟨by constructor <;> simp <;> omega, ⟨by first | exact hub.1 | (show (-9223372036854775808 : Int) ≤ 0; decide), by first | exact hub.2 | (show (0 : Int) ≤ 9223372036854775807; decide)⟩, by first | exact Nat.le_trans hsl (by decide) | (show 0 ≤ _; omega)⟩, by rw [HUL.out]; rfl, by rw [HUL.out]; exact HOF.out⟩, HBF.out⟩
   ·skip
    have hbV : Below wN.heap.size wN (wN.alloc (.cells #[.int .u8 (K : Int), .int .i64 0, .string ⟨#[]⟩] 38)) := (Below.refl _ _).alloc (Nat.le_refl _) _
    have hg1 := Blk.new wN 38 #[.int .u8 (K : Int), .int .i64 0, .string ⟨#[]⟩]
    have HTB := Lib.hid (body_else (k := k) (t := t) (fun e => by rcases e with e | e <;> (subst e; first | exact h1 HK.out.symm | exact h2 HK.out.symm)) (fun e => by subst e; exact h3 HK.out.symm))
    have Hsuf : Hid (∃ kk, t = (k :: t).drop kk ∧ kk ≤ (k :: t).length) := ⟨1, rfl, by simp⟩
    have hne : w.heap.size ≠ wN.heap.size := by have := hgN.lt; omega
    have HR := Lib.hid (hrd.below hbV)
    have HG0 := Lib.hid (hgN.below hbV)
    have HG1 := Lib.hid hg1
    have HBw := Lib.hid (hbwN.trans (hbV.mono hzN))
    have g1 : ((K : Int) == 1) = false := by rw [beq_eq_false_iff_ne]; omega
    have g2 : ((K : Int) == 2) = false := by rw [beq_eq_false_iff_ne]; omega
    have g3 : ((K : Int) == 3) = false := by rw [beq_eq_false_iff_ne]; omega
    obtain ⟨W, hW⟩ : ∃ x, x = wN.alloc (.cells #[.int .u8 (K : Int), .int .i64 0, .string ⟨#[]⟩] 38) := ⟨_, rfl⟩
    rw [← hW] at HG0 HG1 HR HBw
    clear hrd hbV hg1
    go_wp2_with fail
    rw [← hW]
    clear hW g1 g2 g3
    obtain ⟨u, hu⟩ : ∃ x, x = t := ⟨_, rfl⟩
    have HR : Hid (Rdr W p u false) := by rw [hu]; exact HR.out
    have HTB : Hid (takeBody k t = some (0, [], u)) := by rw [hu]; exact HTB.out
    have Hsuf : Hid (∃ kk, u = (k :: t).drop kk ∧ kk ≤ (k :: t).length) := by rw [hu]; exact Hsuf.out
    have Hu := Lib.hid hu
    have hK255 : K ≤ 255 := by have := HK.out; omega
    clear hu
    have hbd := Lib.hid (rdr_bad p u false W HR.out)
    have hri := cright_any ⟨(k.toNat : Int), 0, []⟩ W
    have hk1' : (k.toNat : Int) = (K : Int) := by rw [HK.out] <;> rfl
    have hk1'' := Lib.hid hk1'
    generalize hRr : rightV ⟨(k.toNat : Int), 0, []⟩ = R at hri
    have HRr := Lib.hid hRr
    unfold Va.agg at hri
    dsimp only at hri
    rw [hk1'] at hri
    have Hri : Hid (Calls Tryz.prog 113 #[.agg #[.int .u8 (K : Int), .int .i64 0, .string (⟨#[]⟩)]] W fun e w' => e = .returned (.bool R) ∧ Below W.heap.size W w') := hri
    have x0 := HG1.out.cell 0
    have x1 := HG1.out.cell 1
    have x2 := HG1.out.cell 2
    simp only [List.getElem?_cons_zero, List.getElem?_cons_succ] at x0 x1 x2
    clear hRr hri hk1'
    go_wp2_with fail
    refine hbd.out.mono ?_
    rintro e w' ⟨rfl, rfl⟩
    go_wp2_with fail
    refine Hri.out.mono ?_
    rintro e W2 ⟨rfl, hb2⟩
    have HB2 := Lib.hid (HBw.out.trans (hb2.mono HBw.out.size))
    have HG02 := Lib.hid (HG0.out.below hb2)
    have HG12 := Lib.hid (HG1.out.below hb2)
    have HR2 := Lib.hid (HR.out.below hb2)
    have z0 := HG02.out.cell 0
    have z1 := HG02.out.cell 1
    have z2 := HG02.out.cell 2
    have y0 := HG02.out.frozen 0
    have y1 := HG02.out.frozen 1
    have y2 := HG02.out.frozen 2
    simp only [List.getElem?_cons_zero, List.getElem?_cons_succ] at z0 z1 z2
    clear hb2 HG0 HG1 HR HBw hbd Hri x0 x1 x2
    cases R with
    | false =>
     go_wp2_with fail
     have q0 := (HG02.out.set_ 0 (.int .u8 0)).cell 0
     have q1 := ((HG02.out.set_ 0 (.int .u8 0)).set_ 1 (.int .i64 0)).cell 1
     have q2 := (((HG02.out.set_ 0 (.int .u8 0)).set_ 1 (.int .i64 0)).set_ 2 (.string ⟨#[]⟩)).cell 2
     simp only [List.set_cons_zero, List.set_cons_succ, List.getElem?_cons_zero, List.getElem?_cons_succ] at q0 q1 q2
     refine bodyPost_ret (by simp [results, Tryz.results136, go_sem, q0, q1, q2]; try rfl) rfl ?_
     exact ⟨.inl ⟨takeVal_bad HTB.out HRr.out, rfl⟩, ((HB2.out.setCell (p := ⟨w.heap.size, 0, none⟩) (Nat.le_refl _) _).setCell (p := ⟨w.heap.size, 1, none⟩) (Nat.le_refl _) _).setCell (p := ⟨w.heap.size, 2, none⟩) (Nat.le_refl _) _⟩
    | true =>
     have x0 := HG12.out.cell 0
     have x1 := HG12.out.cell 1
     have x2 := HG12.out.cell 2
     simp only [List.getElem?_cons_zero, List.getElem?_cons_succ] at x0 x1 x2
     have hul : u.length ≤ n := by
      obtain ⟨kk, hu, hkk⟩ := Hsuf.out
      have := htl.out
      rw [hu, List.length_drop]
      omega
     obtain ⟨d, hd⟩ : ∃ d, n = d + u.length := ⟨n - u.length, by omega⟩
     have hdr : Hid ((k :: t).drop d = u) := by
      obtain ⟨kk, hu, hkk⟩ := Hsuf.out
      have := drop_len hu hkk
      rw [htl.out, show n - u.length = d from by omega] at this
      exact this
     have hrd2 : Hid (Rd W2 (some ⟨b, o + d, none⟩) (Bs u)) := by
      show Rd _ _ _
      intro hne
      obtain ⟨b', o', e, hrg⟩ := (Hr.out.below HB2.out) (by simp)
      injection e with e
      injection e with e1 e2
      subst e1; subst e2
      have h3 := Rd.part hrg d u.length
      rw [← List.map_drop, hdr.out, List.take_of_length_le (by simp)] at h3
      exact ⟨b, o + d, rfl, h3⟩
     have hlf := Lib.hid (rdr_left p u false _ (HR2.out.below (Below.refl _ _).drew))
     generalize hUL : u.length = ul at *
     have HUL := Lib.hid hUL
     have hdI : (n : Int) - (ul : Int) = (d : Int) := by omega
     have hw : IntKind.i64.wrap (d : Int) = (d : Int) := by rw [IntKind.wrap_i64]; omega
     have Hd := Lib.hid hd
     have hdn : d ≤ n := by omega
     clear hUL hul hd z0 z1 z2 y0 y1 y2
     have k0 := HG12.out.cell 0
     by_cases hdc : d = c
     ·have hul0 : ul = 0 := by have := Hd.out; omega
      have hnc3 : n = c := by have := Hd.out; omega
      subst hul0
      subst hdc
      try subst hnc3
      have hrd3 : Rd W2 (some ⟨b, o, none⟩) (Bs u) := by
       have : u = [] := List.eq_nil_of_length_eq_zero HUL.out
       rw [this]
       exact Rd.nil _ _
      go_wp2_with fail
      go_region_held3 (fun w' => w'.cell? ⟨wN.heap.size, 0, none⟩ = some (.int .u8 (K : Int)) ∧ w'.cell? ⟨wN.heap.size, 1, none⟩ = some (.int .i64 0) ∧ w'.cell? ⟨wN.heap.size, 2, none⟩ = some (.string (⟨#[]⟩)))
       (first | exact ⟨x0, x1, x2⟩ | exact ⟨v0, v1, v2⟩ | exact ⟨t0, t1, t2⟩)
       (first | (go_at_call 135; refine hlf.out.mono ?_; rintro e w' ⟨rfl, rfl⟩)
              | (refine step_apd rfl (.const (.slice none 0 0)) (.tmp 46) 36 rfl E8 w.heap.size none 0 0 [] rfl (Own.nil _ w.heap.size 5 1) (some ⟨b, o, none⟩) (0) (0) (Bs u) (by simp [Act.eval, Act.put]) (by rw [List.length_map, HUL.out] <;> (have := Hd.out; omega)) (by exact hrd3) (Bs_one u) 0 (by have := Hd.out; omega) (Bs u) rfl (by omega) (by omega) (by exact HB2.out.size) ?_; intro A6 c6 w6 ho6 hg6 _; have hb6' : Below W2.heap.size W2.drew w6 := (Below.refl _ _).grown hg6 (Nat.le_refl _) (fun k hk => by simp [Value.ownBlock] at hk); have hb6 : Below W2.heap.size W2 w6 := ⟨hb6'.os, hb6'.tape, hb6'.output, hb6'.size, hb6'.block⟩; have hG6 := HG02.out.below hb6; have z0 := hG6.cell 0; have z1 := hG6.cell 1; have z2 := hG6.cell 2; have y0 := hG6.frozen 0; have y1 := hG6.frozen 1; have y2 := hG6.frozen 2; have hV6 := HG12.out.below hb6; have v0 := hV6.cell 0; have v1 := hV6.cell 1; have v2 := hV6.cell 2; have hT6 := ((hV6.far (p := ⟨w.heap.size, 0, none⟩) (Ne.symm hne) (.int .u8 (K : Int))).far (p := ⟨w.heap.size, 1, none⟩) (Ne.symm hne) (.int .i64 0)).far (p := ⟨w.heap.size, 2, none⟩) (Ne.symm hne) (.string (⟨#[]⟩)); have t0 := hT6.cell 0; have t1 := hT6.cell 1; have t2 := hT6.cell 2; simp only [List.getElem?_cons_zero, List.getElem?_cons_succ] at z0 z1 z2 v0 v1 v2 t0 t1 t2))
      have q0 := (hG6.set_ 0 (.int .u8 (K : Int))).cell 0
      have q1 := ((hG6.set_ 0 (.int .u8 (K : Int))).set_ 1 (.int .i64 0)).cell 1
      have q2 := (((hG6.set_ 0 (.int .u8 (K : Int))).set_ 1 (.int .i64 0)).set_ 2 (.string (⟨#[]⟩))).cell 2
      simp only [List.set_cons_zero, List.set_cons_succ, List.getElem?_cons_zero, List.getElem?_cons_succ] at q0 q1 q2
      have hkF : Keeps [38] 0 w6 (((w6.setCell ⟨w.heap.size, 0, none⟩ (.int .u8 (K : Int))).setCell ⟨w.heap.size, 1, none⟩ (.int .i64 0)).setCell ⟨w.heap.size, 2, none⟩ (.string (⟨#[]⟩))) := (((Keeps.refl _ _ _).setCell hG6 (by simp) (Nat.zero_le _) _).setCell (hG6.set_ 0 _) (by simp) (Nat.zero_le _) _).setCell ((hG6.set_ 0 _).set_ 1 _) (by simp) (Nat.zero_le _) _
      have HOF := Lib.hid (Own.keeps ho6 (by decide) hkF)
      have HBF := Lib.hid ((((HB2.out.trans (hb6.mono HB2.out.size)).setCell (p := ⟨w.heap.size, 0, none⟩) (Nat.le_refl _) (.int .u8 (K : Int))).setCell (p := ⟨w.heap.size, 1, none⟩) (Nat.le_refl _) (.int .i64 0)).setCell (p := ⟨w.heap.size, 2, none⟩) (Nat.le_refl _) (.string (⟨#[]⟩)))
      clear hG6 hV6 hT6 v0 v1 v2 t0 t1 t2 hkF ho6 hb6 hb6'
      go_wp2_with fail
      refine bodyPost_ret (by simp [results, Tryz.results136, go_sem, q0, q1, q2]; try rfl) rfl ?_
      have hVk := takeVal_of HTB.out HRr.out
      rw [hk1''.out] at hVk
      refine ⟨.inr ⟨_, u, A6, c6, hVk, ⟨by constructor <;> simp <;> omega, ⟨by first | exact hub.1 | (show (-9223372036854775808 : Int) ≤ 0; decide), by first | exact hub.2 | (show (0 : Int) ≤ 9223372036854775807; decide)⟩, by first | exact Nat.le_trans hsl (by decide) | (show 0 ≤ _; omega)⟩, by rw [HUL.out]; rfl, by rw [HUL.out]; exact HOF.out⟩, HBF.out⟩
     ·have hlow : d ≤ c := by omega
      have hdc2 : ¬ c = d := fun e => hdc e.symm
      go_wp2_with fail
      go_region_held3 (fun w' => w'.cell? ⟨wN.heap.size, 0, none⟩ = some (.int .u8 (K : Int)) ∧ w'.cell? ⟨wN.heap.size, 1, none⟩ = some (.int .i64 0) ∧ w'.cell? ⟨wN.heap.size, 2, none⟩ = some (.string (⟨#[]⟩)))
       (first | exact ⟨x0, x1, x2⟩ | exact ⟨v0, v1, v2⟩ | exact ⟨t0, t1, t2⟩)
       (first | (go_at_call 135; refine hlf.out.mono ?_; rintro e w' ⟨rfl, rfl⟩)
              | (refine step_apd rfl (.const (.slice none 0 0)) (.tmp 46) 36 rfl E8 w.heap.size none 0 0 [] rfl (Own.nil _ w.heap.size 5 1) (some ⟨b, o + d, none⟩) (n - d) (c - d) (Bs u) (by simp [Act.eval, Act.put]) (by rw [List.length_map, HUL.out] <;> (have := Hd.out; omega)) (by exact hrd2.out) (Bs_one u) ul (by have := Hd.out; omega) (Bs u) rfl (by omega) (by omega) (by exact HB2.out.size) ?_; intro A6 c6 w6 ho6 hg6 _; have hb6' : Below W2.heap.size W2.drew w6 := (Below.refl _ _).grown hg6 (Nat.le_refl _) (fun k hk => by simp [Value.ownBlock] at hk); have hb6 : Below W2.heap.size W2 w6 := ⟨hb6'.os, hb6'.tape, hb6'.output, hb6'.size, hb6'.block⟩; have hG6 := HG02.out.below hb6; have z0 := hG6.cell 0; have z1 := hG6.cell 1; have z2 := hG6.cell 2; have y0 := hG6.frozen 0; have y1 := hG6.frozen 1; have y2 := hG6.frozen 2; have hV6 := HG12.out.below hb6; have v0 := hV6.cell 0; have v1 := hV6.cell 1; have v2 := hV6.cell 2; have hT6 := ((hV6.far (p := ⟨w.heap.size, 0, none⟩) (Ne.symm hne) (.int .u8 (K : Int))).far (p := ⟨w.heap.size, 1, none⟩) (Ne.symm hne) (.int .i64 0)).far (p := ⟨w.heap.size, 2, none⟩) (Ne.symm hne) (.string (⟨#[]⟩)); have t0 := hT6.cell 0; have t1 := hT6.cell 1; have t2 := hT6.cell 2; simp only [List.getElem?_cons_zero, List.getElem?_cons_succ] at z0 z1 z2 v0 v1 v2 t0 t1 t2))
      have q0 := (hG6.set_ 0 (.int .u8 (K : Int))).cell 0
      have q1 := ((hG6.set_ 0 (.int .u8 (K : Int))).set_ 1 (.int .i64 0)).cell 1
      have q2 := (((hG6.set_ 0 (.int .u8 (K : Int))).set_ 1 (.int .i64 0)).set_ 2 (.string (⟨#[]⟩))).cell 2
      simp only [List.set_cons_zero, List.set_cons_succ, List.getElem?_cons_zero, List.getElem?_cons_succ] at q0 q1 q2
      have hkF : Keeps [38] 0 w6 (((w6.setCell ⟨w.heap.size, 0, none⟩ (.int .u8 (K : Int))).setCell ⟨w.heap.size, 1, none⟩ (.int .i64 0)).setCell ⟨w.heap.size, 2, none⟩ (.string (⟨#[]⟩))) := (((Keeps.refl _ _ _).setCell hG6 (by simp) (Nat.zero_le _) _).setCell (hG6.set_ 0 _) (by simp) (Nat.zero_le _) _).setCell ((hG6.set_ 0 _).set_ 1 _) (by simp) (Nat.zero_le _) _
      have HOF := Lib.hid (Own.keeps ho6 (by decide) hkF)
      have HBF := Lib.hid ((((HB2.out.trans (hb6.mono HB2.out.size)).setCell (p := ⟨w.heap.size, 0, none⟩) (Nat.le_refl _) (.int .u8 (K : Int))).setCell (p := ⟨w.heap.size, 1, none⟩) (Nat.le_refl _) (.int .i64 0)).setCell (p := ⟨w.heap.size, 2, none⟩) (Nat.le_refl _) (.string (⟨#[]⟩)))
      clear hG6 hV6 hT6 v0 v1 v2 t0 t1 t2 hkF ho6 hb6 hb6'
      go_wp2_with fail
      refine bodyPost_ret (by simp [results, Tryz.results136, go_sem, q0, q1, q2]; try rfl) rfl ?_
      have hVk := takeVal_of HTB.out HRr.out
      rw [hk1''.out] at hVk
      refine ⟨.inr ⟨_, u, A6, c6, hVk, ⟨by constructor <;> simp <;> omega, ⟨by first | exact hub.1 | (show (-9223372036854775808 : Int) ≤ 0; decide), by first | exact hub.2 | (show (0 : Int) ≤ 9223372036854775807; decide)⟩, by first | exact Nat.le_trans hsl (by decide) | (show 0 ≤ _; omega)⟩, by rw [HUL.out]; rfl, by rw [HUL.out]; exact HOF.out⟩, HBF.out⟩
end Go.Proofs.YtcadjekcdokkjaaGreat
