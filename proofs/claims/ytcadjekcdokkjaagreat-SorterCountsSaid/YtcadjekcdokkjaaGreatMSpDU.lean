/- The walks of a writer's New and Done; a file on pages. The walks of a file's methods. The walk of spill.Put. -/
import Derived.Test.YtcadjekcdokkjaaGreatMSpWA
import Derived.Lib.SliceRun
namespace Go.Proofs.YtcadjekcdokkjaaGreat
set_option linter.unusedVariables false
set_option linter.unusedSimpArgs false
open Go.RowKit
attribute [local go_sem ↓] Go.wp_at_zero Go.wp_at_succ
structure FiAt (w : World) (S : Nat → Prop) (bs bf : Nat) (l : List Nat) (k ic : Nat) (I : Option Addr) (many : Int) : Prop where
 sf : S bf
 blk : Blk w bf 109 [.pointer (some ⟨bs, 0, none⟩), .slice I k ic, .int .i64 many]
 ids : Own w 0 3 1 I k ic (Is l)
 inI : InS S I
namespace FiAt
variable {w w' : World} {S : Nat → Prop} {bs bf : Nat} {l : List Nat} {k ic : Nat} {I : Option Addr} {many : Int}
theorem klen (h : FiAt w S bs bf l k ic I many) : l.length = k := by
 have := h.ids.1
 rw [Nat.mul_one, List.length_map] at this
 exact this
theorem keeps {T : List TypeId} {B : Nat} (h : FiAt w S bs bf l k ic I many) (hT : ∀ t ∈ [109, 3], t ∉ T) (hk : Keeps T B w w') : FiAt w' S bs bf l k ic I many :=
 ⟨h.sf, h.blk.keeps (hT _ (by simp)) hk, Own.keeps h.ids (hT _ (by simp)) hk, h.inI⟩
theorem below (h : FiAt w S bs bf l k ic I many) (hb : Below w.heap.size w w') : FiAt w' S bs bf l k ic I many :=
 ⟨h.sf, h.blk.below hb, Own.below h.ids hb, h.inI⟩
end FiAt
theorem below_box (w : World) (o : Obj) : Below w.heap.size w (w.drew.alloc o) := ((Below.refl _ _).drew).alloc (Nat.le_refl _) o
theorem new_c (p : Option Addr) (w : World) :
  Calls Tryz.prog 92 #[.pointer p] w fun e w' => e = .returned (.pointer (some ⟨w.heap.size, 0, none⟩)) ∧ Blk w' w.heap.size 149 [.pointer p, .slice none 0 0, .slice none 0 0, .int .i64 0, .bool false] ∧ Below w.heap.size w w' ∧ w.heap.size < w'.heap.size := by
 go_enter Tryz.func92, Tryz.ntmps92
 go_wp2_with fail
 go_ret
 exact ⟨rfl, Blk.new _ _ _, (Below.refl _ _).alloc (Nat.le_refl _) _, by simp⟩
theorem last_cases {s s' : Pg.St} {l l' : List Nat} {b : List UInt8} {e : Int} (h : Pg.last s l b = (s', l', e)) :
  (b = [] ∧ s' = s ∧ l' = l ∧ e = 0) ∨ (b ≠ [] ∧ Pg.free1 s = none ∧ s' = s ∧ l' = l ∧ e = 4) ∨ (b ≠ [] ∧ ∃ i, Pg.free1 s = some i ∧ s' = s.set i (some (Pg.page i b)) ∧ l' = l ++ [i] ∧ e = 0) := by
 unfold Pg.last at h
 split at h
 ·injection h with h1 h2
  injection h2 with h2 h3
  exact .inl ⟨by assumption, h1.symm, h2.symm, h3.symm⟩
 ·split at h
  ·injection h with h1 h2
   injection h2 with h2 h3
   exact .inr (.inl ⟨by assumption, by assumption, h1.symm, h2.symm, h3.symm⟩)
  ·injection h with h1 h2
   injection h2 with h2 h3
   exact .inr (.inr ⟨by assumption, _, by assumption, h1.symm, h2.symm, h3.symm⟩)
set_option maxHeartbeats 4000000 in
set_option maxRecDepth 100000 in
theorem done_c (S : Nat → Prop) (B bs bw : Nat) (s s' : Pg.St) (l l' : List Nat) (k ic : Nat) (I : Option Addr) (rest : List UInt8) (n rc : Nat) (R : Option Addr) (many : Int) (er : Int) (w : World) (h : WrAt w S bs bw l k ic I rest n rc R many false) (hs : Sto w B bs s) (hB : B ≤ w.heap.size) (hmine : Pg.Mine s l) (hy : ∀ j, w.heap.size ≤ j → S j) (hn : n ≤ 56) (hlast : Pg.last s l rest = (s', l', er)) :
  Calls Tryz.prog 95 #[.pointer (some ⟨bw, 0, none⟩)] w fun e w' => ((er = 0 ∧ ∃ bf k' ic' I', e = .returned (.tuple #[.pointer (some ⟨bf, 0, none⟩), .int .i64 0]) ∧ Sto w' B bs s' ∧ FiAt w' S bs bf l' k' ic' I' many ∧ WrAt w' S bs bw l' k' ic' I' rest n rc R many true) ∨
   (er = 4 ∧ e = .returned (.tuple #[.pointer none, .int .i64 4]) ∧ Sto w' B bs (Pg.dropS s' (l'.map Int.ofNat)) ∧ ∃ k' ic' I', WrAt w' S bs bw l' k' ic' I' rest n rc R many true)) ∧ Turns S StT B w w' := by
 have hc := Lib.hid (closed_any S bs bw l k ic I rest n rc R many false w h)
 have hnl := h.nlen
 have hk : k ≤ 4096 := by have := h.klen; have := hmine.max; have := sto_len hs; omega
 have q2 := h.blk.cell 2
 simp only [List.getElem?_cons_zero, List.getElem?_cons_succ] at q2
 have H := Lib.hid h
 have Hs := Lib.hid hs
 rcases last_cases hlast with ⟨hr, e1, e2, e3⟩ | ⟨hr, hf, e1, e2, e3⟩ | ⟨hr, i, hf, e1, e2, e3⟩
 ·obtain rfl : n = 0 := by rw [← hnl, hr]; rfl
  have f4 := h.blk.frozen 4
  have q4 := h.blk.cell 4
  simp only [List.getElem?_cons_zero, List.getElem?_cons_succ] at q4
  have h1 := h.end_
  have hs1 := hs.keeps (h.kw 4 (.bool true)) (by decide)
  have ht1 := Turns.setCell (T := StT) (B := B) w (i := 4) h.sw (.bool true)
  subst e1; subst e2; subst e3
  clear h hs hlast hnl hr hmine
  go_enter Tryz.func95, Tryz.ntmps95
  go_wp2_with fail
  refine hc.out.mono ?_
  rintro e w1 ⟨rfl, rfl⟩
  go_wp2_with fail
  have c0 := h1.blk.cell 0
  have c1 := h1.blk.cell 1
  have c3 := h1.blk.cell 3
  simp only [List.getElem?_cons_zero, List.getElem?_cons_succ] at c0 c1 c3
  have H1 := Lib.hid h1
  have Hs1 := Lib.hid hs1
  have Ht1 := Lib.hid ht1
  clear h1 hs1 ht1 q2 f4 q4
  generalize w.setCell ⟨bw, 4, none⟩ (.bool true) = w2 at *
  go_region
  go_wp2_with fail
  go_ret2
  have hz := Ht1.out.size
  exact ⟨.inl ⟨trivial, _, _, _, _, rfl, Hs1.out.below (below_box w2 _), ⟨hy _ (by omega), Blk.new w2.drew _ _, Own.below H1.out.ids (below_box w2 _), H1.out.inI⟩, H1.out.below (below_box w2 _)⟩, Ht1.out.trans (Turns.of_below (below_box w2 _))⟩
 ·have hnp : 0 < n := by
   rw [← hnl]
   exact List.length_pos_iff.2 hr
  have hp := Lib.hid (page_no S B bs bw s l k ic I rest n rc R many R n rc w h hs hB hmine.in_ hk hf)
  subst e1; subst e2; subst e3
  clear h hs hlast hnl hr hmine hf
  go_enter Tryz.func95, Tryz.ntmps95
  go_wp2_with fail
  refine hc.out.mono ?_
  rintro e w1 ⟨rfl, rfl⟩
  go_wp2_with fail
  refine hp.out.mono ?_
  rintro e w2 ⟨rfl, hs2, h2, ht2⟩
  have Hs2 := Lib.hid hs2
  have H2 := Lib.hid h2
  have Ht2 := Lib.hid ht2
  clear hs2 h2 ht2
  go_wp2_with fail
  go_ret2
  exact ⟨.inr ⟨trivial, rfl, Hs2.out, _, _, _, H2.out⟩, Ht2.out⟩
 ·have hnp : 0 < n := by
   rw [← hnl]
   exact List.length_pos_iff.2 hr
  have hp := Lib.hid (page_yes S B bs bw s l k ic I rest n rc R many R rest n rc i w h hs hB h.rst hn hk hy hf)
  subst e1; subst e2; subst e3
  clear h hs hlast hnl hr hmine hf
  go_enter Tryz.func95, Tryz.ntmps95
  go_wp2_with fail
  refine hc.out.mono ?_
  rintro e w1 ⟨rfl, rfl⟩
  go_wp2_with fail
  refine hp.out.mono ?_
  rintro e w2 ⟨rfl, hs2, ⟨I2, ic2, h2⟩, ht2⟩
  have f4 := h2.blk.frozen 4
  have q4 := h2.blk.cell 4
  simp only [List.getElem?_cons_zero, List.getElem?_cons_succ] at q4
  have h3 := h2.end_
  have hs3 := hs2.keeps (h2.kw 4 (.bool true)) (by decide)
  have ht3 := ht2.trans (Turns.setCell (T := StT) (B := B) w2 (i := 4) h2.sw (.bool true))
  have c0 := h3.blk.cell 0
  have c1 := h3.blk.cell 1
  have c3 := h3.blk.cell 3
  simp only [List.getElem?_cons_zero, List.getElem?_cons_succ] at c0 c1 c3
  have H3 := Lib.hid h3
  have Hs3 := Lib.hid hs3
  have Ht3 := Lib.hid ht3
  clear h3 hs3 ht3 h2 hs2 ht2 q2
  go_wp2_with fail
  clear f4 q4
  generalize w2.setCell ⟨bw, 4, none⟩ (.bool true) = w3 at *
  go_region
  go_wp2_with fail
  go_ret2
  have hz := Ht3.out.size
  exact ⟨.inl ⟨trivial, _, _, _, _, rfl, Hs3.out.below (below_box w3 _), ⟨hy _ (by omega), Blk.new w3.drew _ _, Own.below H3.out.ids (below_box w3 _), H3.out.inI⟩, H3.out.below (below_box w3 _)⟩, Ht3.out.trans (Turns.of_below (below_box w3 _))⟩
end Go.Proofs.YtcadjekcdokkjaaGreat
namespace Go.Proofs.YtcadjekcdokkjaaGreat
set_option linter.unusedVariables false
set_option linter.unusedSimpArgs false
open Go.RowKit
attribute [local go_sem ↓] Go.wp_at_zero Go.wp_at_succ
theorem qi_nil (w : World) (A : Option Addr) (n c n' c' : Nat) : (binOp .eql 57 (.slice A n c) (.slice none n' c')).run Tryz.prog w = .ok (.bool A.isNone) w := by
 have hu : Tryz.prog.underlying 57 = some (.slice 3) := by kernel_rfl
 exact Lib.run_eql_slice_nil w 57 3 A n c n' c' hu
set_option maxRecDepth 100000 in
theorem clonei_any (l : List Nat) (n c : Nat) (A : Option Addr) (w : World) (hn : l.length = n) (hr : Rd w A (Is l)) (hl : n ≤ 1000000) :
  Calls Tryz.prog 96 #[.slice A n c] w fun e w' => ∃ A' c', e = .returned (.slice A' n c') ∧ Own w' w.heap.size 3 1 A' n c' (Is l) ∧ Below w.heap.size w w' := by
 have Hn := Lib.hid hn
 clear hn
 cases A with
 | none =>
  have h0 : l = [] := by
   refine Classical.byContradiction fun hne => ?_
   obtain ⟨b, o, h, _⟩ := hr (by simpa using hne)
   cases h
  subst h0
  obtain rfl : 0 = n := Hn.out
  have hq := fun w => qi_nil w none 0 c 0 0
  rw [Option.isNone_none] at hq
  go_enter Tryz.func96, Tryz.ntmps96
  go_wp2_with fail
  go_ret
  exact ⟨none, 0, rfl, Own.nil _ _ _ _, Below.refl _ _⟩
 | some a =>
  have ho1 : Own (w.alloc (.cells #[] 3)) w.heap.size 3 1 (some ⟨w.heap.size, 0, none⟩) 0 0 [] := World.ownsRow_made w #[] 0 (Nat.le_refl _) (by unfold maxLen; omega) rfl
  have hbA : Below w.heap.size w (w.alloc (.cells #[] 3)) := (Below.refl _ _).alloc (Nat.le_refl _) _
  have hq := fun w => qi_nil w (some a) n c 0 0
  rw [Option.isNone_some] at hq
  go_enter Tryz.func96, Tryz.ntmps96
  go_wp2_with (first | (at_builtin; refine hold ?_) | (at_make; refine hold ?_))
  (with_reducible refine unhold ?_)
  refine wpList_apd rfl _ _ _ rfl Eint w.heap.size _ 0 _ [] rfl ho1 _ n _ (Is l) rfl (by rw [List.length_map, Hn.out, Nat.mul_one]) (hr.below hbA) (Is_one l) n (Nat.zero_add _) (Is l) rfl (by omega) (by omega) hbA.size ?_
  intro A2 c2 w2 ho2 hg2 _
  have hb2 := hbA.grown hg2 hbA.size ho1.row_ge
  go_wp2_with fail
  go_ret
  exact ⟨_, _, rfl, ho2, hb2⟩
end Go.Proofs.YtcadjekcdokkjaaGreat
namespace Go.Proofs.YtcadjekcdokkjaaGreat
set_option linter.unusedVariables false
set_option linter.unusedSimpArgs false
open Go.RowKit
attribute [local go_sem ↓] Go.wp_at_zero Go.wp_at_succ
theorem Rows.hdr {w : World} {hs : List Value} {rs : List RowM} {X : Option Addr} (h : Rows w hs rs) (hX : Rd w X hs) {j : Nat} (hj : j < rs.length) :
  ∃ b o E c, X = some ⟨b, o, none⟩ ∧ w.cell? ⟨b, o + j, none⟩ = some (.slice E rs[j].length c) ∧ rs[j].length ≤ c ∧ c ≤ maxLen ∧ Rd w E (rcells rs[j]) ∧ ∀ v ∈ rs[j], v.ok := by
 obtain ⟨E, c, h1, h2, h3, h4, h5⟩ := h.at_ j _ (List.getElem?_eq_getElem hj)
 obtain ⟨b, o, rfl, _, _, hc⟩ := hX.get (k := j) (by rw [h.len]; exact hj)
 have : hs[j]'(by rw [h.len]; exact hj) = .slice E rs[j].length c := by
  rw [List.getElem?_eq_getElem (by rw [h.len]; exact hj)] at h1
  exact Option.some.inj h1
 rw [this] at hc
 exact ⟨b, o, E, c, rfl, hc, h2, h3, h4, h5⟩
theorem run_drop {s : Pg.St} {l : List Nat} {b : List UInt8} {rs : List RowM} {j : Nat} (hj : j < rs.length) : Pg.run s l b (rs.drop j) = Pg.run s l b (rs[j] :: rs.drop (j + 1)) := by
 rw [← List.drop_eq_getElem_cons hj]
theorem put_last {s s1 s2 : Pg.St} {l1 l2 : List Nat} {b1 : List UInt8} {er : Int} {rs : List RowM} (h : Pg.run s [] [] rs = Pg.run s1 l1 b1 []) (hl : Pg.last s1 l1 b1 = (s2, l2, er)) :
  Pg.putRE s rs = er ∧ (er = 0 → Pg.putRL s rs = l2 ∧ Pg.putRS s rs = s2) ∧ (er = 4 → Pg.putRS s rs = Pg.dropS s2 (l2.map Int.ofNat)) := by
 rw [Pg.run] at h
 rcases last_cases hl with ⟨hr, rfl, rfl, rfl⟩ | ⟨hr, hf, rfl, rfl, rfl⟩ | ⟨hr, i, hf, rfl, rfl, rfl⟩
 ·subst hr
  obtain ⟨h1, h2, h3⟩ := Pg.putR_none h
  exact ⟨h1, fun _ => ⟨h2, h3⟩, fun h => by cases h⟩
 ·obtain ⟨h1, h2, h3⟩ := Pg.putR_full h hr hf
  exact ⟨h1, (fun h => by cases h), fun _ => h3⟩
 ·obtain ⟨h1, h2, h3⟩ := Pg.putR_some h hr hf
  exact ⟨h1, fun _ => ⟨h2, h3⟩, fun h => by cases h⟩
def PutOK (S : Nat → Prop) (B bs : Nat) (s : Pg.St) (rs : List RowM) (n : Nat) (e : Ending) (w' : World) : Prop :=
 (Pg.putRE s rs = 0 ∧ ∃ bf k ic I, e = .returned (.tuple #[.pointer (some ⟨bf, 0, none⟩), .int .i64 0]) ∧ FiAt w' S bs bf (Pg.putRL s rs) k ic I (n : Nat)) ∨
 (Pg.putRE s rs ≠ 0 ∧ e = .returned (.tuple #[.pointer none, .int .i64 (Pg.putRE s rs)]))
set_option maxHeartbeats 4000000 in
set_option maxRecDepth 100000 in
theorem sput_c (B bs : Nat) (s : Pg.St) (rs : List RowM) (hs : List Value) (n c : Nat) (X : Option Addr) (w : World) (hsto : Sto w B bs s) (hB : B ≤ w.heap.size) (hn : rs.length = n) (hrows : ∀ w', Keeps StT B w w' → Rd w' X hs ∧ Rows w' hs rs) (hn9 : n ≤ 1000) (hnc : n ≤ c) (hcm : c ≤ 9223372036854775807) :
  Calls Tryz.prog 76 #[.pointer (some ⟨bs, 0, none⟩), .slice X n c] w fun e w' => PutOK (fun k => w.heap.size ≤ k) B bs s rs n e w' ∧ Sto w' B bs (Pg.putRS s rs) ∧ Keeps StT B w w' := by
 have Hn := Lib.hid hn
 have Hsto := Lib.hid hsto
 have Hrows := Lib.hid hrows
 have hml := sto_len hsto
 obtain ⟨S, hS⟩ : ∃ S : Nat → Prop, S = fun k => w.heap.size ≤ k := ⟨_, rfl⟩
 have HS := Lib.hid hS
 rw [← hS]
 have hy : ∀ j, w.heap.size ≤ j → S j := fun j hj => by rw [hS]; exact hj
 have Hy := Lib.hid hy
 have HSw : Hid (∀ k, S k → w.heap.size ≤ k) := fun k hk => by rw [hS] at hk; exact hk
 clear hn hsto hrows hS hy
 go_enter Tryz.func76, Tryz.ntmps76
 go_wp2_with fail
 refine (new_c (some ⟨bs, 0, none⟩) w).mono ?_
 rintro e w1 ⟨rfl, hb, hb1, hlt1⟩
 have hW1 : WrAt w1 S bs w.heap.size [] 0 0 none [] 0 0 none ((0 : Nat) : Int) false := ⟨Hy.out _ (Nat.le_refl _), hb, Own.nil _ _ _ _, InS.nil _, OwnX.nil _ _ _, InS.nil _⟩
 have Ht1 := Lib.hid (Turns.of_below (S := S) (T := StT) (B := B) hb1)
 have Hs1 := Lib.hid (Hsto.out.below hb1)
 have HW1 := Lib.hid hW1
 obtain ⟨bw, hbw⟩ : ∃ x, x = w.heap.size := ⟨_, rfl⟩
 have Hbw := Lib.hid hbw
 rw [← hbw] at hb HW1 hlt1
 have hBw : bw ≤ w.heap.size := Nat.le_of_eq hbw
 rw [← hbw]
 clear hb hW1 hbw
 have HSk : Hid (∀ k, S k → bw ≤ k) := fun k hk => Nat.le_trans hBw (HSw.out k hk)
 have Hrun0 : Hid (Pg.run s [] [] rs = Pg.run s [] [] (rs.drop 0)) := by show _ = _; rw [List.drop_zero]
 have hz1 := Ht1.out.size
 go_wp2_with fail
 go_loopw [14] (fun i wr => ∃ (j : Nat) (s1 : Pg.St) (l1 : List Nat) (b1 : List UInt8) (k1 ic1 n1 rc1 : Nat) (I1 R1 : Option Addr), j ≤ n ∧ i = .int .i64 j ∧ WrAt wr S bs bw l1 k1 ic1 I1 b1 n1 rc1 R1 ((j : Nat) : Int) false ∧ Sto wr B bs s1 ∧ Turns S StT B w wr ∧ Pg.Mine s1 l1 ∧ n1 < 56 ∧ Hid (Pg.run s [] [] rs = Pg.run s1 l1 b1 (rs.drop j))) (fun i _ => n - (intOf i).toNat)
 case atStart => exact ⟨0, s, [], [], 0, 0, 0, 0, none, none, by omega, rfl, HW1.out, Hs1.out, Ht1.out, Pg.Mine.nil s, by omega, Hrun0.out⟩
 case round =>
  obtain ⟨j, s1, l1, b1, k1, ic1, n1, rc1, I1, R1, hj, rfl, h1, hs1, ht1, hm1, hn1, hrun⟩ := hrel
  have hzr := ht1.size
  obtain ⟨hXr, hRr⟩ := Hrows.out wr (ht1.keeps (fun k hk => HSw.out k hk))
  have hyr : ∀ i, wr.heap.size ≤ i → S i := fun i hi => Hy.out i (by omega)
  have hk1 : k1 ≤ 4096 := by have := h1.klen; have := hm1.max; have := sto_len hs1; omega
  by_cases hlt : j < n
  ·have hjl : j < rs.length := by rw [Hn.out]; exact hlt
   obtain ⟨gx, ox, E, d, rfl, hcx, hd1, hd2, hrE, hokE⟩ := hRr.hdr hXr hjl
   rw [run_drop hjl] at hrun
   generalize rs[j] = r at *
   generalize hrl : r.length = rl at *
   have Hrl := Lib.hid hrl
   clear hrl hXr hRr hjl
   by_cases hmay : mayR r = 0
   ·obtain ⟨s2, l2, b2, hlay⟩ : ∃ s2 l2 b2, Pg.lay s1 l1 (b1 ++ rowB r) = (s2, l2, b2) := ⟨_, _, _, rfl⟩
    have hadd := Lib.hid (add_c S B bs bw s1 s2 l1 l2 k1 ic1 I1 b1 b2 n1 rc1 R1 j r rl d E wr h1 hs1 (Nat.le_trans hB hzr) hm1 hyr (by omega) (by omega) Hrl.out hrE hokE hmay hlay)
    have hm2 : Pg.Mine s2 l2 := by have := Pg.Mine.lay _ (Nat.le_refl (b1 ++ rowB r).length) hm1; rw [hlay] at this; exact this
    have Ht1 := Lib.hid ht1
    by_cases hb2 : b2.length < 56
    ·have hon : Hid (Pg.run s [] [] rs = Pg.run s2 l2 b2 (rs.drop (j + 1))) := hrun.out.trans (Pg.run_on hmay hlay hb2)
     have Hb2 := Lib.hid hb2
     have Hm2 := Lib.hid hm2
     clear h1 hs1 ht1 hm1 hrE hokE hmay hlay hrun hb2 hm2 hyr
     go_wp2_with fail
     refine hadd.out.mono ?_
     rintro e w2 ⟨⟨k2, ic2, I2, n2, rc2, R2, h⟩, ht2⟩
     obtain ⟨_, rfl, hs2, h2⟩ : b2.length < 56 ∧ e = .returned (.int .i64 0) ∧ Sto w2 B bs s2 ∧ WrAt w2 S bs bw l2 k2 ic2 I2 b2 n2 rc2 R2 ((j + 1 : Nat) : Int) false := by
      rcases h with h | ⟨h, _⟩
      ·exact h
      ·exact absurd Hb2.out (by omega)
     have H2 := Lib.hid h2
     have Hs2 := Lib.hid hs2
     have Ht2 := Lib.hid (Ht1.out.trans ht2)
     clear h h2 hs2 ht2
     go_wp2_with fail
     go_roundw
     case rel => exact ⟨j + 1, s2, l2, b2, k2, ic2, n2, rc2, I2, R2, by omega, by go_num, H2.out, Hs2.out, Ht2.out, Hm2.out, by have := H2.out.nlen; have := Hb2.out; omega, hon.out⟩
     case measure => simp [intOf]; omega
    ·have hfull : Pg.run s [] [] rs = (s2, l2, b2, 4) := hrun.out.trans (Pg.run_full hmay hlay (by omega))
     have hbad := Lib.hid (Pg.putR_bad hfull (by decide))
     have Hb2 := Lib.hid hb2
     clear h1 hs1 ht1 hm1 hrE hokE hmay hlay hrun hb2 hm2 hyr hfull
     go_wp2_with fail
     refine hadd.out.mono ?_
     rintro e w2 ⟨⟨k2, ic2, I2, n2, rc2, R2, h⟩, ht2⟩
     obtain ⟨_, rfl, hs2, h2⟩ : 56 ≤ b2.length ∧ e = .returned (.int .i64 4) ∧ Sto w2 B bs (Pg.dropS s2 (l2.map Int.ofNat)) ∧ WrAt w2 S bs bw l2 k2 ic2 I2 b2 n2 rc2 R2 ((j + 1 : Nat) : Int) true := by
      rcases h with ⟨h, _⟩ | h
      ·exact absurd h Hb2.out
      ·exact h
     have hcan := Lib.hid (cancel_ended S bs bw l2 k2 ic2 I2 b2 n2 rc2 R2 _ w2 h2)
     have Hs2 := Lib.hid hs2
     have Ht2 := Lib.hid (Ht1.out.trans ht2)
     clear h h2 hs2 ht2
     go_wp2_with fail
     refine hcan.out.mono ?_
     rintro e w3 ⟨rfl, rfl⟩
     go_wp2_with fail
     go_ret2
     refine ⟨.inr ⟨by rw [hbad.out.1]; decide, by rw [hbad.out.1]; rfl⟩, by rw [hbad.out.2.2]; exact Hs2.out, Ht2.out.keeps (fun k hk => HSw.out k hk)⟩
   ·have hfull : Pg.run s [] [] rs = (s1, l1, b1, mayR r) := hrun.out.trans (Pg.run_may hmay)
    have hbad := Lib.hid (Pg.putR_bad hfull hmay)
    have hadd := Lib.hid (add_bad S bs bw l1 k1 ic1 I1 b1 n1 rc1 R1 _ r rl d E wr h1 Hrl.out hrE hd1 (by unfold maxLen at hd2; omega) hmay)
    have hcan := Lib.hid (fun w' (hb : Below wr.heap.size wr w') => cancel_c S B bs bw s1 l1 k1 ic1 I1 b1 n1 rc1 R1 _ w' (h1.below hb) (hs1.below hb) (by have := hb.size; omega) hm1.in_ hk1)
    have Ht1 := Lib.hid ht1
    have hne : (mayR r != 0) = true := bne_iff_ne.2 hmay
    have hne' : Hid (mayR r ≠ 0) := hmay
    generalize mayR r = M at *
    clear h1 hs1 ht1 hm1 hrE hokE hrun hyr hfull hmay
    go_wp2_with fail
    refine hadd.out.mono ?_
    rintro e w2 ⟨rfl, hb2⟩
    have hc2 := Lib.hid (hcan.out w2 hb2)
    have Hb2 := Lib.hid hb2
    clear hcan hb2
    go_wp2_with fail
    refine hc2.out.mono ?_
    rintro e w3 ⟨rfl, hs3, h3, ht3⟩
    have Hs3 := Lib.hid hs3
    have Ht3 := Lib.hid ((Ht1.out.trans (Turns.of_below Hb2.out)).trans ht3)
    clear h3 hs3 ht3
    go_wp2_with fail
    go_ret2
    refine ⟨.inr ⟨by rw [hbad.out.1]; exact hne'.out, by rw [hbad.out.1]; rfl⟩, by rw [hbad.out.2.2]; exact Hs3.out, Ht3.out.keeps (fun k hk => HSw.out k hk)⟩
  ·obtain rfl : j = n := by omega
   have hdn : rs.drop j = [] := List.drop_eq_nil_of_le (by rw [Hn.out]; exact Nat.le_refl _)
   rw [hdn] at hrun
   obtain ⟨s2, l2, er, hlast⟩ : ∃ s2 l2 er, Pg.last s1 l1 b1 = (s2, l2, er) := ⟨_, _, _, rfl⟩
   have hdone := Lib.hid (done_c S B bs bw s1 s2 l1 l2 k1 ic1 I1 b1 n1 rc1 R1 _ er wr h1 hs1 (Nat.le_trans hB hzr) hm1 hyr (by omega) hlast)
   have hput : Hid (Pg.putRE s rs = er ∧ (er = 0 → Pg.putRL s rs = l2 ∧ Pg.putRS s rs = s2) ∧ (er = 4 → Pg.putRS s rs = Pg.dropS s2 (l2.map Int.ofNat))) := put_last hrun.out hlast
   have Ht1 := Lib.hid ht1
   clear h1 hs1 ht1 hm1 hrun hyr hlast hdn
   go_wp2_with fail
   refine hdone.out.mono ?_
   rintro e w2 ⟨h, ht2⟩
   have Ht2 := Lib.hid (Ht1.out.trans ht2)
   rcases h with ⟨rfl, bf, k2, ic2, I2, rfl, hs2, hf2, _⟩ | ⟨rfl, rfl, hs2, _⟩
   ·have Hs2 := Lib.hid hs2
    have Hf2 := Lib.hid hf2
    clear hs2 hf2 ht2
    go_wp2_with fail
    go_ret2
    refine ⟨.inl ⟨hput.out.1, bf, k2, ic2, I2, rfl, ?_⟩, ?_, Ht2.out.keeps (fun k hk => HSw.out k hk)⟩
    ·rw [(hput.out.2.1 trivial).1]; exact Hf2.out
    ·rw [(hput.out.2.1 trivial).2]; exact Hs2.out
   ·have Hs2 := Lib.hid hs2
    clear hs2 ht2
    go_wp2_with fail
    go_ret2
    refine ⟨.inr ⟨by rw [hput.out.1]; decide, by rw [hput.out.1]; rfl⟩, ?_, Ht2.out.keeps (fun k hk => HSw.out k hk)⟩
    rw [hput.out.2.2 trivial]; exact Hs2.out
end Go.Proofs.YtcadjekcdokkjaaGreat
