/- Walks: a writer of rows: how it lies in memory; a page of its own; canceling. Walks: a page of a writer's own. The walk of a writer's Add. -/
import Derived.Test.YtcadjekcdokkjaaGreatMSpBI
namespace Go.Proofs.YtcadjekcdokkjaaGreat
set_option linter.unusedVariables false
set_option linter.unusedSimpArgs false
open Go.RowKit
attribute [local go_sem ↓] Go.wp_at_zero Go.wp_at_succ
structure WrAt (w : World) (S : Nat → Prop) (bs bw : Nat) (l : List Nat) (k ic : Nat) (I : Option Addr) (rest : List UInt8) (n rc : Nat) (R : Option Addr) (many : Int) (ended : Bool) : Prop where
 sw : S bw
 blk : Blk w bw 149 [.pointer (some ⟨bs, 0, none⟩), .slice I k ic, .slice R n rc, .int .i64 many, .bool ended]
 ids : Own w 0 3 1 I k ic (Is l)
 inI : InS S I
 rst : OwnX w 0 5 R n rc (Bs rest)
 inR : InS S R
namespace WrAt
variable {w w' : World} {S : Nat → Prop} {bs bw : Nat} {l : List Nat} {k ic : Nat} {I : Option Addr} {rest : List UInt8} {n rc : Nat} {R : Option Addr} {many : Int} {ended : Bool}
theorem klen (h : WrAt w S bs bw l k ic I rest n rc R many ended) : l.length = k := by
 have := h.ids.1
 rw [Nat.mul_one, List.length_map] at this
 exact this
theorem nlen (h : WrAt w S bs bw l k ic I rest n rc R many ended) : rest.length = n := by
 have := h.rst.len
 rwa [List.length_map] at this
theorem keeps {T : List TypeId} {B : Nat} (h : WrAt w S bs bw l k ic I rest n rc R many ended) (hT : ∀ t ∈ [149, 3, 5], t ∉ T) (hk : Keeps T B w w') : WrAt w' S bs bw l k ic I rest n rc R many ended :=
 ⟨h.sw, h.blk.keeps (hT _ (by simp)) hk, Own.keeps h.ids (hT _ (by simp)) hk, h.inI, h.rst.keeps (hT _ (by simp)) hk, h.inR⟩
theorem below (h : WrAt w S bs bw l k ic I rest n rc R many ended) (hb : Below w.heap.size w w') : WrAt w' S bs bw l k ic I rest n rc R many ended :=
 ⟨h.sw, h.blk.below hb, Own.below h.ids hb, h.inI, h.rst.below hb, h.inR⟩
theorem drewN (h : WrAt w S bs bw l k ic I rest n rc R many ended) (d : Nat) : WrAt (w.drewN d) S bs bw l k ic I rest n rc R many ended := h.keeps (T := []) (B := 0) (by simp) ((Keeps.refl _ _ _).drewN d)
theorem kw (h : WrAt w S bs bw l k ic I rest n rc R many ended) (i : Nat) (u : Value) : Keeps [149] 0 w (w.setCell ⟨bw, i, none⟩ u) := (Keeps.refl _ _ _).setCell h.blk (by simp) (Nat.zero_le _) u
theorem end_ (h : WrAt w S bs bw l k ic I rest n rc R many ended) : WrAt (w.setCell ⟨bw, 4, none⟩ (.bool true)) S bs bw l k ic I rest n rc R many true :=
 ⟨h.sw, h.blk.set_ 4 _, Own.keeps h.ids (by decide) (h.kw 4 _), h.inI, h.rst.keeps (by decide) (h.kw 4 _), h.inR⟩
theorem more (h : WrAt w S bs bw l k ic I rest n rc R many ended) (m : Int) : WrAt (w.setCell ⟨bw, 3, none⟩ (.int .i64 m)) S bs bw l k ic I rest n rc R m ended :=
 ⟨h.sw, h.blk.set_ 3 _, Own.keeps h.ids (by decide) (h.kw 3 _), h.inI, h.rst.keeps (by decide) (h.kw 3 _), h.inR⟩
theorem putR {rest' : List UInt8} {n' rc' : Nat} {R' : Option Addr} (h : WrAt w S bs bw l k ic I rest n rc R many ended) (ho : OwnX w 0 5 R' n' rc' (Bs rest')) (hi : InS S R') : WrAt (w.setCell ⟨bw, 2, none⟩ (.slice R' n' rc')) S bs bw l k ic I rest' n' rc' R' many ended :=
 ⟨h.sw, h.blk.set_ 2 _, Own.keeps h.ids (by decide) (h.kw 2 _), h.inI, ho.keeps (by decide) (h.kw 2 _), hi⟩
end WrAt
theorem closed_any (S : Nat → Prop) (bs bw : Nat) (l : List Nat) (k ic : Nat) (I : Option Addr) (rest : List UInt8) (n rc : Nat) (R : Option Addr) (many : Int) (ended : Bool) (w : World) (h : WrAt w S bs bw l k ic I rest n rc R many ended) :
  Calls Tryz.prog 110 #[.pointer (some ⟨bw, 0, none⟩)] w fun e w' => e = .returned (.bool ended) ∧ w = w' := by
 have k0 := h.blk.cell 0
 have k4 := h.blk.cell 4
 simp only [List.getElem?_cons_zero, List.getElem?_cons_succ] at k0 k4
 clear h
 go_enter Tryz.func110, Tryz.ntmps110
 go_wp2_with fail
 go_ret
 exact ⟨rfl, rfl⟩
theorem cancel_ended (S : Nat → Prop) (bs bw : Nat) (l : List Nat) (k ic : Nat) (I : Option Addr) (rest : List UInt8) (n rc : Nat) (R : Option Addr) (many : Int) (w : World) (h : WrAt w S bs bw l k ic I rest n rc R many true) :
  Calls Tryz.prog 94 #[.pointer (some ⟨bw, 0, none⟩)] w fun e w' => e = .returned (.tuple #[]) ∧ w = w' := by
 have hc := Lib.hid (closed_any S bs bw l k ic I rest n rc R many true w h)
 clear h
 go_enter Tryz.func94, Tryz.ntmps94
 go_wp2_with fail
 refine hc.out.mono ?_
 rintro e w1 ⟨rfl, rfl⟩
 go_wp2_with fail
 go_end0
 exact ⟨rfl, rfl⟩
theorem cancel_c (S : Nat → Prop) (B bs bw : Nat) (s : Pg.St) (l : List Nat) (k ic : Nat) (I : Option Addr) (rest : List UInt8) (n rc : Nat) (R : Option Addr) (many : Int) (w : World) (h : WrAt w S bs bw l k ic I rest n rc R many false) (hs : Sto w B bs s) (hB : B ≤ w.heap.size) (hm : ∀ i ∈ l, i < s.length) (hmax : k ≤ 4096) :
  Calls Tryz.prog 94 #[.pointer (some ⟨bw, 0, none⟩)] w fun e w' => e = .returned (.tuple #[]) ∧ Sto w' B bs (Pg.dropS s (l.map Int.ofNat)) ∧ WrAt w' S bs bw l k ic I rest n rc R many true ∧ Turns S StT B w w' := by
 have hc := Lib.hid (closed_any S bs bw l k ic I rest n rc R many false w h)
 have h63 := (Own.cap h.ids)
 have k0 := h.blk.cell 0
 have k1 := h.blk.cell 1
 simp only [List.getElem?_cons_zero, List.getElem?_cons_succ] at k0 k1
 have hd := Lib.hid (fun (w' : World) (hs' : Sto w' B bs s) (hr : Rs StT B w' I (Js (l.map Int.ofNat))) (hB' : B ≤ w'.heap.size) => drop_c B bs s I (l.map Int.ofNat) k ic w' hs' (by rw [List.length_map]; exact h.klen) (by omega) hr (fun i hi => by
  obtain ⟨j, hj, rfl⟩ := List.mem_map.1 hi
  have := hm j hj
  have := sto_len hs
  constructor <;> simp <;> omega) hB')
 have hrs : Hid (∀ w', WrAt w' S bs bw l k ic I rest n rc R many false → Rs StT B w' I (Js (l.map Int.ofNat))) := fun w' h' => by rw [Js_Is]; exact Rs.of_own h'.ids (by decide)
 have H := Lib.hid h
 have Hs := Lib.hid hs
 clear h hs
 go_enter Tryz.func94, Tryz.ntmps94
 go_wp2_with fail
 refine hc.out.mono ?_
 rintro e w1 ⟨rfl, rfl⟩
 go_wp2_with fail
 go_region_held3 (fun w' => w'.cell? ⟨bw, 0, none⟩ = some (.pointer (some ⟨bs, 0, none⟩)) ∧ w'.cell? ⟨bw, 1, none⟩ = some (.slice I k ic))
  (first | exact ⟨k0, k1⟩ | exact ⟨j0, j1⟩)
  ((go_at_call 75; refine (hd.out _ (by exact Hs.out.drewN 1) (by exact hrs.out _ (H.out.drewN 1)) (by exact hB)).mono ?_; rintro e w2 ⟨rfl, hs2, hk2'⟩; have hk2 : Keeps StT B w w2 := ⟨hk2'.os, hk2'.tape, hk2'.output, hk2'.size, hk2'.block⟩; have h2 := H.out.keeps (by decide) hk2; have j0 := h2.blk.cell 0; have j1 := h2.blk.cell 1; simp only [List.getElem?_cons_zero, List.getElem?_cons_succ] at j0 j1))
 have kc := h2.blk.cell 4
 have kf := h2.blk.frozen 4
 simp only [List.getElem?_cons_zero, List.getElem?_cons_succ] at kc
 have H3 := Lib.hid h2.end_
 have Hs3 := Lib.hid (hs2.keeps (h2.kw 4 (.bool true)) (by decide))
 have Ht3 := Lib.hid ((Turns.of_keeps (S := S) hk2).trans (Turns.setCell (T := StT) (B := B) w2 (i := 4) h2.sw (.bool true)))
 clear h2 hk2 hk2' hs2
 go_wp2_with fail
 go_end0
 exact ⟨rfl, Hs3.out, H3.out, Ht3.out⟩
end Go.Proofs.YtcadjekcdokkjaaGreat
namespace Go.Proofs.YtcadjekcdokkjaaGreat
set_option linter.unusedVariables false
set_option linter.unusedSimpArgs false
open Go.RowKit
attribute [local go_sem ↓] Go.wp_at_zero Go.wp_at_succ
theorem own_inS {w : World} {S : Nat → Prop} {A A' : Option Addr} {n c n' c' : Nat} (h : (Value.slice A' n' c').ownBlock = (Value.slice A n c).ownBlock ∨ (Value.slice A' n' c').ownBlock = some w.heap.size) (ha : ∃ k : Option Nat, A = k.map fun g => ⟨g, 0, none⟩) (hA : InS S A) (hy : S w.heap.size) : InS S A' := by
 intro b o hb
 subst hb
 obtain ⟨k, rfl⟩ := ha
 rcases h with h | h
 ·cases k with
  | none => simp [Value.ownBlock] at h
  | some g =>
   simp [Value.ownBlock] at h
   rw [h]
   exact hA g 0 rfl
 ·simp [Value.ownBlock] at h
  rw [h]
  exact hy
theorem own_zero {w : World} {base : Nat} {e : TypeId} {size : Nat} {A : Option Addr} {n c : Nat} {xs : List Value} (h : Own w base e size A n c xs) : ∃ k : Option Nat, A = k.map fun g => ⟨g, 0, none⟩ := by
 rcases h.lies with ⟨h, _⟩ | ⟨g, _, h, _⟩
 ·exact ⟨none, h⟩
 ·exact ⟨some g, h⟩
theorem own_row {w : World} {base : Nat} {e : TypeId} {size : Nat} {S : Nat → Prop} {A : Option Addr} {n c : Nat} {xs : List Value} (h : Own w base e size A n c xs) (hA : InS S A) {k : Nat} (hk : (Value.slice A n c).ownBlock = some k) : S k := by
 obtain ⟨g, rfl⟩ := own_zero h
 cases g with
 | none => simp [Value.ownBlock] at hk
 | some g =>
  simp [Value.ownBlock] at hk
  subst hk
  exact hA g 0 rfl
theorem own_first {w : World} {base g o c i : Nat} (h : Own w base 3 1 (some ⟨g, o, none⟩) 1 c (Is [i])) : w.cell? ⟨g, o, none⟩ = some (.int .i64 (i : Int)) ∧ base ≤ g ∧ g < w.heap.size := by
 obtain ⟨g', o', e, _, _, hc⟩ := h.rd.get (k := 0) (by simp)
 injection e with e
 injection e with e1 e2
 subst e1; subst e2
 exact ⟨hc, (h.lt g rfl).1, (h.lt g rfl).2⟩
theorem page_no (S : Nat → Prop) (B bs bw : Nat) (s : Pg.St) (l : List Nat) (k ic : Nat) (I : Option Addr) (rest : List UInt8) (n rc : Nat) (R : Option Addr) (many : Int) (A : Option Addr) (bn bc : Nat) (w : World) (h : WrAt w S bs bw l k ic I rest n rc R many false) (hs : Sto w B bs s) (hB : B ≤ w.heap.size) (hm : ∀ i ∈ l, i < s.length) (hmax : k ≤ 4096) (hf : Pg.free1 s = none) :
  Calls Tryz.prog 115 #[.pointer (some ⟨bw, 0, none⟩), .slice A bn bc] w fun e w' => e = .returned (.int .i64 4) ∧ Sto w' B bs (Pg.dropS s (l.map Int.ofNat)) ∧ WrAt w' S bs bw l k ic I rest n rc R many true ∧ Turns S StT B w w' := by
 have hal := alloc_c B bs s 1 w hs (by omega) (by omega) hB
 obtain ⟨e1, e2, e3⟩ := Pg.free1_none hf
 rw [e1, e2, e3] at hal
 have Hal := Lib.hid hal
 have k0 := h.blk.cell 0
 simp only [List.getElem?_cons_zero, List.getElem?_cons_succ] at k0
 have H := Lib.hid h
 have Hm := Lib.hid hm
 clear hal h hs hf hm e1 e2 e3
 go_enter Tryz.func115, Tryz.ntmps115
 go_wp2_with fail
 refine Hal.out.mono ?_
 rintro e w1 ⟨A1, c1, rfl, ho1, hs1, hk1⟩
 have h1 := H.out.keeps (by decide) hk1
 have hc := Lib.hid (cancel_c S B bs bw s l k ic I rest n rc R many w1 h1 hs1 (Nat.le_trans hB hk1.size) Hm.out hmax)
 have Hk1 := Lib.hid hk1
 clear ho1 hs1 hk1 h1
 go_wp2_with fail
 refine hc.out.mono ?_
 rintro e w2 ⟨rfl, hs2, h2, ht2⟩
 have Hs2 := Lib.hid hs2
 have H2 := Lib.hid h2
 have Ht2 := Lib.hid ((Turns.of_keeps Hk1.out).trans ht2)
 clear hs2 h2 ht2
 go_wp2_with fail
 go_ret
 exact ⟨rfl, Hs2.out, H2.out, Ht2.out⟩
set_option maxHeartbeats 4000000 in
set_option maxRecDepth 100000 in
theorem page_yes (S : Nat → Prop) (B bs bw : Nat) (s : Pg.St) (l : List Nat) (k ic : Nat) (I : Option Addr) (rest : List UInt8) (n rc : Nat) (R : Option Addr) (many : Int) (A : Option Addr) (b : List UInt8) (bn bc i : Nat) (w : World) (h : WrAt w S bs bw l k ic I rest n rc R many false) (hs : Sto w B bs s) (hB : B ≤ w.heap.size) (hA : OwnX w 0 5 A bn bc (Bs b)) (hb : bn ≤ 56) (hmax : k ≤ 4096) (hy : ∀ j, w.heap.size ≤ j → S j) (hf : Pg.free1 s = some i) :
  Calls Tryz.prog 115 #[.pointer (some ⟨bw, 0, none⟩), .slice A bn bc] w fun e w' => e = .returned (.int .i64 0) ∧ Sto w' B bs (s.set i (some (Pg.page i b))) ∧ (∃ I' ic', WrAt w' S bs bw (l ++ [i]) (k + 1) ic' I' rest n rc R many false) ∧ Turns S StT B w w' := by
 have hal := alloc_c B bs s 1 w hs (by omega) (by omega) hB
 obtain ⟨e1, e2, e3, hi, _⟩ := Pg.free1_some hf
 rw [e1, e2, e3] at hal
 have Hal := Lib.hid hal
 have hbl : b.length = bn := by have := hA.len; rwa [List.length_map] at this
 have hwr := Lib.hid (fun w' (hs' : Sto w' B bs (s.set i (some (Pg.page i [])))) (hr' : OwnX w' 0 5 A bn bc (Bs b)) (hB' : B ≤ w'.heap.size) => write_c B bs _ (i : Int) A b bn bc w' hs' (by omega) (by have := sto_len hs; omega) hbl hr'.rd hB')
 have hwe := Lib.hid (Pg.write_new (s := s) (i := i) (b := b) hi (by omega))
 have k0 := h.blk.cell 0
 simp only [List.getElem?_cons_zero, List.getElem?_cons_succ] at k0
 have H := Lib.hid h
 have HA := Lib.hid hA
 clear hal h hs hf e1 e2 e3 hi hA hbl
 go_enter Tryz.func115, Tryz.ntmps115
 go_wp2_with fail
 refine Hal.out.mono ?_
 rintro e w1 ⟨A1, c1, rfl, ho1, hs1, hk1⟩
 have h1 := H.out.keeps (by decide) hk1
 have hA1 := HA.out.keeps (by decide) hk1
 obtain ⟨g1, o1, rfl, hg1, _, _⟩ := ho1.rd.get (k := 0) (by simp)
 have ci := (own_first ho1).1
 have hgb := (own_first ho1).2.1
 have hIlt : ∀ x, (Value.slice I k ic).ownBlock = some x → x < w.heap.size := fun x hx => (H.out.ids.lt x hx).2
 have Ho1 := Lib.hid ho1
 have hz1 := hk1.size
 have Hk1 := Lib.hid hk1
 have Hs1 := Lib.hid hs1
 have H1 := Lib.hid h1
 have HA1 := Lib.hid hA1
 have hk0 := h1.blk.cell 0
 have hk1' := h1.blk.cell 1
 simp only [List.getElem?_cons_zero, List.getElem?_cons_succ] at hk0 hk1'
 have hbw1 := h1.blk.lt
 clear k0 hk1 hs1 h1 hA1 ho1 Hal H HA
 go_wp2_with fail
 have hbW : Below w1.heap.size w1 (w1.alloc (.cells #[.int .i64 (i : Int)] 3)).drew := by go_grown
 have hW1 := hbW.size
 have HW := Lib.hid (H1.out.below hbW)
 have HnW := (Blk.new w1 3 #[.int .i64 (i : Int)]).range
 have HAW := Lib.hid (HA1.out.below hbW)
 have HsW := Lib.hid (Hs1.out.below hbW)
 have hw0 := HW.out.blk.cell 0
 have hw1 := HW.out.blk.cell 1
 have hwi := (hbW.cell (p := ⟨g1, o1, none⟩) hg1).trans ci
 simp only [List.getElem?_cons_zero, List.getElem?_cons_succ] at hw0 hw1
 go_region_law (refine step_apd rfl (.tmp 24) (.tmp 28) 57 rfl Eint 0 I k ic (Is l) (by simp [Act.eval, Act.put]) HW.out.ids (some ⟨w1.heap.size, 0, none⟩) 1 1 [.int .i64 (i : Int)] (by simp [Act.eval, Act.put]) rfl (fun _ => ⟨_, _, rfl, HnW⟩) (by simp [Value.oneCell']) (k + 1) rfl (Is (l ++ [i])) (by simp) (by omega) (by omega) (Nat.zero_le _) ?_; intro A4 c4 w4 ho4 hg4 hat4; have hj4 := (HW.out.blk.keeps (by decide) (Own.apd_keeps HW.out.ids hg4)).cell 1; have hj4f := (HW.out.blk.keeps (by decide) (Own.apd_keeps HW.out.ids hg4)).frozen 1)
 all_goals
  obtain ⟨w5, hw5⟩ : ∃ x, x = w4.setCell ⟨bw, 1, none⟩ (.slice A4 (k + 1) c4) := ⟨_, rfl⟩
  rw [← hw5]
  have hK4 := Own.apd_keeps HW.out.ids hg4
  have hB4 := HW.out.blk.keeps (by decide) hK4
  have hK5 : Keeps [149] 0 w4 w5 := by rw [hw5]; exact (Keeps.refl _ _ _).setCell hB4 (by simp) (Nat.zero_le _) _
  have h5 : WrAt w5 S bs bw (l ++ [i]) (k + 1) c4 A4 rest n rc R many false :=
   ⟨HW.out.sw, by rw [hw5]; exact hB4.set_ 1 _, Own.keeps ho4 (by decide) hK5, own_inS hat4 (own_zero HW.out.ids) HW.out.inI (hy _ (by omega)), (HW.out.rst.keeps (by decide) hK4).keeps (by decide) hK5, HW.out.inR⟩
  have hs5 := (HsW.out.keeps hK4 (by decide)).keeps hK5 (by decide)
  have hA5 := (HAW.out.keeps (by decide) hK4).keeps (by decide) hK5
  have ht5 : Turns S StT B w w5 := by
   refine ((Turns.of_keeps Hk1.out).trans (Turns.of_below hbW)).trans ((Turns.of_grown hg4 (fun x hx => own_row HW.out.ids HW.out.inI hx)).trans ?_)
   rw [hw5]
   exact Turns.setCell w4 HW.out.sw _
  have hz5 := ht5.size
  have c50 := h5.blk.cell 0
  simp only [List.getElem?_cons_zero] at c50
  have ho5 := Own.keeps (Own.far2 (Own.below Ho1.out hbW) hg4 (fun x hx hx' => by have := hIlt x hx'; have := (Ho1.out.lt x hx).1; omega)) (by decide) hK5
  have c5i := (own_first ho5).1
  have Ho5 := Lib.hid ho5
  have H5 := Lib.hid h5
  have Hs5 := Lib.hid hs5
  have HA5 := Lib.hid hA5
  have Ht5 := Lib.hid ht5
  clear h5 hs5 hA5 ht5 ho5 hK4 hB4 hK5 hat4 hg4 ho4 hw0 hw1 hwi HnW hj4 hj4f hw5 hk0 hk1' ci
  go_wp2_with fail
  go_region_held3 (fun w' => w'.cell? ⟨bw, 0, none⟩ = some (.pointer (some ⟨bs, 0, none⟩)) ∧ w'.cell? ⟨g1, o1, none⟩ = some (.int .i64 (i : Int)))
   (first | exact ⟨c50, c5i⟩ | exact ⟨j0, ji⟩)
   ((go_at_call 50; refine (hwr.out _ (by exact Hs5.out.drewN 1) (by exact HA5.out) (by exact Nat.le_trans hB hz5)).mono ?_; rintro e w6 ⟨rfl, hs6, hk6'⟩; have hk6 : Keeps StT B w5 w6 := ⟨hk6'.os, hk6'.tape, hk6'.output, hk6'.size, hk6'.block⟩; have h6 := H5.out.keeps (by decide) hk6; have j0 := h6.blk.cell 0; have ji := (own_first (Own.keeps Ho5.out (by decide) hk6)).1; simp only [List.getElem?_cons_zero] at j0))
  rw [hwe.out.2] at hs6
  go_wp2_with fail
  go_ret
  exact ⟨by rw [hwe.out.1]; rfl, hs6, ⟨_, _, h6⟩, Ht5.out.trans (Turns.of_keeps hk6)⟩
end Go.Proofs.YtcadjekcdokkjaaGreat
namespace Go.Proofs.YtcadjekcdokkjaaGreat
set_option linter.unusedVariables false
set_option linter.unusedSimpArgs false
open Go.RowKit
attribute [local go_sem ↓] Go.wp_at_zero Go.wp_at_succ
theorem may_cases {r : RowM} {n : Nat} (hn : r.length = n) : (32 < n ∧ mayR r = 3) ∨ (n ≤ 32 ∧ r.all rightV = false ∧ mayR r = 7) ∨ (n ≤ 32 ∧ r.all rightV = true ∧ mayR r = 0) := by
 unfold mayR
 by_cases h : 32 < n
 ·exact .inl ⟨h, by rw [if_pos (by omega)]⟩
 ·cases h2 : r.all rightV
  ·exact .inr (.inl ⟨by omega, rfl, by rw [if_neg (by omega)]; simp⟩)
  ·exact .inr (.inr ⟨by omega, rfl, by rw [if_neg (by omega)]; simp⟩)
set_option maxRecDepth 100000 in
theorem add_bad (S : Nat → Prop) (bs bw : Nat) (l : List Nat) (k ic : Nat) (I : Option Addr) (rest : List UInt8) (n rc : Nat) (R : Option Addr) (many : Int) (r : RowM) (rl c : Nat) (X : Option Addr) (w : World) (h : WrAt w S bs bw l k ic I rest n rc R many false) (hn : r.length = rl) (hX : Rd w X (rcells r)) (hc : rl ≤ c) (hc9 : c ≤ 9223372036854775807) (hm : mayR r ≠ 0) :
  Calls Tryz.prog 93 #[.pointer (some ⟨bw, 0, none⟩), .slice X rl c] w fun e w' => e = .returned (.int .i64 (mayR r)) ∧ Below w.heap.size w w' := by
 have hcl := Lib.hid (closed_any S bs bw l k ic I rest n rc R many false w h)
 have hmc := may_cases hn
 have hbad := Lib.hid (fun (h : rl ≤ 1000000) => rowbad_any r rl c X w hn hX h)
 generalize hM : mayR r = M at *
 clear h hn hX
 rcases hmc with ⟨h32, rfl⟩ | ⟨h32, ha, rfl⟩ | ⟨_, _, h0⟩
 ·clear hbad
  go_enter Tryz.func93, Tryz.ntmps93
  go_wp2_with fail
  refine hcl.out.mono ?_
  rintro e w1 ⟨rfl, rfl⟩
  go_wp2_with fail
  go_ret
  exact ⟨rfl, Below.refl _ _⟩
 ·rw [ha] at hbad
  go_enter Tryz.func93, Tryz.ntmps93
  go_wp2_with fail
  refine hcl.out.mono ?_
  rintro e w1 ⟨rfl, rfl⟩
  go_wp2_with fail
  refine (hbad.out (by omega)).mono ?_
  rintro e w2 ⟨rfl, hb2⟩
  go_wp2_with fail
  go_ret
  exact ⟨rfl, hb2⟩
 ·exact absurd h0 hm
def restLen (w : World) (bw : Nat) : Nat := match w.cell? ⟨bw, 2, none⟩ with | some (.slice _ n _) => n | _ => 0
theorem WrAt.restLen {w : World} {S : Nat → Prop} {bs bw : Nat} {l : List Nat} {k ic : Nat} {I : Option Addr} {rest : List UInt8} {n rc : Nat} {R : Option Addr} {many : Int} {ended : Bool} (h : WrAt w S bs bw l k ic I rest n rc R many ended) : restLen w bw = n := by
 have := h.blk.cell 2
 simp only [List.getElem?_cons_zero, List.getElem?_cons_succ] at this
 unfold Go.Proofs.YtcadjekcdokkjaaGreat.restLen
 rw [this]
set_option maxHeartbeats 4000000 in
set_option maxRecDepth 100000 in
theorem add_c (S : Nat → Prop) (B bs bw : Nat) (s s' : Pg.St) (l l' : List Nat) (k ic : Nat) (I : Option Addr) (rest b' : List UInt8) (n rc : Nat) (R : Option Addr) (many : Nat) (r : RowM) (rl c : Nat) (X : Option Addr) (w : World) (h : WrAt w S bs bw l k ic I rest n rc R many false) (hs : Sto w B bs s) (hB : B ≤ w.heap.size) (hmine : Pg.Mine s l) (hy : ∀ j, w.heap.size ≤ j → S j) (hrest : n ≤ 1000) (hmany : many ≤ 1000000) (hn : r.length = rl) (hX : Rd w X (rcells r)) (hok : ∀ v ∈ r, v.ok) (hm : mayR r = 0) (hlay : Pg.lay s l (rest ++ rowB r) = (s', l', b')) :
  Calls Tryz.prog 93 #[.pointer (some ⟨bw, 0, none⟩), .slice X rl c] w fun e w' => (∃ k' ic' I' n' rc' R', (b'.length < 56 ∧ e = .returned (.int .i64 0) ∧ Sto w' B bs s' ∧ WrAt w' S bs bw l' k' ic' I' b' n' rc' R' ((many + 1 : Nat) : Int) false) ∨
   (56 ≤ b'.length ∧ e = .returned (.int .i64 4) ∧ Sto w' B bs (Pg.dropS s' (l'.map Int.ofNat)) ∧ WrAt w' S bs bw l' k' ic' I' b' n' rc' R' ((many + 1 : Nat) : Int) true)) ∧ Turns S StT B w w' := by
 obtain ⟨h32, hall⟩ := may_right hm
 have hle := rowB_le hall hok h32
 rw [hn] at h32
 have hcl := Lib.hid (closed_any S bs bw l k ic I rest n rc R many false w h)
 have hbad := Lib.hid (rowbad_any r rl c X w hn hX (by omega))
 rw [List.all_eq_true.2 hall] at hbad
 have hby := Lib.hid (fun w' (h : Rd w' X (rcells r)) => bytes_any r rl c X w' hn h h32 hall hok)
 have hnl := h.nlen
 have H := Lib.hid h
 have Hs := Lib.hid hs
 have HX := Lib.hid hX
 have Hlay := Lib.hid hlay
 have Hmine := Lib.hid hmine
 generalize hL : (rowB r).length = L at hle
 have HL := Lib.hid hL
 clear h hn hX hok hm hlay hs hmine hall hL
 go_enter Tryz.func93, Tryz.ntmps93
 go_wp2_with fail
 refine hcl.out.mono ?_
 rintro e w1 ⟨rfl, rfl⟩
 go_wp2_with fail
 refine hbad.out.mono ?_
 rintro e w2 ⟨rfl, hb2⟩
 have h2 := H.out.below hb2
 have hs2 := Hs.out.below hb2
 have c2 := h2.blk.cell 2
 simp only [List.getElem?_cons_zero, List.getElem?_cons_succ] at c2
 have H2 := Lib.hid h2
 have Hs2 := Lib.hid hs2
 have HX2 := Lib.hid (HX.out.below hb2)
 have Ht2 := Lib.hid (Turns.of_below (S := S) (T := StT) (B := B) hb2)
 have hz2 := hb2.size
 clear h2 hs2 hb2 H Hs HX hcl hbad
 go_wp2_with fail
 go_region_law
  (first | (go_simp; go_at_call 114; refine (hby.out _ (by exact HX2.out.drewN 1)).mono ?_; rintro e w3 ⟨A3, L3, c3, rfl, hl3, ho3, hb3'⟩; have hb3 : Below w2.heap.size w2 w3 := ⟨hb3'.os, hb3'.tape, hb3'.output, hb3'.size, hb3'.block⟩; have h3 := H2.out.below hb3; have j2 := h3.blk.cell 2; simp only [List.getElem?_cons_zero, List.getElem?_cons_succ] at j2)
         | (refine step_apx rfl (.tmp 20) (.tmp 22) 36 rfl E8 0 R n rc (Bs rest) (by simp [Act.eval, Act.put]) h3.rst A3 L3 c3 (Bs (rowB r)) (by simp [Act.eval, Act.put]) (by rw [List.length_map]; exact hl3) ho3.rd (Bs_one _) (n + L3) rfl (Bs (rest ++ rowB r)) (by simp) (by have := HL.out; omega) (by omega) (Nat.zero_le _) ?_; intro A4 c4 w4 ho4 hg4 hat4; have j3 := (h3.blk.keeps (by decide) (h3.rst.apx_keeps hg4)).cell 2; have j3f := (h3.blk.keeps (by decide) (h3.rst.apx_keeps hg4)).frozen 2; simp only [List.getElem?_cons_zero, List.getElem?_cons_succ] at j3))
 ·obtain ⟨w5, hw5⟩ : ∃ x, x = w4.setCell ⟨bw, 2, none⟩ (.slice A4 (n + L3) c4) := ⟨_, rfl⟩
  rw [← hw5]
  have hK4 := h3.rst.apx_keeps hg4
  have hB4 := h3.blk.keeps (by decide) hK4
  have hK5 : Keeps [149] 0 w4 w5 := by rw [hw5]; exact (Keeps.refl _ _ _).setCell hB4 (by simp) (Nat.zero_le _) _
  have hz3 := hb3.size
  have h5 : WrAt w5 S bs bw l k ic I (rest ++ rowB r) (n + L3) c4 A4 (many : Int) false :=
   ⟨h3.sw, by rw [hw5]; exact hB4.set_ 2 _, Own.keeps (Own.keeps h3.ids (by decide) hK4) (by decide) hK5, h3.inI, ho4.keeps (by decide) hK5, hat4.inS h3.inR (fun j hj => hy j (by omega))⟩
  have hs5 := ((Hs2.out.below hb3).keeps hK4 (by decide)).keeps hK5 (by decide)
  have ht5 : Turns S StT B w w5 := by
   refine (Ht2.out.trans (Turns.of_below hb3)).trans ((Turns.of_grown hg4 (fun x hx => ?_)).trans ?_)
   ·obtain ⟨ad, ha, hx⟩ := Option.map_eq_some_iff.1 hx
    obtain ⟨g, off, rfl⟩ : ∃ g off, ad = ⟨g, off, none⟩ := by
     rcases h3.rst with ⟨h, _⟩ | ⟨g, off, ys, h, _⟩
     ·rw [h] at ha; cases ha
     ·rw [h] at ha; exact ⟨g, off, (Option.some.inj ha).symm⟩
    rw [← hx]
    exact h3.inR g off ha
   ·rw [hw5]
    exact Turns.setCell w4 h3.sw _
  obtain rfl : L3 = L := hl3.symm.trans HL.out
  have H5 := Lib.hid h5
  have Hs5 := Lib.hid hs5
  have Ht5 := Lib.hid ht5
  have c3 := h5.blk.cell 3
  have f3 := h5.blk.frozen 3
  simp only [List.getElem?_cons_zero, List.getElem?_cons_succ] at c3
  clear h5 hs5 ht5 hK4 hB4 hK5 hat4 hg4 ho4 hw5 j2 j3 j3f h3 ho3 hb3 hb3' hl3 c2 H2 Hs2 HX2 Ht2 hby HL
  go_wp2_with fail
  have h6 := H5.out.more ((many + 1 : Nat) : Int)
  have hs6 := Hs5.out.keeps (H5.out.kw 3 (.int .i64 ((many + 1 : Nat) : Int))) (by decide)
  have ht6 := Ht5.out.trans (Turns.setCell (S := S) (T := StT) (B := B) w5 (i := 3) H5.out.sw (.int .i64 ((many + 1 : Nat) : Int)))
  rw [show ((many + 1 : Nat) : Int) = (many : Int) + 1 from by omega] at h6 hs6 ht6
  obtain ⟨w6, hw6⟩ : ∃ x, x = w5.setCell ⟨bw, 3, none⟩ (.int .i64 ((many : Int) + 1)) := ⟨_, rfl⟩
  rw [← hw6] at h6 hs6 ht6 ⊢
  clear hw6 c3 f3 H5 Hs5 Ht5
  go_loopw [5] (fun x wr => (x = undef ∨ x = .int .i64 0) ∧ ∃ (s1 : Pg.St) (l1 : List Nat) (b1 : List UInt8) (k1 ic1 n1 rc1 : Nat) (I1 R1 : Option Addr), WrAt wr S bs bw l1 k1 ic1 I1 b1 n1 rc1 R1 ((many : Int) + 1) false ∧ Sto wr B bs s1 ∧ Turns S StT B w wr ∧ Hid (Pg.lay s1 l1 b1 = (s', l', b')) ∧ Pg.Mine s1 l1 ∧ n1 ≤ 40000) (fun _ wr => restLen wr bw)
  case atStart => exact ⟨.inl rfl, s, l, _, k, ic, n + L3, c4, I, A4, h6, hs6, ht6, Hlay.out, Hmine.out, by omega⟩
  case round =>
   obtain ⟨_, s1, l1, b1, k1, ic1, n1, rc1, I1, R1, h1, hs1, ht1, hlay1, hmine1, hn1⟩ := hrel
   have q2 := h1.blk.cell 2
   simp only [List.getElem?_cons_zero, List.getElem?_cons_succ] at q2
   have hnl1 := h1.nlen
   have hrl1 := h1.restLen
   have hk1 : k1 ≤ 4096 := by have := h1.klen; have := hmine1.max; have := sto_len hs1; omega
   have hcap := h1.rst.cap
   have hzw := ht1.size
   by_cases h56 : 56 ≤ n1
   ·obtain ⟨g, off, rfl, _, _⟩ := h1.rst.at_ (by omega)
    have hAt : OwnX wr 0 5 (some ⟨g, off, none⟩) 56 rc1 (Bs (b1.take 56)) := by
     have := h1.rst.take (k := 56) h56
     rwa [← List.map_take] at this
    cases hf : Pg.free1 s1 with
    | none =>
     have hp := Lib.hid (page_no S B bs bw s1 l1 k1 ic1 I1 b1 n1 rc1 _ ((many : Int) + 1) (some ⟨g, off, none⟩) 56 rc1 wr h1 hs1 (Nat.le_trans hB hzw) hmine1.in_ hk1 hf)
     have hend : Hid (Pg.lay s1 l1 b1 = (s1, l1, b1)) := Pg.lay_no hf
     have Ht1 := Lib.hid ht1
     clear h1 hs1 ht1 hAt hf hmine1
     go_wp2_with fail
     refine hp.out.mono ?_
     rintro e w7 ⟨rfl, hs7, h7, ht7⟩
     have Hs7 := Lib.hid hs7
     have H7 := Lib.hid h7
     have Ht7 := Lib.hid (Ht1.out.trans ht7)
     clear hs7 h7 ht7 hp
     go_wp2_with fail
     go_ret
     have e3 := hend.out.symm.trans hlay1.out
     injection e3 with e1 e3
     injection e3 with e2 e3
     subst e1; subst e2; subst e3
     exact ⟨⟨_, _, _, _, _, _, .inr ⟨by omega, rfl, Hs7.out, H7.out⟩⟩, Ht7.out⟩
    | some i =>
     have hp := Lib.hid (page_yes S B bs bw s1 l1 k1 ic1 I1 b1 n1 rc1 _ ((many : Int) + 1) (some ⟨g, off, none⟩) (b1.take 56) 56 rc1 i wr h1 hs1 (Nat.le_trans hB hzw) hAt (by omega) hk1 (fun j hj => hy j (by omega)) hf)
     have hnext : Hid (Pg.lay s1 l1 b1 = Pg.lay (s1.set i (some (Pg.page i (b1.take 56)))) (l1 ++ [i]) (b1.drop 56)) := Pg.lay_yes (by omega) hf
     have Hm2 := Lib.hid (hmine1.step hf (b1.take 56))
     have Ht1 := Lib.hid ht1
     clear h1 hs1 ht1 hAt hf hmine1
     go_wp2_with fail
     refine hp.out.mono ?_
     rintro e w7 ⟨rfl, hs7, ⟨I7, ic7, h7⟩, ht7⟩
     have j2 := h7.blk.cell 2
     have f2 := h7.blk.frozen 2
     simp only [List.getElem?_cons_zero, List.getElem?_cons_succ] at j2
     have Hs7 := Lib.hid hs7
     have H7 := Lib.hid h7
     have Ht7 := Lib.hid (Ht1.out.trans ht7)
     clear hs7 h7 ht7 hp q2
     by_cases hc : rc1 = 56
     ·obtain rfl : n1 = 56 := by omega
      have hd := H7.out.putR (rest' := []) H7.out.rst.dropAll H7.out.inR
      have hnil : b1.drop 56 = [] := List.drop_eq_nil_of_le (by omega)
      have Hnil := Lib.hid hnil
      clear hnil
      subst hc
      go_wp2_with fail
      go_roundw
      case rel => exact ⟨.inr rfl, _, _, _, _, _, _, _, _, _, hd, Hs7.out.keeps (H7.out.kw 2 _) (by decide), Ht7.out.trans (Turns.setCell w7 (i := 2) H7.out.sw _), by show _ = _; rw [← Hnil.out, ← hnext.out]; exact hlay1.out, Hm2.out, by omega⟩
      case measure =>
       have hr := hd.restLen
       clear hd
       rw [hrl1]
       refine Nat.lt_of_le_of_lt (Nat.le_of_eq hr) ?_
       omega
     ·have hd := H7.out.putR (rest' := b1.drop 56) (by have := H7.out.rst.drop (k := 56) h56; rwa [← List.map_drop] at this) (fun b o hb => by injection hb with hb; injection hb with hb; rw [← hb]; exact H7.out.inR g off rfl)
      go_wp2_with fail
      go_roundw
      case rel => exact ⟨.inr rfl, _, _, _, _, _, _, _, _, _, hd, Hs7.out.keeps (H7.out.kw 2 _) (by decide), Ht7.out.trans (Turns.setCell w7 (i := 2) H7.out.sw _), by show _ = _; rw [← hnext.out]; exact hlay1.out, Hm2.out, by omega⟩
      case measure =>
       have hr := hd.restLen
       clear hd
       rw [hrl1]
       refine Nat.lt_of_le_of_lt (Nat.le_of_eq hr) ?_
       omega
   ·have hend : Hid (Pg.lay s1 l1 b1 = (s1, l1, b1)) := Pg.lay_end (by omega)
    have Ht1 := Lib.hid ht1
    have Hs1 := Lib.hid hs1
    have H1 := Lib.hid h1
    clear h1 hs1 ht1 hmine1
    go_wp2_with fail
    go_ret
    have e3 := hend.out.symm.trans hlay1.out
    injection e3 with e1 e3
    injection e3 with e2 e3
    subst e1; subst e2; subst e3
    exact ⟨⟨_, _, _, _, _, _, .inl ⟨by omega, rfl, Hs1.out, H1.out⟩⟩, Ht1.out⟩
 ·obtain ⟨w5, hw5⟩ : ∃ x, x = w4.setCell ⟨bw, 2, none⟩ (.slice A4 (n + L3) c4) := ⟨_, rfl⟩
  rw [← hw5]
  have hK4 := h3.rst.apx_keeps hg4
  have hB4 := h3.blk.keeps (by decide) hK4
  have hK5 : Keeps [149] 0 w4 w5 := by rw [hw5]; exact (Keeps.refl _ _ _).setCell hB4 (by simp) (Nat.zero_le _) _
  have hz3 := hb3.size
  have h5 : WrAt w5 S bs bw l k ic I (rest ++ rowB r) (n + L3) c4 A4 (many : Int) false :=
   ⟨h3.sw, by rw [hw5]; exact hB4.set_ 2 _, Own.keeps (Own.keeps h3.ids (by decide) hK4) (by decide) hK5, h3.inI, ho4.keeps (by decide) hK5, hat4.inS h3.inR (fun j hj => hy j (by omega))⟩
  have hs5 := ((Hs2.out.below hb3).keeps hK4 (by decide)).keeps hK5 (by decide)
  have ht5 : Turns S StT B w w5 := by
   refine (Ht2.out.trans (Turns.of_below hb3)).trans ((Turns.of_grown hg4 (fun x hx => ?_)).trans ?_)
   ·obtain ⟨ad, ha, hx⟩ := Option.map_eq_some_iff.1 hx
    obtain ⟨g, off, rfl⟩ : ∃ g off, ad = ⟨g, off, none⟩ := by
     rcases h3.rst with ⟨h, _⟩ | ⟨g, off, ys, h, _⟩
     ·rw [h] at ha; cases ha
     ·rw [h] at ha; exact ⟨g, off, (Option.some.inj ha).symm⟩
    rw [← hx]
    exact h3.inR g off ha
   ·rw [hw5]
    exact Turns.setCell w4 h3.sw _
  obtain rfl : L3 = L := hl3.symm.trans HL.out
  have H5 := Lib.hid h5
  have Hs5 := Lib.hid hs5
  have Ht5 := Lib.hid ht5
  have c3 := h5.blk.cell 3
  have f3 := h5.blk.frozen 3
  simp only [List.getElem?_cons_zero, List.getElem?_cons_succ] at c3
  clear h5 hs5 ht5 hK4 hB4 hK5 hat4 hg4 ho4 hw5 j2 j3 j3f h3 ho3 hb3 hb3' hl3 c2 H2 Hs2 HX2 Ht2 hby HL
  go_wp2_with fail
  have h6 := H5.out.more ((many + 1 : Nat) : Int)
  have hs6 := Hs5.out.keeps (H5.out.kw 3 (.int .i64 ((many + 1 : Nat) : Int))) (by decide)
  have ht6 := Ht5.out.trans (Turns.setCell (S := S) (T := StT) (B := B) w5 (i := 3) H5.out.sw (.int .i64 ((many + 1 : Nat) : Int)))
  rw [show ((many + 1 : Nat) : Int) = (many : Int) + 1 from by omega] at h6 hs6 ht6
  obtain ⟨w6, hw6⟩ : ∃ x, x = w5.setCell ⟨bw, 3, none⟩ (.int .i64 ((many : Int) + 1)) := ⟨_, rfl⟩
  rw [← hw6] at h6 hs6 ht6 ⊢
  clear hw6 c3 f3 H5 Hs5 Ht5
  go_loopw [5] (fun x wr => (x = undef ∨ x = .int .i64 0) ∧ ∃ (s1 : Pg.St) (l1 : List Nat) (b1 : List UInt8) (k1 ic1 n1 rc1 : Nat) (I1 R1 : Option Addr), WrAt wr S bs bw l1 k1 ic1 I1 b1 n1 rc1 R1 ((many : Int) + 1) false ∧ Sto wr B bs s1 ∧ Turns S StT B w wr ∧ Hid (Pg.lay s1 l1 b1 = (s', l', b')) ∧ Pg.Mine s1 l1 ∧ n1 ≤ 40000) (fun _ wr => restLen wr bw)
  case atStart => exact ⟨.inl rfl, s, l, _, k, ic, n + L3, c4, I, A4, h6, hs6, ht6, Hlay.out, Hmine.out, by omega⟩
  case round =>
   obtain ⟨_, s1, l1, b1, k1, ic1, n1, rc1, I1, R1, h1, hs1, ht1, hlay1, hmine1, hn1⟩ := hrel
   have q2 := h1.blk.cell 2
   simp only [List.getElem?_cons_zero, List.getElem?_cons_succ] at q2
   have hnl1 := h1.nlen
   have hrl1 := h1.restLen
   have hk1 : k1 ≤ 4096 := by have := h1.klen; have := hmine1.max; have := sto_len hs1; omega
   have hcap := h1.rst.cap
   have hzw := ht1.size
   by_cases h56 : 56 ≤ n1
   ·obtain ⟨g, off, rfl, _, _⟩ := h1.rst.at_ (by omega)
    have hAt : OwnX wr 0 5 (some ⟨g, off, none⟩) 56 rc1 (Bs (b1.take 56)) := by
     have := h1.rst.take (k := 56) h56
     rwa [← List.map_take] at this
    cases hf : Pg.free1 s1 with
    | none =>
     have hp := Lib.hid (page_no S B bs bw s1 l1 k1 ic1 I1 b1 n1 rc1 _ ((many : Int) + 1) (some ⟨g, off, none⟩) 56 rc1 wr h1 hs1 (Nat.le_trans hB hzw) hmine1.in_ hk1 hf)
     have hend : Hid (Pg.lay s1 l1 b1 = (s1, l1, b1)) := Pg.lay_no hf
     have Ht1 := Lib.hid ht1
     clear h1 hs1 ht1 hAt hf hmine1
     go_wp2_with fail
     refine hp.out.mono ?_
     rintro e w7 ⟨rfl, hs7, h7, ht7⟩
     have Hs7 := Lib.hid hs7
     have H7 := Lib.hid h7
     have Ht7 := Lib.hid (Ht1.out.trans ht7)
     clear hs7 h7 ht7 hp
     go_wp2_with fail
     go_ret
     have e3 := hend.out.symm.trans hlay1.out
     injection e3 with e1 e3
     injection e3 with e2 e3
     subst e1; subst e2; subst e3
     exact ⟨⟨_, _, _, _, _, _, .inr ⟨by omega, rfl, Hs7.out, H7.out⟩⟩, Ht7.out⟩
    | some i =>
     have hp := Lib.hid (page_yes S B bs bw s1 l1 k1 ic1 I1 b1 n1 rc1 _ ((many : Int) + 1) (some ⟨g, off, none⟩) (b1.take 56) 56 rc1 i wr h1 hs1 (Nat.le_trans hB hzw) hAt (by omega) hk1 (fun j hj => hy j (by omega)) hf)
     have hnext : Hid (Pg.lay s1 l1 b1 = Pg.lay (s1.set i (some (Pg.page i (b1.take 56)))) (l1 ++ [i]) (b1.drop 56)) := Pg.lay_yes (by omega) hf
     have Hm2 := Lib.hid (hmine1.step hf (b1.take 56))
     have Ht1 := Lib.hid ht1
     clear h1 hs1 ht1 hAt hf hmine1
     go_wp2_with fail
     refine hp.out.mono ?_
     rintro e w7 ⟨rfl, hs7, ⟨I7, ic7, h7⟩, ht7⟩
     have j2 := h7.blk.cell 2
     have f2 := h7.blk.frozen 2
     simp only [List.getElem?_cons_zero, List.getElem?_cons_succ] at j2
     have Hs7 := Lib.hid hs7
     have H7 := Lib.hid h7
     have Ht7 := Lib.hid (Ht1.out.trans ht7)
     clear hs7 h7 ht7 hp q2
     by_cases hc : rc1 = 56
     ·obtain rfl : n1 = 56 := by omega
      have hd := H7.out.putR (rest' := []) H7.out.rst.dropAll H7.out.inR
      have hnil : b1.drop 56 = [] := List.drop_eq_nil_of_le (by omega)
      have Hnil := Lib.hid hnil
      clear hnil
      subst hc
      go_wp2_with fail
      go_roundw
      case rel => exact ⟨.inr rfl, _, _, _, _, _, _, _, _, _, hd, Hs7.out.keeps (H7.out.kw 2 _) (by decide), Ht7.out.trans (Turns.setCell w7 (i := 2) H7.out.sw _), by show _ = _; rw [← Hnil.out, ← hnext.out]; exact hlay1.out, Hm2.out, by omega⟩
      case measure =>
       have hr := hd.restLen
       clear hd
       rw [hrl1]
       refine Nat.lt_of_le_of_lt (Nat.le_of_eq hr) ?_
       omega
     ·have hd := H7.out.putR (rest' := b1.drop 56) (by have := H7.out.rst.drop (k := 56) h56; rwa [← List.map_drop] at this) (fun b o hb => by injection hb with hb; injection hb with hb; rw [← hb]; exact H7.out.inR g off rfl)
      go_wp2_with fail
      go_roundw
      case rel => exact ⟨.inr rfl, _, _, _, _, _, _, _, _, _, hd, Hs7.out.keeps (H7.out.kw 2 _) (by decide), Ht7.out.trans (Turns.setCell w7 (i := 2) H7.out.sw _), by show _ = _; rw [← hnext.out]; exact hlay1.out, Hm2.out, by omega⟩
      case measure =>
       have hr := hd.restLen
       clear hd
       rw [hrl1]
       refine Nat.lt_of_le_of_lt (Nat.le_of_eq hr) ?_
       omega
   ·have hend : Hid (Pg.lay s1 l1 b1 = (s1, l1, b1)) := Pg.lay_end (by omega)
    have Ht1 := Lib.hid ht1
    have Hs1 := Lib.hid hs1
    have H1 := Lib.hid h1
    clear h1 hs1 ht1 hmine1
    go_wp2_with fail
    go_ret
    have e3 := hend.out.symm.trans hlay1.out
    injection e3 with e1 e3
    injection e3 with e2 e3
    subst e1; subst e2; subst e3
    exact ⟨⟨_, _, _, _, _, _, .inl ⟨by omega, rfl, Hs1.out, H1.out⟩⟩, Ht1.out⟩
end Go.Proofs.YtcadjekcdokkjaaGreat
