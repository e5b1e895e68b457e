/- Walks: a writer of rows: how it lies in memory; a page of its own; canceling. Walks: a page of a writer's own. -/
import Derived.Test.YtjjmnjgkodiibaaMSpI
namespace Go.Proofs.Ytjjmnjgkodiibaa
open Go.RowKit

attribute [local go_sem ↓] Go.wp_at_zero Go.wp_at_succ

/-- A writer at block bw, onto the store at block bs: its pages, the bytes that no page holds yet. -/
structure WrAt (w : World) (S : Nat → Prop) (bs bw : Nat) (l : List Nat) (k ic : Nat) (I : Option Addr) (rest : List UInt8) (n rc : Nat) (R : Option Addr) (many : Int) (ended : Bool) : Prop where
  sw : S bw
  blk : Blk w bw 83 [.pointer (some ⟨bs, 0, none⟩), .slice I k ic, .slice R n rc, .int .i64 many, .bool ended]
  ids : Own w 0 3 1 I k ic (Is l)
  inI : InS S I
  rst : OwnX w 0 5 R n rc (Bs rest)
  inR : InS S R

namespace WrAt
variable {w w' : World} {S : Nat → Prop} {bs bw : Nat} {l : List Nat} {k ic : Nat} {I : Option Addr} {rest : List UInt8} {n rc : Nat} {R : Option Addr} {many : Int} {ended : Bool}
theorem klen (h : WrAt w S bs bw l k ic I rest n rc R many ended) : l.length = k := by
  have := h.ids.1
  rw [Nat.mul_one, List.length_map] at this
  exact this
theorem nlen (h : WrAt w S bs bw l k ic I rest n rc R many ended) : rest.length = n := by
  have := h.rst.len
  rwa [List.length_map] at this
theorem keeps {T : List TypeId} {B : Nat} (h : WrAt w S bs bw l k ic I rest n rc R many ended) (hT : ∀ t ∈ [83, 3, 5], t ∉ T) (hk : Keeps T B w w') : WrAt w' S bs bw l k ic I rest n rc R many ended :=
  ⟨h.sw, h.blk.keeps (hT _ (by simp)) hk, Own.keeps h.ids (hT _ (by simp)) hk, h.inI, h.rst.keeps (hT _ (by simp)) hk, h.inR⟩
theorem below (h : WrAt w S bs bw l k ic I rest n rc R many ended) (hb : Below w.heap.size w w') : WrAt w' S bs bw l k ic I rest n rc R many ended :=
  ⟨h.sw, h.blk.below hb, Own.below h.ids hb, h.inI, h.rst.below hb, h.inR⟩
theorem drewN (h : WrAt w S bs bw l k ic I rest n rc R many ended) (d : Nat) : WrAt (w.drewN d) S bs bw l k ic I rest n rc R many ended := h.keeps (T := []) (B := 0) (by simp) ((Keeps.refl _ _ _).drewN d)
theorem kw (h : WrAt w S bs bw l k ic I rest n rc R many ended) (i : Nat) (u : Value) : Keeps [83] 0 w (w.setCell ⟨bw, i, none⟩ u) := (Keeps.refl _ _ _).setCell h.blk (by simp) (Nat.zero_le _) u
/-- It is ended. -/
theorem end_ (h : WrAt w S bs bw l k ic I rest n rc R many ended) : WrAt (w.setCell ⟨bw, 4, none⟩ (.bool true)) S bs bw l k ic I rest n rc R many true :=
  ⟨h.sw, h.blk.set_ 4 _, Own.keeps h.ids (by decide) (h.kw 4 _), h.inI, h.rst.keeps (by decide) (h.kw 4 _), h.inR⟩
/-- One row more. -/
theorem more (h : WrAt w S bs bw l k ic I rest n rc R many ended) (m : Int) : WrAt (w.setCell ⟨bw, 3, none⟩ (.int .i64 m)) S bs bw l k ic I rest n rc R m ended :=
  ⟨h.sw, h.blk.set_ 3 _, Own.keeps h.ids (by decide) (h.kw 3 _), h.inI, h.rst.keeps (by decide) (h.kw 3 _), h.inR⟩
/-- Other pages. -/
theorem putI {l' : List Nat} {k' ic' : Nat} {I' : Option Addr} (h : WrAt w S bs bw l k ic I rest n rc R many ended) (ho : Own w 0 3 1 I' k' ic' (Is l')) (hi : InS S I') : WrAt (w.setCell ⟨bw, 1, none⟩ (.slice I' k' ic')) S bs bw l' k' ic' I' rest n rc R many ended :=
  ⟨h.sw, h.blk.set_ 1 _, Own.keeps ho (by decide) (h.kw 1 _), hi, h.rst.keeps (by decide) (h.kw 1 _), h.inR⟩
/-- Other bytes. -/
theorem putR {rest' : List UInt8} {n' rc' : Nat} {R' : Option Addr} (h : WrAt w S bs bw l k ic I rest n rc R many ended) (ho : OwnX w 0 5 R' n' rc' (Bs rest')) (hi : InS S R') : WrAt (w.setCell ⟨bw, 2, none⟩ (.slice R' n' rc')) S bs bw l k ic I rest' n' rc' R' many ended :=
  ⟨h.sw, h.blk.set_ 2 _, Own.keeps h.ids (by decide) (h.kw 2 _), h.inI, ho.keeps (by decide) (h.kw 2 _), hi⟩
end WrAt

theorem closed_nil (w : World) : Calls Try.prog 40 #[.pointer none] w fun e w' => e = .returned (.bool true) ∧ w = w' := by
  go_enter Try.func40, Try.ntmps40
  go_wp2_with fail
  go_ret
  exact ⟨rfl, rfl⟩
theorem closed_off (bw : Nat) (r1 r2 r3 r4 : Value) (w : World) (h : Blk w bw 83 [.pointer none, r1, r2, r3, r4]) : Calls Try.prog 40 #[.pointer (some ⟨bw, 0, none⟩)] w fun e w' => e = .returned (.bool true) ∧ w = w' := by
  have k0 := h.cell 0
  simp only [List.getElem?_cons_zero] at k0
  clear h
  go_enter Try.func40, Try.ntmps40
  go_wp2_with fail
  go_ret
  exact ⟨rfl, rfl⟩
theorem closed_any (S : Nat → Prop) (bs bw : Nat) (l : List Nat) (k ic : Nat) (I : Option Addr) (rest : List UInt8) (n rc : Nat) (R : Option Addr) (many : Int) (ended : Bool) (w : World) (h : WrAt w S bs bw l k ic I rest n rc R many ended) :
    Calls Try.prog 40 #[.pointer (some ⟨bw, 0, none⟩)] w fun e w' => e = .returned (.bool ended) ∧ w = w' := by
  have k0 := h.blk.cell 0
  have k4 := h.blk.cell 4
  simp only [List.getElem?_cons_zero, List.getElem?_cons_succ] at k0 k4
  clear h
  go_enter Try.func40, Try.ntmps40
  go_wp2_with fail
  go_ret
  exact ⟨rfl, rfl⟩

theorem cancel_ended (S : Nat → Prop) (bs bw : Nat) (l : List Nat) (k ic : Nat) (I : Option Addr) (rest : List UInt8) (n rc : Nat) (R : Option Addr) (many : Int) (w : World) (h : WrAt w S bs bw l k ic I rest n rc R many true) :
    Calls Try.prog 14 #[.pointer (some ⟨bw, 0, none⟩)] w fun e w' => e = .returned (.tuple #[]) ∧ w = w' := by
  have hc := Lib.hid (closed_any S bs bw l k ic I rest n rc R many true w h)
  clear h
  go_enter Try.func14, Try.ntmps14
  go_wp2_with fail
  refine hc.out.mono ?_
  rintro e w1 ⟨rfl, rfl⟩
  go_wp2_with fail
  go_end0
  exact ⟨rfl, rfl⟩

theorem cancel_c (S : Nat → Prop) (B bs bw : Nat) (s : Pg.St) (l : List Nat) (k ic : Nat) (I : Option Addr) (rest : List UInt8) (n rc : Nat) (R : Option Addr) (many : Int) (w : World) (h : WrAt w S bs bw l k ic I rest n rc R many false) (hs : Sto w B bs s) (hB : B ≤ w.heap.size) (hm : ∀ i ∈ l, i < s.length) (hmax : k ≤ 4096) :
    Calls Try.prog 14 #[.pointer (some ⟨bw, 0, none⟩)] w fun e w' => e = .returned (.tuple #[]) ∧ Sto w' B bs (Pg.dropS s (l.map Int.ofNat)) ∧ WrAt w' S bs bw l k ic I rest n rc R many true ∧ Turns S StT B w w' := by
  have hc := Lib.hid (closed_any S bs bw l k ic I rest n rc R many false w h)
  have h63 := (Own.cap h.ids)
  have k0 := h.blk.cell 0
  have k1 := h.blk.cell 1
  simp only [List.getElem?_cons_zero, List.getElem?_cons_succ] at k0 k1
  have hd := Lib.hid (fun (w' : World) (hs' : Sto w' B bs s) (hr : Rs StT B w' I (Js (l.map Int.ofNat))) (hB' : B ≤ w'.heap.size) => drop_c B bs s I (l.map Int.ofNat) k ic w' hs' (by rw [List.length_map]; exact h.klen) (by omega) hr (fun i hi => by
    obtain ⟨j, hj, rfl⟩ := List.mem_map.1 hi
    have := hm j hj
    have := sto_len hs
    constructor <;> simp <;> omega) hB')
  have hrs : Hid (∀ w', WrAt w' S bs bw l k ic I rest n rc R many false → Rs StT B w' I (Js (l.map Int.ofNat))) := fun w' h' => by rw [Js_Is]; exact Rs.of_own h'.ids (by decide)
  have H := Lib.hid h
  have Hs := Lib.hid hs
  clear h hs
  go_enter Try.func14, Try.ntmps14
  go_wp2_with fail
  refine hc.out.mono ?_
  rintro e w1 ⟨rfl, rfl⟩
  go_wp2_with fail
  go_region_held3 (fun w' => w'.cell? ⟨bw, 0, none⟩ = some (.pointer (some ⟨bs, 0, none⟩)) ∧ w'.cell? ⟨bw, 1, none⟩ = some (.slice I k ic))
    (first | exact ⟨k0, k1⟩ | exact ⟨j0, j1⟩)
    ((go_at_call 46; refine (hd.out _ (by exact Hs.out.drewN 1) (by exact hrs.out _ (H.out.drewN 1)) (by exact hB)).mono ?_; rintro e w2 ⟨rfl, hs2, hk2'⟩; have hk2 : Keeps StT B w w2 := ⟨hk2'.os, hk2'.tape, hk2'.output, hk2'.size, hk2'.block⟩; have h2 := H.out.keeps (by decide) hk2; have j0 := h2.blk.cell 0; have j1 := h2.blk.cell 1; simp only [List.getElem?_cons_zero, List.getElem?_cons_succ] at j0 j1))
  have kc := h2.blk.cell 4
  have kf := h2.blk.frozen 4
  simp only [List.getElem?_cons_zero, List.getElem?_cons_succ] at kc
  have H3 := Lib.hid h2.end_
  have Hs3 := Lib.hid (hs2.keeps (h2.kw 4 (.bool true)) (by decide))
  have Ht3 := Lib.hid ((Turns.of_keeps (S := S) hk2).trans (Turns.setCell (T := StT) (B := B) w2 (i := 4) h2.sw (.bool true)))
  clear h2 hk2 hk2' hs2
  go_wp2_with fail
  go_end0
  exact ⟨rfl, Hs3.out, H3.out, Ht3.out⟩
end Go.Proofs.Ytjjmnjgkodiibaa
namespace Go.Proofs.Ytjjmnjgkodiibaa
open Go.RowKit

attribute [local go_sem ↓] Go.wp_at_zero Go.wp_at_succ

theorem own_inS {w : World} {S : Nat → Prop} {A A' : Option Addr} {n c n' c' : Nat} (h : (Value.slice A' n' c').ownBlock = (Value.slice A n c).ownBlock ∨ (Value.slice A' n' c').ownBlock = some w.heap.size) (ha : ∃ k : Option Nat, A = k.map fun g => ⟨g, 0, none⟩) (hA : InS S A) (hy : S w.heap.size) : InS S A' := by
  intro b o hb
  subst hb
  obtain ⟨k, rfl⟩ := ha
  rcases h with h | h
  · cases k with
    | none => simp [Value.ownBlock] at h
    | some g =>
      simp [Value.ownBlock] at h
      rw [h]
      exact hA g 0 rfl
  · simp [Value.ownBlock] at h
    rw [h]
    exact hy
theorem own_zero {w : World} {base : Nat} {e : TypeId} {size : Nat} {A : Option Addr} {n c : Nat} {xs : List Value} (h : Own w base e size A n c xs) : ∃ k : Option Nat, A = k.map fun g => ⟨g, 0, none⟩ := by
  rcases h.lies with ⟨h, _⟩ | ⟨g, _, h, _⟩
  · exact ⟨none, h⟩
  · exact ⟨some g, h⟩
theorem own_row {w : World} {base : Nat} {e : TypeId} {size : Nat} {S : Nat → Prop} {A : Option Addr} {n c : Nat} {xs : List Value} (h : Own w base e size A n c xs) (hA : InS S A) {k : Nat} (hk : (Value.slice A n c).ownBlock = some k) : S k := by
  obtain ⟨g, rfl⟩ := own_zero h
  cases g with
  | none => simp [Value.ownBlock] at hk
  | some g =>
    simp [Value.ownBlock] at hk
    subst hk
    exact hA g 0 rfl
theorem own_first {w : World} {base g o c i : Nat} (h : Own w base 3 1 (some ⟨g, o, none⟩) 1 c (Is [i])) : w.cell? ⟨g, o, none⟩ = some (.int .i64 (i : Int)) ∧ base ≤ g ∧ g < w.heap.size := by
  obtain ⟨g', o', e, _, _, hc⟩ := h.rd.get (k := 0) (by simp)
  injection e with e
  injection e with e1 e2
  subst e1; subst e2
  exact ⟨hc, (h.lt g rfl).1, (h.lt g rfl).2⟩

theorem page_no (S : Nat → Prop) (B bs bw : Nat) (s : Pg.St) (l : List Nat) (k ic : Nat) (I : Option Addr) (rest : List UInt8) (n rc : Nat) (R : Option Addr) (many : Int) (A : Option Addr) (bn bc : Nat) (w : World) (h : WrAt w S bs bw l k ic I rest n rc R many false) (hs : Sto w B bs s) (hB : B ≤ w.heap.size) (hm : ∀ i ∈ l, i < s.length) (hmax : k ≤ 4096) (hf : Pg.free1 s = none) :
    Calls Try.prog 45 #[.pointer (some ⟨bw, 0, none⟩), .slice A bn bc] w fun e w' => e = .returned (.int .i64 4) ∧ Sto w' B bs (Pg.dropS s (l.map Int.ofNat)) ∧ WrAt w' S bs bw l k ic I rest n rc R many true ∧ Turns S StT B w w' := by
  have hal := alloc_c B bs s 1 w hs (by omega) (by omega) hB
  obtain ⟨e1, e2, e3⟩ := Pg.free1_none hf
  rw [e1, e2, e3] at hal
  have Hal := Lib.hid hal
  have k0 := h.blk.cell 0
  simp only [List.getElem?_cons_zero, List.getElem?_cons_succ] at k0
  have H := Lib.hid h
  have Hm := Lib.hid hm
  clear hal h hs hf hm e1 e2 e3
  go_enter Try.func45, Try.ntmps45
  go_wp2_with fail
  refine Hal.out.mono ?_
  rintro e w1 ⟨A1, c1, rfl, ho1, hs1, hk1⟩
  have h1 := H.out.keeps (by decide) hk1
  have hc := Lib.hid (cancel_c S B bs bw s l k ic I rest n rc R many w1 h1 hs1 (Nat.le_trans hB hk1.size) Hm.out hmax)
  have Hk1 := Lib.hid hk1
  clear ho1 hs1 hk1 h1
  go_wp2_with fail
  refine hc.out.mono ?_
  rintro e w2 ⟨rfl, hs2, h2, ht2⟩
  have Hs2 := Lib.hid hs2
  have H2 := Lib.hid h2
  have Ht2 := Lib.hid ((Turns.of_keeps Hk1.out).trans ht2)
  clear hs2 h2 ht2
  go_wp2_with fail
  go_ret
  exact ⟨rfl, Hs2.out, H2.out, Ht2.out⟩

set_option maxHeartbeats 4000000 in
set_option maxRecDepth 100000 in
theorem page_yes (S : Nat → Prop) (B bs bw : Nat) (s : Pg.St) (l : List Nat) (k ic : Nat) (I : Option Addr) (rest : List UInt8) (n rc : Nat) (R : Option Addr) (many : Int) (A : Option Addr) (b : List UInt8) (bn bc i : Nat) (w : World) (h : WrAt w S bs bw l k ic I rest n rc R many false) (hs : Sto w B bs s) (hB : B ≤ w.heap.size) (hA : OwnX w 0 5 A bn bc (Bs b)) (hb : bn ≤ 56) (hmax : k ≤ 4096) (hy : ∀ j, w.heap.size ≤ j → S j) (hf : Pg.free1 s = some i) :
    Calls Try.prog 45 #[.pointer (some ⟨bw, 0, none⟩), .slice A bn bc] w fun e w' => e = .returned (.int .i64 0) ∧ Sto w' B bs (s.set i (some (Pg.page i b))) ∧ (∃ I' ic', WrAt w' S bs bw (l ++ [i]) (k + 1) ic' I' rest n rc R many false) ∧ Turns S StT B w w' := by
  have hal := alloc_c B bs s 1 w hs (by omega) (by omega) hB
  obtain ⟨e1, e2, e3, hi, _⟩ := Pg.free1_some hf
  rw [e1, e2, e3] at hal
  have Hal := Lib.hid hal
  have hbl : b.length = bn := by have := hA.len; rwa [List.length_map] at this
  have hwr := Lib.hid (fun w' (hs' : Sto w' B bs (s.set i (some (Pg.page i [])))) (hr' : OwnX w' 0 5 A bn bc (Bs b)) (hB' : B ≤ w'.heap.size) => write_c B bs _ (i : Int) A b bn bc w' hs' (by omega) (by have := sto_len hs; omega) hbl hr'.rd hB')
  have hwe := Lib.hid (Pg.write_new (s := s) (i := i) (b := b) hi (by omega))
  have k0 := h.blk.cell 0
  simp only [List.getElem?_cons_zero, List.getElem?_cons_succ] at k0
  have H := Lib.hid h
  have HA := Lib.hid hA
  clear hal h hs hf e1 e2 e3 hi hA hbl
  go_enter Try.func45, Try.ntmps45
  go_wp2_with fail
  refine Hal.out.mono ?_
  rintro e w1 ⟨A1, c1, rfl, ho1, hs1, hk1⟩
  have h1 := H.out.keeps (by decide) hk1
  have hA1 := HA.out.keeps (by decide) hk1
  obtain ⟨g1, o1, rfl, hg1, _, _⟩ := ho1.rd.get (k := 0) (by simp)
  have ci := (own_first ho1).1
  have hgb := (own_first ho1).2.1
  have hIlt : ∀ x, (Value.slice I k ic).ownBlock = some x → x < w.heap.size := fun x hx => (H.out.ids.lt x hx).2
  have Ho1 := Lib.hid ho1
  have hz1 := hk1.size
  have Hk1 := Lib.hid hk1
  have Hs1 := Lib.hid hs1
  have H1 := Lib.hid h1
  have HA1 := Lib.hid hA1
  have hk0 := h1.blk.cell 0
  have hk1' := h1.blk.cell 1
  simp only [List.getElem?_cons_zero, List.getElem?_cons_succ] at hk0 hk1'
  have hbw1 := h1.blk.lt
  clear k0 hk1 hs1 h1 hA1 ho1 Hal H HA
  go_wp2_with fail
  have hbW : Below w1.heap.size w1 (w1.alloc (.cells #[.int .i64 (i : Int)] 3)).drew := by go_grown
  have hW1 := hbW.size
  have HW := Lib.hid (H1.out.below hbW)
  have HnW := (Blk.new w1 3 #[.int .i64 (i : Int)]).range
  have HAW := Lib.hid (HA1.out.below hbW)
  have HsW := Lib.hid (Hs1.out.below hbW)
  have hw0 := HW.out.blk.cell 0
  have hw1 := HW.out.blk.cell 1
  have hwi := (hbW.cell (p := ⟨g1, o1, none⟩) hg1).trans ci
  simp only [List.getElem?_cons_zero, List.getElem?_cons_succ] at hw0 hw1
  go_region_law (refine step_apd rfl (.tmp 24) (.tmp 28) 43 rfl Eint 0 I k ic (Is l) (by simp [Act.eval, Act.put]) HW.out.ids (some ⟨w1.heap.size, 0, none⟩) 1 1 [.int .i64 (i : Int)] (by simp [Act.eval, Act.put]) rfl (fun _ => ⟨_, _, rfl, HnW⟩) (by simp [Value.oneCell']) (k + 1) rfl (Is (l ++ [i])) (by simp) (by omega) (by omega) (Nat.zero_le _) ?_; intro A4 c4 w4 ho4 hg4 hat4; have hj4 := (HW.out.blk.keeps (by decide) (Own.apd_keeps HW.out.ids hg4)).cell 1; have hj4f := (HW.out.blk.keeps (by decide) (Own.apd_keeps HW.out.ids hg4)).frozen 1)
  all_goals
    obtain ⟨w5, hw5⟩ : ∃ x, x = w4.setCell ⟨bw, 1, none⟩ (.slice A4 (k + 1) c4) := ⟨_, rfl⟩
    rw [← hw5]
    have hK4 := Own.apd_keeps HW.out.ids hg4
    have hB4 := HW.out.blk.keeps (by decide) hK4
    have hK5 : Keeps [83] 0 w4 w5 := by rw [hw5]; exact (Keeps.refl _ _ _).setCell hB4 (by simp) (Nat.zero_le _) _
    have h5 : WrAt w5 S bs bw (l ++ [i]) (k + 1) c4 A4 rest n rc R many false :=
      ⟨HW.out.sw, by rw [hw5]; exact hB4.set_ 1 _, Own.keeps ho4 (by decide) hK5, own_inS hat4 (own_zero HW.out.ids) HW.out.inI (hy _ (by omega)), (HW.out.rst.keeps (by decide) hK4).keeps (by decide) hK5, HW.out.inR⟩
    have hs5 := (HsW.out.keeps hK4 (by decide)).keeps hK5 (by decide)
    have hA5 := (HAW.out.keeps (by decide) hK4).keeps (by decide) hK5
    have ht5 : Turns S StT B w w5 := by
      refine ((Turns.of_keeps Hk1.out).trans (Turns.of_below hbW)).trans ((Turns.of_grown hg4 (fun x hx => own_row HW.out.ids HW.out.inI hx)).trans ?_)
      rw [hw5]
      exact Turns.setCell w4 HW.out.sw _
    have hz5 := ht5.size
    have c50 := h5.blk.cell 0
    simp only [List.getElem?_cons_zero] at c50
    have ho5 := Own.keeps (Own.far2 (Own.below Ho1.out hbW) hg4 (fun x hx hx' => by have := hIlt x hx'; have := (Ho1.out.lt x hx).1; omega)) (by decide) hK5
    have c5i := (own_first ho5).1
    have Ho5 := Lib.hid ho5
    have H5 := Lib.hid h5
    have Hs5 := Lib.hid hs5
    have HA5 := Lib.hid hA5
    have Ht5 := Lib.hid ht5
    clear h5 hs5 hA5 ht5 ho5 hK4 hB4 hK5 hat4 hg4 ho4 hw0 hw1 hwi HnW hj4 hj4f hw5 hk0 hk1' ci
    go_wp2_with fail
    go_region_held3 (fun w' => w'.cell? ⟨bw, 0, none⟩ = some (.pointer (some ⟨bs, 0, none⟩)) ∧ w'.cell? ⟨g1, o1, none⟩ = some (.int .i64 (i : Int)))
      (first | exact ⟨c50, c5i⟩ | exact ⟨j0, ji⟩)
      ((go_at_call 69; refine (hwr.out _ (by exact Hs5.out.drewN 1) (by exact HA5.out) (by exact Nat.le_trans hB hz5)).mono ?_; rintro e w6 ⟨rfl, hs6, hk6'⟩; have hk6 : Keeps StT B w5 w6 := ⟨hk6'.os, hk6'.tape, hk6'.output, hk6'.size, hk6'.block⟩; have h6 := H5.out.keeps (by decide) hk6; have j0 := h6.blk.cell 0; have ji := (own_first (Own.keeps Ho5.out (by decide) hk6)).1; simp only [List.getElem?_cons_zero] at j0))
    rw [hwe.out.2] at hs6
    go_wp2_with fail
    go_ret
    exact ⟨by rw [hwe.out.1]; rfl, hs6, ⟨_, _, h6⟩, Ht5.out.trans (Turns.of_keeps hk6)⟩
end Go.Proofs.Ytjjmnjgkodiibaa
