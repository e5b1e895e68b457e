/- The walks of a writer's New and Done; a file on pages. The walks of a file's methods. -/
import Derived.Test.YtjjmnjgkodiibaaMSpA
import Derived.Lib.SliceRun
namespace Go.Proofs.Ytjjmnjgkodiibaa
open Go.RowKit

attribute [local go_sem ↓] Go.wp_at_zero Go.wp_at_succ

/-- A file at block bf, onto the store at block bs: its pages, how many rows. -/
structure FiAt (w : World) (S : Nat → Prop) (bs bf : Nat) (l : List Nat) (k ic : Nat) (I : Option Addr) (many : Int) : Prop where
  sf : S bf
  blk : Blk w bf 88 [.pointer (some ⟨bs, 0, none⟩), .slice I k ic, .int .i64 many]
  ids : Own w 0 3 1 I k ic (Is l)
  inI : InS S I
namespace FiAt
variable {w w' : World} {S : Nat → Prop} {bs bf : Nat} {l : List Nat} {k ic : Nat} {I : Option Addr} {many : Int}
theorem klen (h : FiAt w S bs bf l k ic I many) : l.length = k := by
  have := h.ids.1
  rw [Nat.mul_one, List.length_map] at this
  exact this
theorem keeps {T : List TypeId} {B : Nat} (h : FiAt w S bs bf l k ic I many) (hT : ∀ t ∈ [88, 3], t ∉ T) (hk : Keeps T B w w') : FiAt w' S bs bf l k ic I many :=
  ⟨h.sf, h.blk.keeps (hT _ (by simp)) hk, Own.keeps h.ids (hT _ (by simp)) hk, h.inI⟩
theorem below (h : FiAt w S bs bf l k ic I many) (hb : Below w.heap.size w w') : FiAt w' S bs bf l k ic I many :=
  ⟨h.sf, h.blk.below hb, Own.below h.ids hb, h.inI⟩
end FiAt

theorem below_box (w : World) (o : Obj) : Below w.heap.size w (w.drew.alloc o) := ((Below.refl _ _).drew).alloc (Nat.le_refl _) o

theorem new_c (p : Option Addr) (w : World) :
    Calls Try.prog 11 #[.pointer p] w fun e w' => e = .returned (.pointer (some ⟨w.heap.size, 0, none⟩)) ∧ Blk w' w.heap.size 83 [.pointer p, .slice none 0 0, .slice none 0 0, .int .i64 0, .bool false] ∧ Below w.heap.size w w' ∧ w.heap.size < w'.heap.size := by
  go_enter Try.func11, Try.ntmps11
  go_wp2_with fail
  go_ret
  exact ⟨rfl, Blk.new _ _ _, (Below.refl _ _).alloc (Nat.le_refl _) _, by simp⟩

theorem done_nil (w : World) : Calls Try.prog 13 #[.pointer none] w fun e w' => e = .returned (.tuple #[.pointer none, .int .i64 2]) ∧ w = w' := by
  go_enter Try.func13, Try.ntmps13
  go_wp2_with fail
  refine (closed_nil w).mono ?_
  rintro e w1 ⟨rfl, rfl⟩
  go_wp2_with fail
  go_ret2
  exact ⟨rfl, rfl⟩
theorem done_off (bw : Nat) (r1 r2 r3 r4 : Value) (w : World) (h : Blk w bw 83 [.pointer none, r1, r2, r3, r4]) : Calls Try.prog 13 #[.pointer (some ⟨bw, 0, none⟩)] w fun e w' => e = .returned (.tuple #[.pointer none, .int .i64 2]) ∧ w = w' := by
  have hc := Lib.hid (closed_off bw r1 r2 r3 r4 w h)
  clear h
  go_enter Try.func13, Try.ntmps13
  go_wp2_with fail
  refine hc.out.mono ?_
  rintro e w1 ⟨rfl, rfl⟩
  go_wp2_with fail
  go_ret2
  exact ⟨rfl, rfl⟩
theorem done_ended (S : Nat → Prop) (bs bw : Nat) (l : List Nat) (k ic : Nat) (I : Option Addr) (rest : List UInt8) (n rc : Nat) (R : Option Addr) (many : Int) (w : World) (h : WrAt w S bs bw l k ic I rest n rc R many true) :
    Calls Try.prog 13 #[.pointer (some ⟨bw, 0, none⟩)] w fun e w' => e = .returned (.tuple #[.pointer none, .int .i64 2]) ∧ w = w' := by
  have hc := Lib.hid (closed_any S bs bw l k ic I rest n rc R many true w h)
  clear h
  go_enter Try.func13, Try.ntmps13
  go_wp2_with fail
  refine hc.out.mono ?_
  rintro e w1 ⟨rfl, rfl⟩
  go_wp2_with fail
  go_ret2
  exact ⟨rfl, rfl⟩
theorem cancel_nil (w : World) : Calls Try.prog 14 #[.pointer none] w fun e w' => e = .returned (.tuple #[]) ∧ w = w' := by
  go_enter Try.func14, Try.ntmps14
  go_wp2_with fail
  refine (closed_nil w).mono ?_
  rintro e w1 ⟨rfl, rfl⟩
  go_wp2_with fail
  go_end0
  exact ⟨rfl, rfl⟩

theorem last_cases {s s' : Pg.St} {l l' : List Nat} {b : List UInt8} {e : Int} (h : Pg.last s l b = (s', l', e)) :
    (b = [] ∧ s' = s ∧ l' = l ∧ e = 0) ∨ (b ≠ [] ∧ Pg.free1 s = none ∧ s' = s ∧ l' = l ∧ e = 4) ∨ (b ≠ [] ∧ ∃ i, Pg.free1 s = some i ∧ s' = s.set i (some (Pg.page i b)) ∧ l' = l ++ [i] ∧ e = 0) := by
  unfold Pg.last at h
  split at h
  · injection h with h1 h2
    injection h2 with h2 h3
    exact .inl ⟨by assumption, h1.symm, h2.symm, h3.symm⟩
  · split at h
    · injection h with h1 h2
      injection h2 with h2 h3
      exact .inr (.inl ⟨by assumption, by assumption, h1.symm, h2.symm, h3.symm⟩)
    · injection h with h1 h2
      injection h2 with h2 h3
      exact .inr (.inr ⟨by assumption, _, by assumption, h1.symm, h2.symm, h3.symm⟩)

set_option maxHeartbeats 4000000 in
set_option maxRecDepth 100000 in
theorem done_c (S : Nat → Prop) (B bs bw : Nat) (s s' : Pg.St) (l l' : List Nat) (k ic : Nat) (I : Option Addr) (rest : List UInt8) (n rc : Nat) (R : Option Addr) (many : Int) (er : Int) (w : World) (h : WrAt w S bs bw l k ic I rest n rc R many false) (hs : Sto w B bs s) (hB : B ≤ w.heap.size) (hmine : Pg.Mine s l) (hy : ∀ j, w.heap.size ≤ j → S j) (hn : n ≤ 56) (hlast : Pg.last s l rest = (s', l', er)) :
    Calls Try.prog 13 #[.pointer (some ⟨bw, 0, none⟩)] w fun e w' => ((er = 0 ∧ ∃ bf k' ic' I', e = .returned (.tuple #[.pointer (some ⟨bf, 0, none⟩), .int .i64 0]) ∧ Sto w' B bs s' ∧ FiAt w' S bs bf l' k' ic' I' many ∧ WrAt w' S bs bw l' k' ic' I' rest n rc R many true) ∨
      (er = 4 ∧ e = .returned (.tuple #[.pointer none, .int .i64 4]) ∧ Sto w' B bs (Pg.dropS s' (l'.map Int.ofNat)) ∧ ∃ k' ic' I', WrAt w' S bs bw l' k' ic' I' rest n rc R many true)) ∧ Turns S StT B w w' := by
  have hc := Lib.hid (closed_any S bs bw l k ic I rest n rc R many false w h)
  have hnl := h.nlen
  have hk : k ≤ 4096 := by have := h.klen; have := hmine.max; have := sto_len hs; omega
  have q2 := h.blk.cell 2
  simp only [List.getElem?_cons_zero, List.getElem?_cons_succ] at q2
  have H := Lib.hid h
  have Hs := Lib.hid hs
  rcases last_cases hlast with ⟨hr, e1, e2, e3⟩ | ⟨hr, hf, e1, e2, e3⟩ | ⟨hr, i, hf, e1, e2, e3⟩
  · obtain rfl : n = 0 := by rw [← hnl, hr]; rfl
    have f4 := h.blk.frozen 4
    have q4 := h.blk.cell 4
    simp only [List.getElem?_cons_zero, List.getElem?_cons_succ] at q4
    have h1 := h.end_
    have hs1 := hs.keeps (h.kw 4 (.bool true)) (by decide)
    have ht1 := Turns.setCell (T := StT) (B := B) w (i := 4) h.sw (.bool true)
    subst e1; subst e2; subst e3
    clear h hs hlast hnl hr hmine
    go_enter Try.func13, Try.ntmps13
    go_wp2_with fail
    refine hc.out.mono ?_
    rintro e w1 ⟨rfl, rfl⟩
    go_wp2_with fail
    have c0 := h1.blk.cell 0
    have c1 := h1.blk.cell 1
    have c3 := h1.blk.cell 3
    simp only [List.getElem?_cons_zero, List.getElem?_cons_succ] at c0 c1 c3
    have H1 := Lib.hid h1
    have Hs1 := Lib.hid hs1
    have Ht1 := Lib.hid ht1
    clear h1 hs1 ht1 q2 f4 q4
    generalize w.setCell ⟨bw, 4, none⟩ (.bool true) = w2 at *
    go_region
    go_wp2_with fail
    go_ret2
    have hz := Ht1.out.size
    exact ⟨.inl ⟨trivial, _, _, _, _, rfl, Hs1.out.below (below_box w2 _), ⟨hy _ (by omega), Blk.new w2.drew _ _, Own.below H1.out.ids (below_box w2 _), H1.out.inI⟩, H1.out.below (below_box w2 _)⟩, Ht1.out.trans (Turns.of_below (below_box w2 _))⟩
  · have hnp : 0 < n := by
      rw [← hnl]
      exact List.length_pos_iff.2 hr
    have hp := Lib.hid (page_no S B bs bw s l k ic I rest n rc R many R n rc w h hs hB hmine.in_ hk hf)
    subst e1; subst e2; subst e3
    clear h hs hlast hnl hr hmine hf
    go_enter Try.func13, Try.ntmps13
    go_wp2_with fail
    refine hc.out.mono ?_
    rintro e w1 ⟨rfl, rfl⟩
    go_wp2_with fail
    refine hp.out.mono ?_
    rintro e w2 ⟨rfl, hs2, h2, ht2⟩
    have Hs2 := Lib.hid hs2
    have H2 := Lib.hid h2
    have Ht2 := Lib.hid ht2
    clear hs2 h2 ht2
    go_wp2_with fail
    go_ret2
    exact ⟨.inr ⟨trivial, rfl, Hs2.out, _, _, _, H2.out⟩, Ht2.out⟩
  · have hnp : 0 < n := by
      rw [← hnl]
      exact List.length_pos_iff.2 hr
    have hp := Lib.hid (page_yes S B bs bw s l k ic I rest n rc R many R rest n rc i w h hs hB h.rst hn hk hy hf)
    subst e1; subst e2; subst e3
    clear h hs hlast hnl hr hmine hf
    go_enter Try.func13, Try.ntmps13
    go_wp2_with fail
    refine hc.out.mono ?_
    rintro e w1 ⟨rfl, rfl⟩
    go_wp2_with fail
    refine hp.out.mono ?_
    rintro e w2 ⟨rfl, hs2, ⟨I2, ic2, h2⟩, ht2⟩
    have f4 := h2.blk.frozen 4
    have q4 := h2.blk.cell 4
    simp only [List.getElem?_cons_zero, List.getElem?_cons_succ] at q4
    have h3 := h2.end_
    have hs3 := hs2.keeps (h2.kw 4 (.bool true)) (by decide)
    have ht3 := ht2.trans (Turns.setCell (T := StT) (B := B) w2 (i := 4) h2.sw (.bool true))
    have c0 := h3.blk.cell 0
    have c1 := h3.blk.cell 1
    have c3 := h3.blk.cell 3
    simp only [List.getElem?_cons_zero, List.getElem?_cons_succ] at c0 c1 c3
    have H3 := Lib.hid h3
    have Hs3 := Lib.hid hs3
    have Ht3 := Lib.hid ht3
    clear h3 hs3 ht3 h2 hs2 ht2 q2
    go_wp2_with fail
    clear f4 q4
    generalize w2.setCell ⟨bw, 4, none⟩ (.bool true) = w3 at *
    go_region
    go_wp2_with fail
    go_ret2
    have hz := Ht3.out.size
    exact ⟨.inl ⟨trivial, _, _, _, _, rfl, Hs3.out.below (below_box w3 _), ⟨hy _ (by omega), Blk.new w3.drew _ _, Own.below H3.out.ids (below_box w3 _), H3.out.inI⟩, H3.out.below (below_box w3 _)⟩, Ht3.out.trans (Turns.of_below (below_box w3 _))⟩
end Go.Proofs.Ytjjmnjgkodiibaa
namespace Go.Proofs.Ytjjmnjgkodiibaa
open Go.RowKit

attribute [local go_sem ↓] Go.wp_at_zero Go.wp_at_succ

theorem fmany_nil (w : World) : Calls Try.prog 16 #[.pointer none] w fun e w' => e = .returned (.int .i64 0) ∧ w = w' := by
  go_enter Try.func16, Try.ntmps16
  go_wp2_with fail
  go_ret
  exact ⟨rfl, rfl⟩
theorem fmany_c (S : Nat → Prop) (bs bf : Nat) (l : List Nat) (k ic : Nat) (I : Option Addr) (many : Int) (w : World) (h : FiAt w S bs bf l k ic I many) : Calls Try.prog 16 #[.pointer (some ⟨bf, 0, none⟩)] w fun e w' => e = .returned (.int .i64 many) ∧ w = w' := by
  have k2 := h.blk.cell 2
  simp only [List.getElem?_cons_zero, List.getElem?_cons_succ] at k2
  clear h
  go_enter Try.func16, Try.ntmps16
  go_wp2_with fail
  go_ret
  exact ⟨rfl, rfl⟩

theorem qi_nil (w : World) (A : Option Addr) (n c n' c' : Nat) : (binOp .eql 43 (.slice A n c) (.slice none n' c')).run Try.prog w = .ok (.bool A.isNone) w := by
  have hu : Try.prog.underlying 43 = some (.slice 3) := by kernel_rfl
  exact Lib.run_eql_slice_nil w 43 3 A n c n' c' hu
set_option maxRecDepth 100000 in
theorem clonei_any (l : List Nat) (n c : Nat) (A : Option Addr) (w : World) (hn : l.length = n) (hr : Rd w A (Is l)) (hl : n ≤ 1000000) :
    Calls Try.prog 47 #[.slice A n c] w fun e w' => ∃ A' c', e = .returned (.slice A' n c') ∧ Own w' w.heap.size 3 1 A' n c' (Is l) ∧ Below w.heap.size w w' := by
  have Hn := Lib.hid hn
  clear hn
  cases A with
  | none =>
    have h0 : l = [] := by
      refine Classical.byContradiction fun hne => ?_
      obtain ⟨b, o, h, _⟩ := hr (by simpa using hne)
      cases h
    subst h0
    obtain rfl : 0 = n := Hn.out
    have hq := fun w => qi_nil w none 0 c 0 0
    rw [Option.isNone_none] at hq
    go_enter Try.func47, Try.ntmps47
    go_wp2_with fail
    go_ret
    exact ⟨none, 0, rfl, Own.nil _ _ _ _, Below.refl _ _⟩
  | some a =>
    have ho1 : Own (w.alloc (.cells #[] 3)) w.heap.size 3 1 (some ⟨w.heap.size, 0, none⟩) 0 0 [] := World.ownsRow_made w #[] 0 (Nat.le_refl _) (by unfold maxLen; omega) rfl
    have hbA : Below w.heap.size w (w.alloc (.cells #[] 3)) := (Below.refl _ _).alloc (Nat.le_refl _) _
    have hq := fun w => qi_nil w (some a) n c 0 0
    rw [Option.isNone_some] at hq
    go_enter Try.func47, Try.ntmps47
    go_wp2_with (first | (at_builtin; refine hold ?_) | (at_make; refine hold ?_))
    (with_reducible refine unhold ?_)
    refine wpList_apd rfl _ _ _ rfl Eint w.heap.size _ 0 _ [] rfl ho1 _ n _ (Is l) rfl (by rw [List.length_map, Hn.out, Nat.mul_one]) (hr.below hbA) (Is_one l) n (Nat.zero_add _) (Is l) rfl (by omega) (by omega) hbA.size ?_
    intro A2 c2 w2 ho2 hg2 _
    have hb2 := hbA.grown hg2 hbA.size ho1.row_ge
    go_wp2_with fail
    go_ret
    exact ⟨_, _, rfl, ho2, hb2⟩

theorem pages_nil (w : World) : Calls Try.prog 17 #[.pointer none] w fun e w' => e = .returned (.slice none 0 0) ∧ w = w' := by
  go_enter Try.func17, Try.ntmps17
  go_wp2_with fail
  go_ret
  exact ⟨rfl, rfl⟩
theorem pages_c (S : Nat → Prop) (bs bf : Nat) (l : List Nat) (k ic : Nat) (I : Option Addr) (many : Int) (w : World) (h : FiAt w S bs bf l k ic I many) (hk : k ≤ 1000000) :
    Calls Try.prog 17 #[.pointer (some ⟨bf, 0, none⟩)] w fun e w' => ∃ A' c', e = .returned (.slice A' k c') ∧ Own w' w.heap.size 3 1 A' k c' (Is l) ∧ Below w.heap.size w w' := by
  have k1 := h.blk.cell 1
  simp only [List.getElem?_cons_zero, List.getElem?_cons_succ] at k1
  have hcl := Lib.hid (clonei_any l k ic I w h.klen h.ids.rd hk)
  clear h
  go_enter Try.func17, Try.ntmps17
  go_wp2_with fail
  refine hcl.out.mono ?_
  rintro e w1 ⟨A', c', rfl, ho1, hb1⟩
  go_wp2_with fail
  go_ret
  exact ⟨A', c', rfl, ho1, hb1⟩

theorem fdrop_nil (w : World) : Calls Try.prog 15 #[.pointer none] w fun e w' => e = .returned (.tuple #[]) ∧ w = w' := by
  go_enter Try.func15, Try.ntmps15
  go_wp2_with fail
  go_end0
  exact ⟨rfl, rfl⟩
set_option maxHeartbeats 4000000 in
set_option maxRecDepth 100000 in
theorem fdrop_c (S : Nat → Prop) (B bs bf : Nat) (s : Pg.St) (l : List Nat) (k ic : Nat) (I : Option Addr) (many : Int) (w : World) (h : FiAt w S bs bf l k ic I many) (hs : Sto w B bs s) (hB : B ≤ w.heap.size) (hm : ∀ i ∈ l, i < 4096) (hmax : k ≤ 4096) :
    Calls Try.prog 15 #[.pointer (some ⟨bf, 0, none⟩)] w fun e w' => e = .returned (.tuple #[]) ∧ Sto w' B bs (Pg.dropS s (l.map Int.ofNat)) ∧ FiAt w' S bs bf [] 0 0 none 0 ∧ Turns S StT B w w' := by
  have k0 := h.blk.cell 0
  have k1 := h.blk.cell 1
  simp only [List.getElem?_cons_zero, List.getElem?_cons_succ] at k0 k1
  have hd := Lib.hid (fun (w' : World) (hs' : Sto w' B bs s) (hr : Rs StT B w' I (Js (l.map Int.ofNat))) (hB' : B ≤ w'.heap.size) => drop_c B bs s I (l.map Int.ofNat) k ic w' hs' (by rw [List.length_map]; exact h.klen) (by omega) hr (fun i hi => by
    obtain ⟨j, hj, rfl⟩ := List.mem_map.1 hi
    have := hm j hj
    constructor <;> simp <;> omega) hB')
  have hrs : Hid (∀ w', FiAt w' S bs bf l k ic I many → Rs StT B w' I (Js (l.map Int.ofNat))) := fun w' h' => by rw [Js_Is]; exact Rs.of_own h'.ids (by decide)
  have H := Lib.hid h
  have Hs := Lib.hid hs
  clear h hs
  go_enter Try.func15, Try.ntmps15
  go_wp2_with fail
  go_region_held3 (fun w' => w'.cell? ⟨bf, 0, none⟩ = some (.pointer (some ⟨bs, 0, none⟩)) ∧ w'.cell? ⟨bf, 1, none⟩ = some (.slice I k ic))
    (first | exact ⟨k0, k1⟩ | exact ⟨j0, j1⟩)
    ((go_at_call 46; refine (hd.out _ (by exact Hs.out.drewN 1) (by exact hrs.out _ (H.out.below (Below.refl _ _).drew)) (by exact hB)).mono ?_; rintro e w2 ⟨rfl, hs2, hk2'⟩; have hk2 : Keeps StT B w w2 := ⟨hk2'.os, hk2'.tape, hk2'.output, hk2'.size, hk2'.block⟩; have h2 := H.out.keeps (by decide) hk2; have j0 := h2.blk.cell 0; have j1 := h2.blk.cell 1; simp only [List.getElem?_cons_zero, List.getElem?_cons_succ] at j0 j1))
  have j2 := h2.blk.cell 2
  have f1 := h2.blk.frozen 1
  have f2 := h2.blk.frozen 2
  simp only [List.getElem?_cons_zero, List.getElem?_cons_succ] at j2
  have hb1 := h2.blk.set_ 1 (.slice none 0 0)
  have hb2 := hb1.set_ 2 (.int .i64 0)
  simp only [List.set_cons_zero, List.set_cons_succ] at hb1 hb2
  have hk3 : Keeps [88] 0 w2 (w2.setCell ⟨bf, 1, none⟩ (.slice none 0 0)) := (Keeps.refl _ _ _).setCell h2.blk (by simp) (Nat.zero_le _) _
  have hk4 : Keeps [88] 0 w2 ((w2.setCell ⟨bf, 1, none⟩ (.slice none 0 0)).setCell ⟨bf, 2, none⟩ (.int .i64 0)) := hk3.setCell hb1 (by simp) (Nat.zero_le _) _
  have Hb2 := Lib.hid hb2
  have Hs4 := Lib.hid (hs2.keeps hk4 (by decide))
  have Ht4 := Lib.hid (((Turns.of_keeps (S := S) hk2).trans (Turns.setCell (T := StT) (B := B) w2 (i := 1) h2.sf (.slice none 0 0))).trans (Turns.setCell _ (i := 2) h2.sf (.int .i64 0)))
  have Hsf := Lib.hid h2.sf
  clear h2 hs2 hk2 hk2' hb1 hb2 hk3 hk4
  go_wp2_with fail
  go_end0
  exact ⟨rfl, Hs4.out, ⟨Hsf.out, Hb2.out, Own.nil _ _ _ _, InS.nil _⟩, Ht4.out⟩
end Go.Proofs.Ytjjmnjgkodiibaa
