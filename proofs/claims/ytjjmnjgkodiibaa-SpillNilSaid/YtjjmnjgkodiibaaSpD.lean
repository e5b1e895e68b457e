/- The walks of a writer's New and Done; a file on pages. -/
import Derived.Test.YtjjmnjgkodiibaaSpA
namespace Go.Proofs.Ytjjmnjgkodiibaa
open Go.RowKit

attribute [local go_sem ↓] Go.wp_at_zero Go.wp_at_succ

/-- A file at block bf, onto the store at block bs: its pages, how many rows. -/
structure FiAt (w : World) (S : Nat → Prop) (bs bf : Nat) (l : List Nat) (k ic : Nat) (I : Option Addr) (many : Int) : Prop where
  sf : S bf
  blk : Blk w bf 88 [.pointer (some ⟨bs, 0, none⟩), .slice I k ic, .int .i64 many]
  ids : Own w 0 3 1 I k ic (Is l)
  inI : InS S I
namespace FiAt
variable {w w' : World} {S : Nat → Prop} {bs bf : Nat} {l : List Nat} {k ic : Nat} {I : Option Addr} {many : Int}
theorem klen (h : FiAt w S bs bf l k ic I many) : l.length = k := by
  have := h.ids.1
  rw [Nat.mul_one, List.length_map] at this
  exact this
theorem keeps {T : List TypeId} {B : Nat} (h : FiAt w S bs bf l k ic I many) (hT : ∀ t ∈ [88, 3], t ∉ T) (hk : Keeps T B w w') : FiAt w' S bs bf l k ic I many :=
  ⟨h.sf, h.blk.keeps (hT _ (by simp)) hk, Own.keeps h.ids (hT _ (by simp)) hk, h.inI⟩
theorem below (h : FiAt w S bs bf l k ic I many) (hb : Below w.heap.size w w') : FiAt w' S bs bf l k ic I many :=
  ⟨h.sf, h.blk.below hb, Own.below h.ids hb, h.inI⟩
end FiAt

theorem below_box (w : World) (o : Obj) : Below w.heap.size w (w.drew.alloc o) := ((Below.refl _ _).drew).alloc (Nat.le_refl _) o

theorem new_c (p : Option Addr) (w : World) :
    Calls Try.prog 11 #[.pointer p] w fun e w' => e = .returned (.pointer (some ⟨w.heap.size, 0, none⟩)) ∧ Blk w' w.heap.size 83 [.pointer p, .slice none 0 0, .slice none 0 0, .int .i64 0, .bool false] ∧ Below w.heap.size w w' ∧ w.heap.size < w'.heap.size := by
  go_enter Try.func11, Try.ntmps11
  go_wp2_with fail
  go_ret
  exact ⟨rfl, Blk.new _ _ _, (Below.refl _ _).alloc (Nat.le_refl _) _, by simp⟩

theorem done_nil (w : World) : Calls Try.prog 13 #[.pointer none] w fun e w' => e = .returned (.tuple #[.pointer none, .int .i64 2]) ∧ w = w' := by
  go_enter Try.func13, Try.ntmps13
  go_wp2_with fail
  refine (closed_nil w).mono ?_
  rintro e w1 ⟨rfl, rfl⟩
  go_wp2_with fail
  go_ret2
  exact ⟨rfl, rfl⟩
theorem done_off (bw : Nat) (r1 r2 r3 r4 : Value) (w : World) (h : Blk w bw 83 [.pointer none, r1, r2, r3, r4]) : Calls Try.prog 13 #[.pointer (some ⟨bw, 0, none⟩)] w fun e w' => e = .returned (.tuple #[.pointer none, .int .i64 2]) ∧ w = w' := by
  have hc := Lib.hid (closed_off bw r1 r2 r3 r4 w h)
  clear h
  go_enter Try.func13, Try.ntmps13
  go_wp2_with fail
  refine hc.out.mono ?_
  rintro e w1 ⟨rfl, rfl⟩
  go_wp2_with fail
  go_ret2
  exact ⟨rfl, rfl⟩
theorem done_ended (S : Nat → Prop) (bs bw : Nat) (l : List Nat) (k ic : Nat) (I : Option Addr) (rest : List UInt8) (n rc : Nat) (R : Option Addr) (many : Int) (w : World) (h : WrAt w S bs bw l k ic I rest n rc R many true) :
    Calls Try.prog 13 #[.pointer (some ⟨bw, 0, none⟩)] w fun e w' => e = .returned (.tuple #[.pointer none, .int .i64 2]) ∧ w = w' := by
  have hc := Lib.hid (closed_any S bs bw l k ic I rest n rc R many true w h)
  clear h
  go_enter Try.func13, Try.ntmps13
  go_wp2_with fail
  refine hc.out.mono ?_
  rintro e w1 ⟨rfl, rfl⟩
  go_wp2_with fail
  go_ret2
  exact ⟨rfl, rfl⟩
theorem cancel_nil (w : World) : Calls Try.prog 14 #[.pointer none] w fun e w' => e = .returned (.tuple #[]) ∧ w = w' := by
  go_enter Try.func14, Try.ntmps14
  go_wp2_with fail
  refine (closed_nil w).mono ?_
  rintro e w1 ⟨rfl, rfl⟩
  go_wp2_with fail
  go_end0
  exact ⟨rfl, rfl⟩

theorem last_cases {s s' : Pg.St} {l l' : List Nat} {b : List UInt8} {e : Int} (h : Pg.last s l b = (s', l', e)) :
    (b = [] ∧ s' = s ∧ l' = l ∧ e = 0) ∨ (b ≠ [] ∧ Pg.free1 s = none ∧ s' = s ∧ l' = l ∧ e = 4) ∨ (b ≠ [] ∧ ∃ i, Pg.free1 s = some i ∧ s' = s.set i (some (Pg.page i b)) ∧ l' = l ++ [i] ∧ e = 0) := by
  unfold Pg.last at h
  split at h
  · injection h with h1 h2
    injection h2 with h2 h3
    exact .inl ⟨by assumption, h1.symm, h2.symm, h3.symm⟩
  · split at h
    · injection h with h1 h2
      injection h2 with h2 h3
      exact .inr (.inl ⟨by assumption, by assumption, h1.symm, h2.symm, h3.symm⟩)
    · injection h with h1 h2
      injection h2 with h2 h3
      exact .inr (.inr ⟨by assumption, _, by assumption, h1.symm, h2.symm, h3.symm⟩)

set_option maxHeartbeats 4000000 in
set_option maxRecDepth 100000 in
theorem done_c (S : Nat → Prop) (B bs bw : Nat) (s s' : Pg.St) (l l' : List Nat) (k ic : Nat) (I : Option Addr) (rest : List UInt8) (n rc : Nat) (R : Option Addr) (many : Int) (er : Int) (w : World) (h : WrAt w S bs bw l k ic I rest n rc R many false) (hs : Sto w B bs s) (hB : B ≤ w.heap.size) (hmine : Pg.Mine s l) (hy : ∀ j, w.heap.size ≤ j → S j) (hn : n ≤ 56) (hlast : Pg.last s l rest = (s', l', er)) :
    Calls Try.prog 13 #[.pointer (some ⟨bw, 0, none⟩)] w fun e w' => ((er = 0 ∧ ∃ bf k' ic' I', e = .returned (.tuple #[.pointer (some ⟨bf, 0, none⟩), .int .i64 0]) ∧ Sto w' B bs s' ∧ FiAt w' S bs bf l' k' ic' I' many ∧ WrAt w' S bs bw l' k' ic' I' rest n rc R many true) ∨
      (er = 4 ∧ e = .returned (.tuple #[.pointer none, .int .i64 4]) ∧ Sto w' B bs (Pg.dropS s' (l'.map Int.ofNat)) ∧ ∃ k' ic' I', WrAt w' S bs bw l' k' ic' I' rest n rc R many true)) ∧ Turns S StT B w w' := by
  have hc := Lib.hid (closed_any S bs bw l k ic I rest n rc R many false w h)
  have hnl := h.nlen
  have hk : k ≤ 4096 := by have := h.klen; have := hmine.max; have := sto_len hs; omega
  have q2 := h.blk.cell 2
  simp only [List.getElem?_cons_zero, List.getElem?_cons_succ] at q2
  have H := Lib.hid h
  have Hs := Lib.hid hs
  rcases last_cases hlast with ⟨hr, e1, e2, e3⟩ | ⟨hr, hf, e1, e2, e3⟩ | ⟨hr, i, hf, e1, e2, e3⟩
  · obtain rfl : n = 0 := by rw [← hnl, hr]; rfl
    have f4 := h.blk.frozen 4
    have q4 := h.blk.cell 4
    simp only [List.getElem?_cons_zero, List.getElem?_cons_succ] at q4
    have h1 := h.end_
    have hs1 := hs.keeps (h.kw 4 (.bool true)) (by decide)
    have ht1 := Turns.setCell (T := StT) (B := B) w (i := 4) h.sw (.bool true)
    subst e1; subst e2; subst e3
    clear h hs hlast hnl hr hmine
    go_enter Try.func13, Try.ntmps13
    go_wp2_with fail
    refine hc.out.mono ?_
    rintro e w1 ⟨rfl, rfl⟩
    go_wp2_with fail
    have c0 := h1.blk.cell 0
    have c1 := h1.blk.cell 1
    have c3 := h1.blk.cell 3
    simp only [List.getElem?_cons_zero, List.getElem?_cons_succ] at c0 c1 c3
    have H1 := Lib.hid h1
    have Hs1 := Lib.hid hs1
    have Ht1 := Lib.hid ht1
    clear h1 hs1 ht1 q2 f4 q4
    generalize w.setCell ⟨bw, 4, none⟩ (.bool true) = w2 at *
    go_region
    go_wp2_with fail
    go_ret2
    have hz := Ht1.out.size
    exact ⟨.inl ⟨trivial, _, _, _, _, rfl, Hs1.out.below (below_box w2 _), ⟨hy _ (by omega), Blk.new w2.drew _ _, Own.below H1.out.ids (below_box w2 _), H1.out.inI⟩, H1.out.below (below_box w2 _)⟩, Ht1.out.trans (Turns.of_below (below_box w2 _))⟩
  · have hnp : 0 < n := by
      rw [← hnl]
      exact List.length_pos_iff.2 hr
    have hp := Lib.hid (page_no S B bs bw s l k ic I rest n rc R many R n rc w h hs hB hmine.in_ hk hf)
    subst e1; subst e2; subst e3
    clear h hs hlast hnl hr hmine hf
    go_enter Try.func13, Try.ntmps13
    go_wp2_with fail
    refine hc.out.mono ?_
    rintro e w1 ⟨rfl, rfl⟩
    go_wp2_with fail
    refine hp.out.mono ?_
    rintro e w2 ⟨rfl, hs2, h2, ht2⟩
    have Hs2 := Lib.hid hs2
    have H2 := Lib.hid h2
    have Ht2 := Lib.hid ht2
    clear hs2 h2 ht2
    go_wp2_with fail
    go_ret2
    exact ⟨.inr ⟨trivial, rfl, Hs2.out, _, _, _, H2.out⟩, Ht2.out⟩
  · have hnp : 0 < n := by
      rw [← hnl]
      exact List.length_pos_iff.2 hr
    have hp := Lib.hid (page_yes S B bs bw s l k ic I rest n rc R many R rest n rc i w h hs hB h.rst hn hk hy hf)
    subst e1; subst e2; subst e3
    clear h hs hlast hnl hr hmine hf
    go_enter Try.func13, Try.ntmps13
    go_wp2_with fail
    refine hc.out.mono ?_
    rintro e w1 ⟨rfl, rfl⟩
    go_wp2_with fail
    refine hp.out.mono ?_
    rintro e w2 ⟨rfl, hs2, ⟨I2, ic2, h2⟩, ht2⟩
    have f4 := h2.blk.frozen 4
    have q4 := h2.blk.cell 4
    simp only [List.getElem?_cons_zero, List.getElem?_cons_succ] at q4
    have h3 := h2.end_
    have hs3 := hs2.keeps (h2.kw 4 (.bool true)) (by decide)
    have ht3 := ht2.trans (Turns.setCell (T := StT) (B := B) w2 (i := 4) h2.sw (.bool true))
    have c0 := h3.blk.cell 0
    have c1 := h3.blk.cell 1
    have c3 := h3.blk.cell 3
    simp only [List.getElem?_cons_zero, List.getElem?_cons_succ] at c0 c1 c3
    have H3 := Lib.hid h3
    have Hs3 := Lib.hid hs3
    have Ht3 := Lib.hid ht3
    clear h3 hs3 ht3 h2 hs2 ht2 q2
    go_wp2_with fail
    clear f4 q4
    generalize w2.setCell ⟨bw, 4, none⟩ (.bool true) = w3 at *
    go_region
    go_wp2_with fail
    go_ret2
    have hz := Ht3.out.size
    exact ⟨.inl ⟨trivial, _, _, _, _, rfl, Hs3.out.below (below_box w3 _), ⟨hy _ (by omega), Blk.new w3.drew _ _, Own.below H3.out.ids (below_box w3 _), H3.out.inI⟩, H3.out.below (below_box w3 _)⟩, Ht3.out.trans (Turns.of_below (below_box w3 _))⟩
end Go.Proofs.Ytjjmnjgkodiibaa
