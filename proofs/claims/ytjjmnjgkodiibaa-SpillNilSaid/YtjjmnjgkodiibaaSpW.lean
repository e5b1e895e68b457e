/- Walks: a writer of rows: how it lies in memory; a page of its own; canceling. -/
import Derived.Test.YtjjmnjgkodiibaaSpI
namespace Go.Proofs.Ytjjmnjgkodiibaa
open Go.RowKit

attribute [local go_sem ↓] Go.wp_at_zero Go.wp_at_succ

/-- A writer at block bw, onto the store at block bs: its pages, the bytes that no page holds yet. -/
structure WrAt (w : World) (S : Nat → Prop) (bs bw : Nat) (l : List Nat) (k ic : Nat) (I : Option Addr) (rest : List UInt8) (n rc : Nat) (R : Option Addr) (many : Int) (ended : Bool) : Prop where
  sw : S bw
  blk : Blk w bw 83 [.pointer (some ⟨bs, 0, none⟩), .slice I k ic, .slice R n rc, .int .i64 many, .bool ended]
  ids : Own w 0 3 1 I k ic (Is l)
  inI : InS S I
  rst : OwnX w 0 5 R n rc (Bs rest)
  inR : InS S R

namespace WrAt
variable {w w' : World} {S : Nat → Prop} {bs bw : Nat} {l : List Nat} {k ic : Nat} {I : Option Addr} {rest : List UInt8} {n rc : Nat} {R : Option Addr} {many : Int} {ended : Bool}
theorem klen (h : WrAt w S bs bw l k ic I rest n rc R many ended) : l.length = k := by
  have := h.ids.1
  rw [Nat.mul_one, List.length_map] at this
  exact this
theorem nlen (h : WrAt w S bs bw l k ic I rest n rc R many ended) : rest.length = n := by
  have := h.rst.len
  rwa [List.length_map] at this
theorem keeps {T : List TypeId} {B : Nat} (h : WrAt w S bs bw l k ic I rest n rc R many ended) (hT : ∀ t ∈ [83, 3, 5], t ∉ T) (hk : Keeps T B w w') : WrAt w' S bs bw l k ic I rest n rc R many ended :=
  ⟨h.sw, h.blk.keeps (hT _ (by simp)) hk, Own.keeps h.ids (hT _ (by simp)) hk, h.inI, h.rst.keeps (hT _ (by simp)) hk, h.inR⟩
theorem below (h : WrAt w S bs bw l k ic I rest n rc R many ended) (hb : Below w.heap.size w w') : WrAt w' S bs bw l k ic I rest n rc R many ended :=
  ⟨h.sw, h.blk.below hb, Own.below h.ids hb, h.inI, h.rst.below hb, h.inR⟩
theorem drewN (h : WrAt w S bs bw l k ic I rest n rc R many ended) (d : Nat) : WrAt (w.drewN d) S bs bw l k ic I rest n rc R many ended := h.keeps (T := []) (B := 0) (by simp) ((Keeps.refl _ _ _).drewN d)
theorem kw (h : WrAt w S bs bw l k ic I rest n rc R many ended) (i : Nat) (u : Value) : Keeps [83] 0 w (w.setCell ⟨bw, i, none⟩ u) := (Keeps.refl _ _ _).setCell h.blk (by simp) (Nat.zero_le _) u
/-- It is ended. -/
theorem end_ (h : WrAt w S bs bw l k ic I rest n rc R many ended) : WrAt (w.setCell ⟨bw, 4, none⟩ (.bool true)) S bs bw l k ic I rest n rc R many true :=
  ⟨h.sw, h.blk.set_ 4 _, Own.keeps h.ids (by decide) (h.kw 4 _), h.inI, h.rst.keeps (by decide) (h.kw 4 _), h.inR⟩
/-- One row more. -/
theorem more (h : WrAt w S bs bw l k ic I rest n rc R many ended) (m : Int) : WrAt (w.setCell ⟨bw, 3, none⟩ (.int .i64 m)) S bs bw l k ic I rest n rc R m ended :=
  ⟨h.sw, h.blk.set_ 3 _, Own.keeps h.ids (by decide) (h.kw 3 _), h.inI, h.rst.keeps (by decide) (h.kw 3 _), h.inR⟩
/-- Other pages. -/
theorem putI {l' : List Nat} {k' ic' : Nat} {I' : Option Addr} (h : WrAt w S bs bw l k ic I rest n rc R many ended) (ho : Own w 0 3 1 I' k' ic' (Is l')) (hi : InS S I') : WrAt (w.setCell ⟨bw, 1, none⟩ (.slice I' k' ic')) S bs bw l' k' ic' I' rest n rc R many ended :=
  ⟨h.sw, h.blk.set_ 1 _, Own.keeps ho (by decide) (h.kw 1 _), hi, h.rst.keeps (by decide) (h.kw 1 _), h.inR⟩
/-- Other bytes. -/
theorem putR {rest' : List UInt8} {n' rc' : Nat} {R' : Option Addr} (h : WrAt w S bs bw l k ic I rest n rc R many ended) (ho : OwnX w 0 5 R' n' rc' (Bs rest')) (hi : InS S R') : WrAt (w.setCell ⟨bw, 2, none⟩ (.slice R' n' rc')) S bs bw l k ic I rest' n' rc' R' many ended :=
  ⟨h.sw, h.blk.set_ 2 _, Own.keeps h.ids (by decide) (h.kw 2 _), h.inI, ho.keeps (by decide) (h.kw 2 _), hi⟩
end WrAt

theorem closed_nil (w : World) : Calls Try.prog 40 #[.pointer none] w fun e w' => e = .returned (.bool true) ∧ w = w' := by
  go_enter Try.func40, Try.ntmps40
  go_wp2_with fail
  go_ret
  exact ⟨rfl, rfl⟩
theorem closed_off (bw : Nat) (r1 r2 r3 r4 : Value) (w : World) (h : Blk w bw 83 [.pointer none, r1, r2, r3, r4]) : Calls Try.prog 40 #[.pointer (some ⟨bw, 0, none⟩)] w fun e w' => e = .returned (.bool true) ∧ w = w' := by
  have k0 := h.cell 0
  simp only [List.getElem?_cons_zero] at k0
  clear h
  go_enter Try.func40, Try.ntmps40
  go_wp2_with fail
  go_ret
  exact ⟨rfl, rfl⟩
theorem closed_any (S : Nat → Prop) (bs bw : Nat) (l : List Nat) (k ic : Nat) (I : Option Addr) (rest : List UInt8) (n rc : Nat) (R : Option Addr) (many : Int) (ended : Bool) (w : World) (h : WrAt w S bs bw l k ic I rest n rc R many ended) :
    Calls Try.prog 40 #[.pointer (some ⟨bw, 0, none⟩)] w fun e w' => e = .returned (.bool ended) ∧ w = w' := by
  have k0 := h.blk.cell 0
  have k4 := h.blk.cell 4
  simp only [List.getElem?_cons_zero, List.getElem?_cons_succ] at k0 k4
  clear h
  go_enter Try.func40, Try.ntmps40
  go_wp2_with fail
  go_ret
  exact ⟨rfl, rfl⟩

theorem cancel_ended (S : Nat → Prop) (bs bw : Nat) (l : List Nat) (k ic : Nat) (I : Option Addr) (rest : List UInt8) (n rc : Nat) (R : Option Addr) (many : Int) (w : World) (h : WrAt w S bs bw l k ic I rest n rc R many true) :
    Calls Try.prog 14 #[.pointer (some ⟨bw, 0, none⟩)] w fun e w' => e = .returned (.tuple #[]) ∧ w = w' := by
  have hc := Lib.hid (closed_any S bs bw l k ic I rest n rc R many true w h)
  clear h
  go_enter Try.func14, Try.ntmps14
  go_wp2_with fail
  refine hc.out.mono ?_
  rintro e w1 ⟨rfl, rfl⟩
  go_wp2_with fail
  go_end0
  exact ⟨rfl, rfl⟩

theorem cancel_c (S : Nat → Prop) (B bs bw : Nat) (s : Pg.St) (l : List Nat) (k ic : Nat) (I : Option Addr) (rest : List UInt8) (n rc : Nat) (R : Option Addr) (many : Int) (w : World) (h : WrAt w S bs bw l k ic I rest n rc R many false) (hs : Sto w B bs s) (hB : B ≤ w.heap.size) (hm : ∀ i ∈ l, i < s.length) (hmax : k ≤ 4096) :
    Calls Try.prog 14 #[.pointer (some ⟨bw, 0, none⟩)] w fun e w' => e = .returned (.tuple #[]) ∧ Sto w' B bs (Pg.dropS s (l.map Int.ofNat)) ∧ WrAt w' S bs bw l k ic I rest n rc R many true ∧ Turns S StT B w w' := by
  have hc := Lib.hid (closed_any S bs bw l k ic I rest n rc R many false w h)
  have h63 := (Own.cap h.ids)
  have k0 := h.blk.cell 0
  have k1 := h.blk.cell 1
  simp only [List.getElem?_cons_zero, List.getElem?_cons_succ] at k0 k1
  have hd := Lib.hid (fun (w' : World) (hs' : Sto w' B bs s) (hr : Rs StT B w' I (Js (l.map Int.ofNat))) (hB' : B ≤ w'.heap.size) => drop_c B bs s I (l.map Int.ofNat) k ic w' hs' (by rw [List.length_map]; exact h.klen) (by omega) hr (fun i hi => by
    obtain ⟨j, hj, rfl⟩ := List.mem_map.1 hi
    have := hm j hj
    have := sto_len hs
    constructor <;> simp <;> omega) hB')
  have hrs : Hid (∀ w', WrAt w' S bs bw l k ic I rest n rc R many false → Rs StT B w' I (Js (l.map Int.ofNat))) := fun w' h' => by rw [Js_Is]; exact Rs.of_own h'.ids (by decide)
  have H := Lib.hid h
  have Hs := Lib.hid hs
  clear h hs
  go_enter Try.func14, Try.ntmps14
  go_wp2_with fail
  refine hc.out.mono ?_
  rintro e w1 ⟨rfl, rfl⟩
  go_wp2_with fail
  go_region_held3 (fun w' => w'.cell? ⟨bw, 0, none⟩ = some (.pointer (some ⟨bs, 0, none⟩)) ∧ w'.cell? ⟨bw, 1, none⟩ = some (.slice I k ic))
    (first | exact ⟨k0, k1⟩ | exact ⟨j0, j1⟩)
    ((go_at_call 46; refine (hd.out _ (by exact Hs.out.drewN 1) (by exact hrs.out _ (H.out.drewN 1)) (by exact hB)).mono ?_; rintro e w2 ⟨rfl, hs2, hk2'⟩; have hk2 : Keeps StT B w w2 := ⟨hk2'.os, hk2'.tape, hk2'.output, hk2'.size, hk2'.block⟩; have h2 := H.out.keeps (by decide) hk2; have j0 := h2.blk.cell 0; have j1 := h2.blk.cell 1; simp only [List.getElem?_cons_zero, List.getElem?_cons_succ] at j0 j1))
  have kc := h2.blk.cell 4
  have kf := h2.blk.frozen 4
  simp only [List.getElem?_cons_zero, List.getElem?_cons_succ] at kc
  have H3 := Lib.hid h2.end_
  have Hs3 := Lib.hid (hs2.keeps (h2.kw 4 (.bool true)) (by decide))
  have Ht3 := Lib.hid ((Turns.of_keeps (S := S) hk2).trans (Turns.setCell (T := StT) (B := B) w2 (i := 4) h2.sw (.bool true)))
  clear h2 hk2 hk2' hs2
  go_wp2_with fail
  go_end0
  exact ⟨rfl, Hs3.out, H3.out, Ht3.out⟩
end Go.Proofs.Ytjjmnjgkodiibaa
