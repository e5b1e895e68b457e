/- Walks: a cursor of rows: how it lies in memory; fail, Open; whether bytes are all 0. -/
import Derived.Test.YtjjmnjgkodiibaaMSpDF
import Derived.Test.YtjjmnjgkodiibaaMPagR
import Derived.Test.YtjjmnjgkodiibaaMCuS
namespace Go.Proofs.Ytjjmnjgkodiibaa
open Go.RowKit

attribute [local go_sem ↓] Go.wp_at_zero Go.wp_at_succ

/-- A cursor at block bc, onto the store at block bs: the pages that were not read, the bytes that were read and not taken, how many rows are left, the error. -/
structure CuAt (w : World) (S : Nat → Prop) (bs bc : Nat) (l : List Nat) (k ic : Nat) (I : Option Addr) (p : List UInt8) (n rc : Nat) (R : Option Addr) (left err : Int) : Prop where
  sc : S bc
  blk : Blk w bc 107 [.pointer (some ⟨bs, 0, none⟩), .slice I k ic, .slice R n rc, .int .i64 left, .int .i64 err]
  ids : OwnX w 0 3 I k ic (Is l)
  inI : InS S I
  rst : OwnX w 0 5 R n rc (Bs p)
  inR : InS S R

namespace CuAt
variable {w w' : World} {S : Nat → Prop} {bs bc : Nat} {l : List Nat} {k ic : Nat} {I : Option Addr} {p : List UInt8} {n rc : Nat} {R : Option Addr} {left err : Int}
theorem klen (h : CuAt w S bs bc l k ic I p n rc R left err) : l.length = k := by
  have := h.ids.len
  rwa [List.length_map] at this
theorem plen (h : CuAt w S bs bc l k ic I p n rc R left err) : p.length = n := by
  have := h.rst.len
  rwa [List.length_map] at this
theorem keeps {T : List TypeId} {B : Nat} (h : CuAt w S bs bc l k ic I p n rc R left err) (hT : ∀ t ∈ [107, 3, 5], t ∉ T) (hk : Keeps T B w w') : CuAt w' S bs bc l k ic I p n rc R left err :=
  ⟨h.sc, h.blk.keeps (hT _ (by simp)) hk, h.ids.keeps (hT _ (by simp)) hk, h.inI, h.rst.keeps (hT _ (by simp)) hk, h.inR⟩
theorem below (h : CuAt w S bs bc l k ic I p n rc R left err) (hb : Below w.heap.size w w') : CuAt w' S bs bc l k ic I p n rc R left err :=
  ⟨h.sc, h.blk.below hb, h.ids.below hb, h.inI, h.rst.below hb, h.inR⟩
theorem drewN (h : CuAt w S bs bc l k ic I p n rc R left err) (d : Nat) : CuAt (w.drewN d) S bs bc l k ic I p n rc R left err := h.keeps (T := []) (B := 0) (by simp) ((Keeps.refl _ _ _).drewN d)
theorem turns {S' : Nat → Prop} {T : List TypeId} {B : Nat} (h : CuAt w S bs bc l k ic I p n rc R left err) (hd : ∀ j, S j → ¬ S' j) (hT : ∀ t ∈ [107, 3, 5], t ∉ T) (hk : Turns S' T B w w') : CuAt w' S bs bc l k ic I p n rc R left err :=
  ⟨h.sc, h.blk.turns (hd _ h.sc) (hT _ (by simp)) hk, h.ids.turns (hT _ (by simp)) (fun b o e => hd _ (h.inI b o e)) hk, h.inI, h.rst.turns (hT _ (by simp)) (fun b o e => hd _ (h.inR b o e)) hk, h.inR⟩
theorem more {S' : Nat → Prop} (h : CuAt w S bs bc l k ic I p n rc R left err) (hs : ∀ j, S j → S' j) : CuAt w S' bs bc l k ic I p n rc R left err :=
  ⟨hs _ h.sc, h.blk, h.ids, fun b o e => hs _ (h.inI b o e), h.rst, fun b o e => hs _ (h.inR b o e)⟩
theorem kw (h : CuAt w S bs bc l k ic I p n rc R left err) (i : Nat) (u : Value) : Keeps [107] 0 w (w.setCell ⟨bc, i, none⟩ u) := (Keeps.refl _ _ _).setCell h.blk (by simp) (Nat.zero_le _) u
/-- An error. -/
theorem putE (h : CuAt w S bs bc l k ic I p n rc R left err) (e : Int) : CuAt (w.setCell ⟨bc, 4, none⟩ (.int .i64 e)) S bs bc l k ic I p n rc R left e :=
  ⟨h.sc, h.blk.set_ 4 _, h.ids.keeps (by decide) (h.kw 4 _), h.inI, h.rst.keeps (by decide) (h.kw 4 _), h.inR⟩
/-- So many rows are left. -/
theorem putL (h : CuAt w S bs bc l k ic I p n rc R left err) (m : Int) : CuAt (w.setCell ⟨bc, 3, none⟩ (.int .i64 m)) S bs bc l k ic I p n rc R m err :=
  ⟨h.sc, h.blk.set_ 3 _, h.ids.keeps (by decide) (h.kw 3 _), h.inI, h.rst.keeps (by decide) (h.kw 3 _), h.inR⟩
/-- Other pages. -/
theorem putI {l' : List Nat} {k' ic' : Nat} {I' : Option Addr} (h : CuAt w S bs bc l k ic I p n rc R left err) (ho : OwnX w 0 3 I' k' ic' (Is l')) (hi : InS S I') : CuAt (w.setCell ⟨bc, 1, none⟩ (.slice I' k' ic')) S bs bc l' k' ic' I' p n rc R left err :=
  ⟨h.sc, h.blk.set_ 1 _, ho.keeps (by decide) (h.kw 1 _), hi, h.rst.keeps (by decide) (h.kw 1 _), h.inR⟩
/-- Other bytes. -/
theorem putR {p' : List UInt8} {n' rc' : Nat} {R' : Option Addr} (h : CuAt w S bs bc l k ic I p n rc R left err) (ho : OwnX w 0 5 R' n' rc' (Bs p')) (hi : InS S R') : CuAt (w.setCell ⟨bc, 2, none⟩ (.slice R' n' rc')) S bs bc l k ic I p' n' rc' R' left err :=
  ⟨h.sc, h.blk.set_ 2 _, h.ids.keeps (by decide) (h.kw 2 _), h.inI, ho.keeps (by decide) (h.kw 2 _), hi⟩
end CuAt

theorem cfail_c (S : Nat → Prop) (bs bc : Nat) (l : List Nat) (k ic : Nat) (I : Option Addr) (p : List UInt8) (n rc : Nat) (R : Option Addr) (left err e : Int) (w : World) (h : CuAt w S bs bc l k ic I p n rc R left err) :
    Calls Try.prog 60 #[.pointer (some ⟨bc, 0, none⟩), .int .i64 e] w fun x w' => x = .returned (.tuple #[.slice none 0 0, .bool false, .int .i64 e]) ∧ CuAt w' S bs bc l k ic I p n rc R left e ∧ Turns S [] 0 w w' ∧ Keeps [107] 0 w w' := by
  have k4 := h.blk.cell 4
  have f4 := h.blk.frozen 4
  simp only [List.getElem?_cons_zero, List.getElem?_cons_succ] at k4
  have H2 := Lib.hid (h.putE e)
  have Ht := Lib.hid (Turns.setCell (S := S) (T := []) (B := 0) w (i := 4) h.sc (.int .i64 e))
  have Hk := Lib.hid (h.kw 4 (.int .i64 e))
  clear h
  go_enter Try.func60, Try.ntmps60
  go_wp2_with fail
  go_ret3
  exact ⟨rfl, H2.out, Ht.out, Hk.out⟩

set_option maxRecDepth 100000 in
theorem open_c (S : Nat → Prop) (bs bf : Nat) (l : List Nat) (k ic : Nat) (I : Option Addr) (many : Int) (w : World) (h : FiAt w S bs bf l k ic I many) (hk : k ≤ 1000000) :
    Calls Try.prog 35 #[.pointer (some ⟨bf, 0, none⟩)] w fun e w' => ∃ bc ic' I', e = .returned (.pointer (some ⟨bc, 0, none⟩)) ∧ CuAt w' (fun j => w.heap.size ≤ j ∧ j < w'.heap.size) bs bc l k ic' I' [] 0 0 none many 0 ∧ Below w.heap.size w w' := by
  have k0 := h.blk.cell 0
  have k1 := h.blk.cell 1
  have k2 := h.blk.cell 2
  simp only [List.getElem?_cons_zero, List.getElem?_cons_succ] at k0 k1 k2
  have hcl := Lib.hid (fun w' (hb : Below w.heap.size w w') => clonei_any l k ic I w' h.klen (h.ids.rd.below hb) hk)
  have H := Lib.hid h
  clear h
  go_enter Try.func35, Try.ntmps35
  go_wp2_with fail
  go_region_held3 (fun w' => w'.cell? ⟨bf, 0, none⟩ = some (.pointer (some ⟨bs, 0, none⟩)) ∧ w'.cell? ⟨bf, 1, none⟩ = some (.slice I k ic) ∧ w'.cell? ⟨bf, 2, none⟩ = some (.int .i64 many))
    (first | exact ⟨k0, k1, k2⟩ | exact ⟨j0, j1, j2⟩ | exact ⟨cell_keep ((Below.refl _ _).alloc (Nat.le_refl _) _) j0, cell_keep ((Below.refl _ _).alloc (Nat.le_refl _) _) j1, cell_keep ((Below.refl _ _).alloc (Nat.le_refl _) _) j2⟩)
    ((go_at_call 47; refine (hcl.out _ (Below.refl _ _).drew).mono ?_; rintro e w2 ⟨A2, c2, rfl, ho2, hb2'⟩; have hb2 : Below w.heap.size w w2 := ⟨hb2'.os, hb2'.tape, hb2'.output, hb2'.size, hb2'.block⟩; have h2 := H.out.below hb2; have j0 := h2.blk.cell 0; have j1 := h2.blk.cell 1; have j2 := h2.blk.cell 2; simp only [List.getElem?_cons_zero, List.getElem?_cons_succ] at j0 j1 j2))
  all_goals
    go_wp2_with fail
    go_ret
    have hbA : Below w2.heap.size w2 (w2.alloc (.cells #[.pointer (some ⟨bs, 0, none⟩), .slice A2 k c2, .slice none 0 0, .int .i64 many, .int .i64 0] 107)) := (Below.refl _ _).alloc (Nat.le_refl _) _
    have hz2 := hb2.size
    refine ⟨w2.heap.size, c2, A2, rfl, ⟨⟨hz2, by simp⟩, Blk.new w2 _ _, ((OwnX.of_own (Own.below ho2 hbA)).lower (Nat.zero_le _)), ?_, OwnX.nil _ _ _, InS.nil _⟩, hb2.trans (hbA.mono hz2)⟩
    intro b o e
    have hlt := ho2.lt b (by rw [e]; rfl)
    refine ⟨hlt.1, ?_⟩
    simp
    have := hlt.2
    omega

/-- Is a byte not 0? -/
theorem nzc_any (c : UInt8) (w : World) : Calls Try.prog 59 #[.int .u8 (c.toNat : Int)] w fun e w' => e = .returned (.bool (c != 0)) ∧ w = w' := by
  have hc : Hid (((c.toNat : Int) != 0) = (c != 0)) := by
    show _ = _
    by_cases h : c = 0
    · subst h; rfl
    · have h1 : (c != 0) = true := by simpa using h
      rw [h1, bne_iff_ne]
      intro h2
      exact h (UInt8.toNat_inj.1 (by simpa using h2))
  go_enter Try.func59, Try.ntmps59
  go_wp2
  go_ret
  exact ⟨by rw [← hc.out]; rfl, rfl⟩

set_option maxRecDepth 100000 in
theorem containsc_any (A : Option Addr) (l : List UInt8) (n c : Nat) (w : World) (hn : l.length = n) (hl : n ≤ 9223372036854775807) (hr : Rd w A (Bs l)) :
    Calls Try.prog 57 #[.slice A n c, .func (.func 59) #[] #[]] w fun e w' => e = .returned (.bool (l.any (· != 0))) ∧ w = w' := by
  have hll := Lib.hid hn
  clear hn
  have key : Calls Try.prog 75 #[.slice A n c, .func (.func 59) #[] #[]] w fun e w' => (∃ k : Int, e = .returned (.int .i64 k) ∧ Hid ((decide (0 ≤ k)) = l.any (· != 0))) ∧ w = w' := by
    go_enter Try.func75, Try.ntmps75
    go_wp2_with fail
    go_loop [8] (fun i => ∃ k : Nat, k ≤ n ∧ i = .int .i64 k ∧ Hid ((l.take k).any (· != 0) = false)) (fun i => n - (intOf i).toNat)
    case atStart => exact ⟨0, by omega, rfl, rfl⟩
    case round =>
      obtain ⟨k, hk, rfl, hno⟩ := hrel
      by_cases hlt : k < n
      · obtain ⟨b, o, rfl, hb, hrr, hc⟩ := hr.get (k := k) (by rw [List.length_map, hll.out]; exact hlt)
        clear hr hrr
        rw [List.getElem_map] at hc
        unfold B at hc
        have htk := Lib.hid (List.take_succ_eq_append_getElem (l := l) (i := k) (by rw [hll.out]; exact hlt))
        have hmem := Lib.hid (List.getElem_mem (l := l) (n := k) (by rw [hll.out]; exact hlt))
        generalize l[k]'(by rw [hll.out]; exact hlt) = x at *
        cases hx : (x != 0) with
        | false =>
          have Hx := Lib.hid hx
          clear hx
          go_wp2_with fail
          refine (nzc_any x w).mono ?_
          rw [Hx.out]
          rintro e w' ⟨rfl, rfl⟩
          go_wp2_with fail
          go_round
          case rel => exact ⟨k + 1, by omega, by go_num, by show _ = _; rw [htk.out, List.any_append, hno.out]; simp [Hx.out]⟩
          case measure => simp [intOf]; omega
        | true =>
          have hany : Hid (l.any (· != 0) = true) := by show _ = _; rw [List.any_eq_true]; exact ⟨x, hmem.out, hx⟩
          have Hx := Lib.hid hx
          clear hx
          go_wp2_with fail
          refine (nzc_any x w).mono ?_
          rw [Hx.out]
          rintro e w' ⟨rfl, rfl⟩
          go_wp2_with fail
          go_ret
          exact ⟨⟨(k : Int), rfl, by show _ = _; rw [hany.out]; simp⟩, rfl⟩
      · obtain rfl : k = n := by omega
        have hany : Hid (l.any (· != 0) = false) := by
          have := hno.out
          rwa [List.take_of_length_le (by rw [hll.out]; exact Nat.le_refl _)] at this
        go_wp2_with fail
        go_ret
        exact ⟨⟨-1, rfl, by show _ = _; rw [hany.out]; rfl⟩, rfl⟩
  have Hkey := Lib.hid key
  clear key
  go_enter Try.func57, Try.ntmps57
  go_wp2_with fail
  refine Hkey.out.mono ?_
  rintro e w' ⟨⟨k, rfl, hk⟩, rfl⟩
  go_wp2_with fail
  go_ret
  exact ⟨by rw [← hk.out]; rfl, rfl⟩
end Go.Proofs.Ytjjmnjgkodiibaa
