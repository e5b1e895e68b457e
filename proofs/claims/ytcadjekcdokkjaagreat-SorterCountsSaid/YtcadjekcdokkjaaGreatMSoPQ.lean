/- Walks: the sorter: put. Walks: the sorter: take. -/
import Derived.Test.YtcadjekcdokkjaaGreatMSoJN
namespace Go.Proofs.YtcadjekcdokkjaaGreat
set_option linter.unusedVariables false
set_option linter.unusedSimpArgs false
open Go.RowKit
attribute [local go_sem ↓] Go.wp_at_zero Go.wp_at_succ
theorem Own.len1 {w : World} {base : Nat} {e : TypeId} {A : Option Addr} {n c : Nat} {xs : List Value} (h : Own w base e 1 A n c xs) : xs.length = n := by
 have := h.1
 rw [Nat.mul_one] at this
 exact this
def PutOut (w0 w : World) (B bs bp bS : Nat) (KA : Option Addr) (kn kc most left least : Nat) (s : Pg.St) (HA : Option Addr) (hn hc : Nat) (hh : List Value) (RA : Option Addr) (rn rc : Nat) (rs : List Nat) (fs : List FiM) (ks : List Ky) (N : List Nat) (s0 : Pg.St) (held : List RowM) (e : Ending) (w' : World) : Prop :=
 (∃ bf l s' RA' rn' rc', e = .returned (.int .i64 0) ∧ w.heap.size ≤ bf ∧ SrAt w0 w' B bs bp bS KA kn kc most (left + rowsC held) least s' none 0 0 [] RA' rn' rc' (rs ++ [bf]) (fs ++ [⟨bf, l, held⟩]) ∧ Files ks N s0 s' (fs ++ [⟨bf, l, held⟩])) ∨
 (e = .returned (.int .i64 4) ∧ SrAt w0 w' B bs bp bS KA kn kc most left least s HA hn hc hh RA rn rc rs fs ∧ s.length < Pg.used s + Pg.need (rowsB held).length)
set_option maxHeartbeats 16000000 in
set_option maxRecDepth 100000 in
theorem put_s (w0 w : World) (B bs bp bS : Nat) (KA : Option Addr) (kn kc most left least : Nat) (s : Pg.St) (HA : Option Addr) (hn hc : Nat) (hh : List Value) (RA : Option Addr) (rn rc : Nat) (rs : List Nat) (fs : List FiM) (ks : List Ky) (N : List Nat) (s0 : Pg.St) (held : List RowM) (g : Nat)
  (h : SrAt w0 w B bs bp bS KA kn kc most left least s HA hn hc hh RA rn rc rs fs) (hF : Files ks N s0 s fs) (hK : KeyIn w0 B bp KA ks) (hkn : ks.length = kn) (hkm : kn ≤ 1000000) (hL : LiveR w0 B bp hh held) (hl : left + rowsC held ≤ most) (hm : most ≤ 1000000000000) (hn1 : hn ≤ 1000)
  (hrows : ∀ r ∈ held, FineR g r) (hby : (rowsB held).length ≤ 90000) (hrn : rn ≤ 1000000) :
  Calls Tryz.prog 59 #[.pointer (some ⟨bS, 0, none⟩)] w fun e w' => PutOut w0 w B bs bp bS KA kn kc most left least s HA hn hc hh RA rn rc rs fs ks N s0 held e w' := by
 have c0 := h.blk.cell 0
 have c2 := h.blk.cell 2
 have c3 := h.blk.cell 3
 simp only [List.getElem?_cons_zero, List.getElem?_cons_succ] at c0 c2 c3
 have hbd : Below w.heap.size w w.drew := (Below.refl _ _).drew
 have hd := h.below hbd
 have hR := hL _ hd.fr
 have hlen : held.length = hn := by
  have h1 := hR.len
  have h2 := h.hel.len1
  omega
 have hBw : B ≤ w.heap.size := Nat.le_trans h.hB h.fr.size
 have hsort := Lib.hid (sort_k held hh hn hc HA KA kn kc ks w.drew hlen (Own.rd hd.hel) hR (by omega) (fun r hr => (hrows r hr).len) hkn (hK.turns hd.fr).1.rd hkm)
 have gd0 : w.drew.cell? ⟨bS, 0, none⟩ = some (.pointer (some ⟨bs, 0, none⟩)) := c0
 have gd2 : w.drew.cell? ⟨bS, 2, none⟩ = some (.slice KA kn kc) := c2
 have gd3 : w.drew.cell? ⟨bS, 3, none⟩ = some (.slice HA hn hc) := c3
 have hmay : ∀ r ∈ sortR ks held, Pg.Fine r := fun r hr => (hrows r ((sort_perm ks held).mem_iff.1 hr)).fine
 have H := Lib.hid h
 have HF := Lib.hid hF
 have HL := Lib.hid hL
 have Hmay := Lib.hid hmay
 have Hsl := Lib.hid ((sort_length ks held).trans hlen)
 have Hlen := Lib.hid hlen
 clear h hF hL hR hlen hd hmay hrows hK hkn
 by_cases hE : Pg.putRE s (sortR ks held) = 0
 ·have HE := Lib.hid hE
  clear hE
  go_enter Tryz.func59, Tryz.ntmps59
  go_wp2_with fail
  go_region_held3 (fun w' => w'.cell? ⟨bS, 0, none⟩ = some (.pointer (some ⟨bs, 0, none⟩)) ∧ w'.cell? ⟨bS, 2, none⟩ = some (.slice KA kn kc) ∧ w'.cell? ⟨bS, 3, none⟩ = some (.slice HA hn hc))
   (first | assumption | exact ⟨c0, c2, c3⟩ | exact ⟨gd0, gd2, gd3⟩ | exact ⟨k0, k2, k3⟩ | exact ⟨j0, j2, j3⟩)
   (first | (go_at_call 33; refine hsort.out.mono ?_; rintro e w3 ⟨gg, d, rfl, hd3, hm3, hb3⟩; have k0 := cell_keep hb3 gd0; have k2 := cell_keep hb3 gd2; have k3 := cell_keep hb3 gd3; have hS3 := (H.out.below hbd).below hb3)
          | (go_at_call 76; refine (sput_c B bs s (sortR ks held) (tab hn fun p => (d p).1) hn hn (some ⟨gg, 0, none⟩) w3 hS3.sto (Nat.le_trans hS3.hB hS3.fr.size) Hsl.out (fun w' hk' => by rw [← hm3]; exact (hd3.keeps (by decide) hk').rows) hn1 (Nat.le_refl _) (by omega)).mono ?_; rintro e w4 ⟨hput, hs4, hk4⟩; obtain ⟨_, bf, k, ic, I, rfl, hfi⟩ := hput.resolve_right (fun h => h.1 HE.out); have hT4 := Turns.of_keeps (S := fun i => i = bp ∨ w3.heap.size ≤ i) hk4; have hS4 := hS3.turn hT4 hs4 (Blk.keeps hS3.pu (by decide) hk4); have j0 := hS4.blk.cell 0; have j2 := hS4.blk.cell 2; have j3 := hS4.blk.cell 3; simp only [List.getElem?_cons_zero, List.getElem?_cons_succ] at j0 j2 j3))
  have hz3 := hb3.size
  have hzd : w.heap.size = w.drew.heap.size := rfl
  have hE := HE.out
  have hgr := Pg.put_grew hE
  have hold := Pg.put_lie (fun r hr => (Hmay.out r hr).may) hE
  have hll : (Pg.putRL s (sortR ks held)).length = Pg.need (rowsB held).length := by rw [hold.len, sortB_len]
  have Hfs := Lib.hid (HF.out.grow hgr bf (c := held) ⟨hold.hon, Hmay.out, by
   have := need_le (rowsB held).length
   omega⟩ (Nat.le_of_eq hll))
  rw [← Hlen.out] at hfi
  have hbf : w.heap.size ≤ bf := Nat.le_trans (by omega) hfi.sf
  have hz0 := H.out.fr.size
  have hS5 := Lib.hid (hS4.file (f := ⟨bf, Pg.putRL s (sortR ks held), held⟩) (hfi.wide fun i hi => by omega))
  have hg := Lib.hid (give_c w0 w4 B bs bp bS KA kn kc most left least _ HA hn hc hh RA rn rc rs _ held hS5.out HL.out hl hm (by omega))
  clear hgr hold hll hfi hS3 hS4 hd3 hm3 hb3 hs4 hk4 hT4 hE j0 j2 j3 k0 k2 k3 c0 c2 c3 gd0 gd2 gd3 hS5 hsort Hmay Hsl
  go_wp2_with fail
  refine hg.out.mono ?_
  rintro e w5 ⟨rfl, hS6, hT6, _⟩
  have m4 := hS6.blk.cell 4
  simp only [List.getElem?_cons_zero, List.getElem?_cons_succ] at m4
  have HS6 := Lib.hid hS6
  clear hS6 hT6 hg
  go_wp2_with (first | (at_builtin; refine hold ?_) | (at_make; refine hold ?_))
  (with_reducible refine unhold ?_)
  have hbA : Below w5.heap.size w5 (w5.alloc (.cells #[.pointer (some ⟨bf, 0, none⟩)] 94)) := (Below.refl _ _).alloc (Nat.le_refl _) _
  have hSA := HS6.out.below hbA
  have hzA := hSA.fr.size
  refine wpList_apx rfl (.tmp 31) (.tmp 33) 76 rfl Efils w0.heap.size RA rn rc (Ptrs rs) (by simp [Act.eval, Act.put]) hSA.runs (some ⟨w5.heap.size, 0, none⟩) 1 1 [.pointer (some ⟨bf, 0, none⟩)] (by simp [Act.eval, Act.put]) rfl (Rd.of_blk (Blk.new w5 94 #[.pointer (some ⟨bf, 0, none⟩)])) (by simp [Value.oneCell']) (rn + 1) rfl (Ptrs (rs ++ [bf])) (by rw [Ptrs_app]; rfl) (by omega) (by omega) (by omega) ?_
  intro A4 c4 w7 ho7 hg7 hat7
  have hk7 := hSA.runs.apx_keeps hg7
  have hT7 : Turns (fun i => w0.heap.size ≤ i) [] 0 (w5.alloc (.cells #[.pointer (some ⟨bf, 0, none⟩)] 94)) w7 := Turns.of_grown hg7 fun k hk => by
   rcases hSA.runs with ⟨ha, _⟩ | ⟨g', o', ys, ha, hge, _⟩
   ·rw [ha] at hk; cases hk
   ·rw [ha] at hk
    injection hk with hk
    subst hk
    exact hge
  have hbk := hSA.blk.keeps (by decide) hk7
  have b4 := hbk.cell 4
  have f4 := hbk.frozen 4
  simp only [List.getElem?_cons_zero, List.getElem?_cons_succ] at b4
  have Hfin := Lib.hid (hSA.lay hT7 (hk7.mono0) ho7)
  clear hSA hk7 hT7 ho7 hg7 hat7 hbk
  go_wp2_with fail
  go_ret
  exact .inl ⟨bf, _, _, A4, rn + 1, c4, rfl, hbf, Hfin.out, Hfs.out⟩
 ·have hE4 : Pg.putRE s (sortR ks held) = 4 := (Pg.put_err fun r hr => (Hmay.out r hr).may).resolve_left hE
  have HE := Lib.hid hE
  have HE4 := Lib.hid hE4
  clear hE hE4
  go_enter Tryz.func59, Tryz.ntmps59
  go_wp2_with fail
  go_region_held3 (fun w' => w'.cell? ⟨bS, 0, none⟩ = some (.pointer (some ⟨bs, 0, none⟩)) ∧ w'.cell? ⟨bS, 2, none⟩ = some (.slice KA kn kc) ∧ w'.cell? ⟨bS, 3, none⟩ = some (.slice HA hn hc))
   (first | assumption | exact ⟨c0, c2, c3⟩ | exact ⟨gd0, gd2, gd3⟩ | exact ⟨k0, k2, k3⟩ | exact ⟨j0, j2, j3⟩)
   (first | (go_at_call 33; refine hsort.out.mono ?_; rintro e w3 ⟨gg, d, rfl, hd3, hm3, hb3⟩; have k0 := cell_keep hb3 gd0; have k2 := cell_keep hb3 gd2; have k3 := cell_keep hb3 gd3; have hS3 := (H.out.below hbd).below hb3)
          | (go_at_call 76; refine (sput_c B bs s (sortR ks held) (tab hn fun p => (d p).1) hn hn (some ⟨gg, 0, none⟩) w3 hS3.sto (Nat.le_trans hS3.hB hS3.fr.size) Hsl.out (fun w' hk' => by rw [← hm3]; exact (hd3.keeps (by decide) hk').rows) hn1 (Nat.le_refl _) (by omega)).mono ?_; rintro e w4 ⟨hput, hs4, hk4⟩; obtain ⟨_, he⟩ := hput.resolve_left (fun h => HE.out h.1); rw [HE4.out] at he; subst he; have hT4 := Turns.of_keeps (S := fun i => i = bp ∨ w3.heap.size ≤ i) hk4; have hS4 := hS3.turn hT4 hs4 (Blk.keeps hS3.pu (by decide) hk4); have j0 := hS4.blk.cell 0; have j2 := hS4.blk.cell 2; have j3 := hS4.blk.cell 3; simp only [List.getElem?_cons_zero, List.getElem?_cons_succ] at j0 j2 j3))
  have hz3 := hb3.size
  have hzd : w.heap.size = w.drew.heap.size := rfl
  have hE := HE.out
  have hbk := Pg.put_back hE
  have hfull := Pg.put_full (fun r hr => (Hmay.out r hr).may) hE
  rw [sortB_len] at hfull
  rw [hbk] at hS4
  have HS4 := Lib.hid hS4
  have Hfull := Lib.hid hfull
  clear hS3 hS4 hd3 hm3 hb3 hs4 hk4 hT4 hE j0 j2 j3 k0 k2 k3 c0 c2 c3 gd0 gd2 gd3 hsort Hmay Hsl hbk hfull
  go_wp2_with fail
  go_ret
  exact .inr ⟨rfl, HS4.out, Hfull.out⟩
end Go.Proofs.YtcadjekcdokkjaaGreat
namespace Go.Proofs.YtcadjekcdokkjaaGreat
set_option linter.unusedVariables false
set_option linter.unusedSimpArgs false
open Go.RowKit
attribute [local go_sem ↓] Go.wp_at_zero Go.wp_at_succ
theorem SrAt.snoc {w0 w w4 : World} {B bs bp bS : Nat} {KA : Option Addr} {kn kc most left least : Nat} {s : Pg.St} {HA A4 : Option Addr} {hn hc c4 : Nat} {hh : List Value} {RA : Option Addr} {rn rc : Nat} {rs : List Nat} {fs : List FiM} {v : Value} (h : SrAt w0 w B bs bp bS KA kn kc most left least s HA hn hc hh RA rn rc rs fs) (hbA : Below w.heap.size w (w.alloc (.cells #[v] 23)))
  (ho : Own w4 w0.heap.size 23 1 A4 (hn + 1) c4 (hh ++ [v])) (hg : (w.alloc (.cells #[v] 23)).grownBy w4 (Value.slice HA hn hc).ownBlock) :
  SrAt w0 (w4.setCell ⟨bS, 3, none⟩ (.slice A4 (hn + 1) c4)) B bs bp bS KA kn kc most left least s A4 (hn + 1) c4 (hh ++ [v]) RA rn rc rs fs ∧ Blk w4 bS 78 [.pointer (some ⟨bs, 0, none⟩), .pointer (some ⟨bp, 0, none⟩), .slice KA kn kc, .slice HA hn hc, .slice RA rn rc] := by
 have hA := h.below hbA
 have hk := Own.apd_keeps hA.hel hg
 exact ⟨hA.hold (Own.turnsApd hA.hel (fun b o e => (Own.type hA.hel e).1) hg) hk.mono0 ho, hA.blk.keeps (by decide) hk⟩
theorem LiveR.snoc {w0 : World} {B bp : Nat} {hh : List Value} {held : List RowM} (h : LiveR w0 B bp hh held) {A : Option Addr} {c : Nat} {r : RowM} (hr : LiveR w0 B bp [.slice A r.length c] [r]) : LiveR w0 B bp (hh ++ [.slice A r.length c]) (held ++ [r]) := fun w' hT => by
 have h1 := h w' hT
 have h2 := hr w' hT
 refine ⟨by rw [List.length_append, List.length_append, h1.len, h2.len], fun i x hx => ?_⟩
 by_cases hi : i < held.length
 ·rw [List.getElem?_append_left hi] at hx
  rw [List.getElem?_append_left (by rw [h1.len]; exact hi)]
  exact h1.at_ i x hx
 ·rw [List.getElem?_append_right (by omega)] at hx
  rw [List.getElem?_append_right (by rw [h1.len]; omega), h1.len]
  exact h2.at_ _ x hx
theorem LiveR.nil (w0 : World) (B bp : Nat) : LiveR w0 B bp [] [] := fun w' _ => ⟨rfl, fun i r h => by simp at h⟩
def TakeOut (w0 w : World) (B bs bp bS : Nat) (KA : Option Addr) (kn kc most left least : Nat) (s : Pg.St) (HA : Option Addr) (hn hc : Nat) (hh : List Value) (RA : Option Addr) (rn rc : Nat) (rs : List Nat) (fs : List FiM) (ks : List Ky) (N : List Nat) (s0 : Pg.St) (held : List RowM) (v : Value) (r : RowM) (e : Ending) (w' : World) : Prop :=
 ∃ least', least' ≤ least ∧
 ((e = .returned (.int .i64 0) ∧ rowC r ≤ left ∧ ∃ HA' hc', SrAt w0 w' B bs bp bS KA kn kc most (left - rowC r) least' s HA' (hn + 1) hc' (hh ++ [v]) RA rn rc rs fs) ∨
  (e = .returned (.int .i64 5) ∧ left < rowC r ∧ held = [] ∧ SrAt w0 w' B bs bp bS KA kn kc most left least' s HA hn hc hh RA rn rc rs fs) ∨
  (left < rowC r ∧ held ≠ [] ∧
   ((e = .returned (.int .i64 4) ∧ SrAt w0 w' B bs bp bS KA kn kc most left least' s HA hn hc hh RA rn rc rs fs ∧ s.length < Pg.used s + Pg.need (rowsB held).length) ∨
   ∃ bf l s' RA' rn' rc', w.heap.size ≤ bf ∧ Files ks N s0 s' (fs ++ [⟨bf, l, held⟩]) ∧
    ((e = .returned (.int .i64 5) ∧ left + rowsC held < rowC r ∧ SrAt w0 w' B bs bp bS KA kn kc most (left + rowsC held) least' s' none 0 0 [] RA' rn' rc' (rs ++ [bf]) (fs ++ [⟨bf, l, held⟩])) ∨
     (e = .returned (.int .i64 0) ∧ rowC r ≤ left + rowsC held ∧ ∃ HA' hc', SrAt w0 w' B bs bp bS KA kn kc most (left + rowsC held - rowC r) least' s' HA' 1 hc' [v] RA' rn' rc' (rs ++ [bf]) (fs ++ [⟨bf, l, held⟩]))))))
set_option maxHeartbeats 16000000 in
set_option maxRecDepth 100000 in
theorem take_s (w0 w : World) (B bs bp bS : Nat) (KA : Option Addr) (kn kc most left least : Nat) (s : Pg.St) (HA : Option Addr) (hn hc : Nat) (hh : List Value) (RA : Option Addr) (rn rc : Nat) (rs : List Nat) (fs : List FiM) (ks : List Ky) (N : List Nat) (s0 : Pg.St) (held : List RowM) (g : Nat) (A : Option Addr) (n c : Nat) (r : RowM)
  (h : SrAt w0 w B bs bp bS KA kn kc most left least s HA hn hc hh RA rn rc rs fs) (hF : Files ks N s0 s fs) (hK : KeyIn w0 B bp KA ks) (hkn : ks.length = kn) (hkm : kn ≤ 1000000) (hL : LiveR w0 B bp hh held) (hl : left + rowsC held ≤ most) (hm : most ≤ 1000000000000) (hle : least ≤ most) (hn1 : hn ≤ 1000)
  (hrows : ∀ r ∈ held, FineR g r) (hby : (rowsB held).length ≤ 90000) (hrn : rn ≤ 1000000 ) (hr : r.length = n) (hrL : LiveR w0 B bp [.slice A n c] [r]) (hfr : FineR g r) (hg : g ≤ 1000000000000) :
  Calls Tryz.prog 58 #[.pointer (some ⟨bS, 0, none⟩), .slice A n c] w fun e w' => TakeOut w0 w B bs bp bS KA kn kc most left least s HA hn hc hh RA rn rc rs fs ks N s0 held (.slice A n c) r e w' := by
 have c1 := h.blk.cell 1
 have c3 := h.blk.cell 3
 simp only [List.getElem?_cons_zero, List.getElem?_cons_succ] at c1 c3
 have hbd : Below w.heap.size w w.drew := (Below.refl _ _).drew
 have hlen : held.length = hn := by
  have h1 := (hL _ h.fr).len
  have h2 := h.hel.len1
  omega
 have hrd : ∀ w', Turns (fun i => i = bp ∨ w0.heap.size ≤ i) StT B w0 w' → Rd w' A (rcells r) := fun w' hT => by
  obtain ⟨A', c', e1, _, _, e2, _⟩ := (hrL w' hT).at_ 0 r rfl
  injection e1 with e1
  injection e1 with e1 _ _
  subst e1
  exact e2
 have hrC : rowC r ≤ 1000000000000 := Nat.le_trans hfr.le hg
 have hrl := hfr.len
 have hrdp := fun (w1 : World) (h1 : Turns (fun i => i = bp ∨ w0.heap.size ≤ i) StT B w0 w1) => prow_any r n c A w1 hr (hrd _ h1) hrC (by omega)
 obtain ⟨C, hC⟩ : ∃ C, rowC r = C := ⟨_, rfl⟩
 unfold TakeOut
 rw [hC] at hrdp hrC ⊢
 have Hrdp := Lib.hid hrdp
 have gd1 : w.drew.cell? ⟨bS, 1, none⟩ = some (.pointer (some ⟨bp, 0, none⟩)) := c1
 have gd3 : w.drew.cell? ⟨bS, 3, none⟩ = some (.slice HA hn hc) := c3
 have hnb : bS ≠ bp := Blk.ne_of_type h.blk h.pu (by decide)
 have H := Lib.hid h
 have hput := fun (w1 : World) (h1 : SrAt w0 w1 B bs bp bS KA kn kc most left least s HA hn hc hh RA rn rc rs fs) => put_s w0 w1 B bs bp bS KA kn kc most left least s HA hn hc hh RA rn rc rs fs ks N s0 held g h1 hF hK hkn hkm hL hl hm hn1 hrows hby hrn
 have Hput := Lib.hid hput
 have Hlen := Lib.hid hlen
 have Hl := Lib.hid hl
 clear h hput hrdp hrd hlen hC hF hK hkn hL hl hrows hrL hfr hr
 by_cases hc1 : left < C
 ·have Hc1 := Lib.hid hc1
  clear hc1
  go_enter Tryz.func58, Tryz.ntmps58
  go_wp2_with fail
  go_region_held3 (fun w' => w'.cell? ⟨bS, 1, none⟩ = some (.pointer (some ⟨bp, 0, none⟩)))
   (first | assumption | exact c1 | exact gd1 | exact k1)
   (first | (go_at_call 48; refine (Hrdp.out w.drew (H.out.below hbd).fr).mono ?_; rintro e w3 ⟨rfl, hb3⟩; have k1 := cell_keep hb3 gd1; have k3 := cell_keep hb3 gd3; have hS3 := (H.out.below hbd).below hb3)
          | (go_at_call 25; refine (ptake_no bp most left least C w3 hS3.pu hrC Hc1.out).mono ?_; rintro e w4 ⟨rfl, rfl⟩))
  by_cases hn0 : hn = 0
  ·have hnil : held = [] := List.eq_nil_of_length_eq_zero (by rw [Hlen.out, hn0])
   have hnI : ¬ ((0 : Int) < (hn : Int)) := by omega
   have Hnil := Lib.hid hnil
   have HS3 := Lib.hid hS3
   clear hn0 hnil hS3 Hput hb3
   go_wp2_with fail
   go_ret
   exact ⟨least, Nat.le_refl _, .inr (.inl ⟨rfl, Hc1.out, Hnil.out, HS3.out⟩)⟩
  ·have hne : held ≠ [] := fun e => hn0 (by rw [← Hlen.out, e]; rfl)
   have hnI : (0 : Int) < (hn : Int) := by omega
   have Hne := Lib.hid hne
   have HB3 := Lib.hid ((Below.refl w.heap.size w).drew.trans hb3)
   have HP3 := Lib.hid (Hput.out w3 hS3)
   clear hn0 hne hS3 Hput hb3
   go_wp2_with fail
   refine HP3.out.mono ?_
   rintro e w5 (⟨bf, l, s', RA', rn', rc', rfl, hbf, hS5, hF5⟩ | ⟨rfl, hS5, hfull⟩)
   ·have e1 := hS5.blk.cell 1
    have e3 := hS5.blk.cell 3
    simp only [List.getElem?_cons_zero, List.getElem?_cons_succ] at e1 e3
    have hnb5 : bS ≠ bp := hnb
    have hbd5 : Below w5.heap.size w5 w5.drew := (Below.refl _ _).drew
    have ed1 : w5.drew.cell? ⟨bS, 1, none⟩ = some (.pointer (some ⟨bp, 0, none⟩)) := e1
    have ed3 : w5.drew.cell? ⟨bS, 3, none⟩ = some (.slice none 0 0) := e3
    have HS5 := Lib.hid hS5
    have HF5 := Lib.hid hF5
    have hbf2 : w.heap.size ≤ bf := Nat.le_trans HB3.out.size hbf
    have Hbf := Lib.hid hbf2
    clear hS5 hF5 hbf hbf2 HP3 k1 k3 c1 c3 gd1 gd3
    by_cases hc2 : left + rowsC held < C
    ·have Hc2 := Lib.hid hc2
     clear hc2
     go_wp2_with fail
     go_region_held3 (fun w' => w'.cell? ⟨bS, 1, none⟩ = some (.pointer (some ⟨bp, 0, none⟩)))
      (first | assumption | exact e1 | exact ed1 | exact m1)
      (first | (go_at_call 48; refine (Hrdp.out w5.drew (HS5.out.below hbd5).fr).mono ?_; rintro e w6 ⟨rfl, hb6⟩; have m1 := cell_keep hb6 ed1; have hS6 := (HS5.out.below hbd5).below hb6)
             | (go_at_call 25; refine (ptake_no bp most _ least C w6 hS6.pu hrC Hc2.out).mono ?_; rintro e w7 ⟨rfl, rfl⟩))
     all_goals
      have HS6 := Lib.hid hS6
      clear hS6 hb6
      go_wp2_with fail
      go_ret
      exact ⟨least, Nat.le_refl _, .inr (.inr ⟨Hc1.out, Hne.out, .inr ⟨bf, l, s', RA', rn', rc', Hbf.out, HF5.out, .inl ⟨rfl, Hc2.out, HS6.out⟩⟩⟩)⟩
    ·have hc3 : C ≤ left + rowsC held := by omega
     have Hc3 := Lib.hid hc3
     have Hml : Hid (left + rowsC held ≤ 1000000000000) := Nat.le_trans Hl.out hm
     clear hc2 hc3
     go_wp2_with fail
     go_region_held3 (fun w' => w'.cell? ⟨bS, 1, none⟩ = some (.pointer (some ⟨bp, 0, none⟩)))
      (first | assumption | exact e1 | exact ed1 | exact m1 | exact n1)
      (first | (go_at_call 48; refine (Hrdp.out w5.drew (HS5.out.below hbd5).fr).mono ?_; rintro e w6 ⟨rfl, hb6⟩; have m1 := cell_keep hb6 ed1; have hS6 := (HS5.out.below hbd5).below hb6)
             | (go_at_call 25; refine (ptake_yes bp most _ least C w6 hS6.pu Hc3.out Hml.out (by omega)).mono ?_; rintro e w7 ⟨rfl, hp7, hT7⟩; have hS7 := hS6.purse hT7 hp7; have n1 := hS7.blk.cell 1; simp only [List.getElem?_cons_zero, List.getElem?_cons_succ] at n1))
     all_goals
      have n3 := hS7.blk.cell 3
      simp only [List.getElem?_cons_zero, List.getElem?_cons_succ] at n3
      have HS7 := Lib.hid hS7
      clear hS6 hS7 hb6 hp7 hT7 m1
      go_wp2_with (first | (at_builtin; refine hold ?_) | (at_make; refine hold ?_))
      (with_reducible refine unhold ?_)
      have hbA : Below w7.heap.size w7 (w7.alloc (.cells #[.slice A n c] 23)) := (Below.refl _ _).alloc (Nat.le_refl _) _
      have hSA := HS7.out.below hbA
      have hzA := hSA.fr.size
      refine wpList_apd rfl (.tmp 40) (.tmp 42) 32 rfl Erows w0.heap.size none 0 0 [] (by simp [Act.eval, Act.put]) hSA.hel (some ⟨w7.heap.size, 0, none⟩) 1 1 [.slice A n c] (by simp [Act.eval, Act.put]) rfl (Rd.of_blk (Blk.new w7 23 #[.slice A n c])) (by simp [Value.oneCell']) 1 rfl [.slice A n c] rfl (by omega) (by omega) (by omega) ?_
      intro A4 c4 w8 ho8 hg8 hat8
      obtain ⟨hS8, hb8⟩ := HS7.out.snoc hbA ho8 hg8
      have b3 := hb8.cell 3
      have f3 := hb8.frozen 3
      simp only [List.getElem?_cons_zero, List.getElem?_cons_succ] at b3
      have HS8 := Lib.hid hS8
      clear hS8 hb8 hSA ho8 hg8 hat8
      go_wp2_with fail
      go_ret
      exact ⟨min least (left + rowsC held - C), by omega, .inr (.inr ⟨Hc1.out, Hne.out, .inr ⟨bf, l, s', RA', rn', rc', Hbf.out, HF5.out, .inr ⟨rfl, Hc3.out, A4, c4, HS8.out⟩⟩⟩)⟩
   ·have HS5 := Lib.hid hS5
    have Hfull := Lib.hid hfull
    clear hS5 hfull HP3
    go_wp2_with fail
    go_ret
    exact ⟨least, Nat.le_refl _, .inr (.inr ⟨Hc1.out, Hne.out, .inl ⟨rfl, HS5.out, Hfull.out⟩⟩)⟩
 ·have hc3 : C ≤ left := by omega
  have Hc3 := Lib.hid hc3
  have Hml : Hid (left ≤ 1000000000000) := by have := Hl.out; show _ ≤ _; omega
  clear hc1 hc3 Hput
  go_enter Tryz.func58, Tryz.ntmps58
  go_wp2_with fail
  go_region_held3 (fun w' => w'.cell? ⟨bS, 1, none⟩ = some (.pointer (some ⟨bp, 0, none⟩)))
   (first | assumption | exact c1 | exact gd1 | exact k1 | exact n1)
   (first | (go_at_call 48; refine (Hrdp.out w.drew (H.out.below hbd).fr).mono ?_; rintro e w6 ⟨rfl, hb6⟩; have k1 := cell_keep hb6 gd1; have hS6 := (H.out.below hbd).below hb6)
          | (go_at_call 25; refine (ptake_yes bp most left least C w6 hS6.pu Hc3.out Hml.out (by omega)).mono ?_; rintro e w7 ⟨rfl, hp7, hT7⟩; have hS7 := hS6.purse hT7 hp7; have n1 := hS7.blk.cell 1; simp only [List.getElem?_cons_zero, List.getElem?_cons_succ] at n1))
  all_goals
   have n3 := hS7.blk.cell 3
   simp only [List.getElem?_cons_zero, List.getElem?_cons_succ] at n3
   have HS7 := Lib.hid hS7
   clear hS6 hS7 hb6 hp7 hT7 k1 c1 c3 gd1 gd3
   go_wp2_with (first | (at_builtin; refine hold ?_) | (at_make; refine hold ?_))
   (with_reducible refine unhold ?_)
   have hbA : Below w7.heap.size w7 (w7.alloc (.cells #[.slice A n c] 23)) := (Below.refl _ _).alloc (Nat.le_refl _) _
   have hSA := HS7.out.below hbA
   have hzA := hSA.fr.size
   refine wpList_apd rfl (.tmp 40) (.tmp 42) 32 rfl Erows w0.heap.size HA hn hc hh (by simp [Act.eval, Act.put]) hSA.hel (some ⟨w7.heap.size, 0, none⟩) 1 1 [.slice A n c] (by simp [Act.eval, Act.put]) rfl (Rd.of_blk (Blk.new w7 23 #[.slice A n c])) (by simp [Value.oneCell']) (hn + 1) rfl (hh ++ [.slice A n c]) rfl (by omega) (by omega) (by omega) ?_
   intro A4 c4 w8 ho8 hg8 hat8
   obtain ⟨hS8, hb8⟩ := HS7.out.snoc hbA ho8 hg8
   have b3 := hb8.cell 3
   have f3 := hb8.frozen 3
   simp only [List.getElem?_cons_zero, List.getElem?_cons_succ] at b3
   have HS8 := Lib.hid hS8
   clear hS8 hb8 hSA ho8 hg8 hat8
   go_wp2_with fail
   go_ret
   exact ⟨min least (left - C), by omega, .inl ⟨rfl, Hc3.out, A4, c4, HS8.out⟩⟩
end Go.Proofs.YtcadjekcdokkjaaGreat
