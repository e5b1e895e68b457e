/- Walks: the sorter: all. Walks: the sorter: Sort. -/
import Derived.Test.YtcadjekcdokkjaaGreatMSoRU
namespace Go.Proofs.YtcadjekcdokkjaaGreat
set_option linter.unusedVariables false
set_option linter.unusedSimpArgs false
open Go.RowKit
attribute [local go_sem ↓] Go.wp_at_zero Go.wp_at_succ
def Came (w0 : World) (B bp : Nat) (X : Option Addr) (hs : List Value) (rs : List RowM) : Prop := ∀ w', Turns (fun i => i = bp ∨ w0.heap.size ≤ i) StT B w0 w' → Rd w' X hs ∧ Rows w' hs rs
theorem Came.one {w0 : World} {B bp : Nat} {X : Option Addr} {hs : List Value} {rs : List RowM} (h : Came w0 B bp X hs rs) {j : Nat} {r : RowM} (hj : rs[j]? = some r) {E : Option Addr} {d : Nat} (hh : hs[j]? = some (.slice E r.length d)) : LiveR w0 B bp [.slice E r.length d] [r] := fun w' hT => by
 obtain ⟨A, c, h1, h2, h3, h4, h5⟩ := (h w' hT).2.at_ j r hj
 rw [hh] at h1
 injection h1 with h1
 injection h1 with e1 _ e3
 subst e1; subst e3
 refine ⟨rfl, fun i x hi => ?_⟩
 cases i with
 | zero =>
  injection hi with hi
  subst hi
  exact ⟨E, d, rfl, h2, h3, h4, h5⟩
 | succ i => simp at hi
theorem cut_cap {ks : List Ky} {N : List Nat} {s0 s : Pg.St} {fs : List FiM} (hF : Files ks N s0 s fs) {c rs b : List RowM} (hlt : s.length < Pg.used s + Pg.need (rowsB c).length) (h1 : rs = rowsOf fs ++ b) (h2 : (rowsB c).length ≤ (rowsB rs).length) : s0.length < N.length + 2 * ((rowsB rs).length / 56) + fs.length + 1 := by
 have h4 := need_mono h2
 have h5 := need_le (rowsB rs).length
 have h6 := hF.used
 have h7 := needs_le (fs.map FiM.c)
 have h8 : (rowsB (fs.map FiM.c).flatten).length ≤ (rowsB rs).length := by
  rw [h1, rowsB_app, List.length_append]
  show (rowsB (rowsOf fs)).length ≤ _
  omega
 have h9 := hF.len
 rw [List.length_map] at h7
 have h10 := Nat.div_le_div_right (c := 56) h8
 omega
def AllEnd (B : Nat) (ks : List Ky) (N : List Nat) (s0 : Pg.St) (room fan g : Nat) (rs : List RowM) (e : Ending) (w' : World) : Prop :=
 (∃ A c, e = .returned (.tuple #[.slice A rs.length c, .int .i64 0]) ∧ Told w' B A rs.length c (sortR ks rs) ∧ ∃ k, runsN room rs = some k) ∨
 (e = .returned (.tuple #[.slice none 0 0, .int .i64 5]) ∧ room < fan * g ∧ ∀ k, runsN room rs = some k → 2 ≤ k) ∨
 (e = .returned (.tuple #[.slice none 0 0, .int .i64 4]) ∧ s0.length < N.length + 2 * ((rowsB rs).length / 56) + rs.length + 2 ∧ ∀ k, runsN room rs = some k → 2 ≤ k ∧ s0.length < N.length + 2 * ((rowsB rs).length / 56) + k + 1)
def AllOut (w0 : World) (B bs bp bS : Nat) (KA : Option Addr) (kn kc most least : Nat) (ks : List Ky) (N : List Nat) (s0 : Pg.St) (room fan g : Nat) (rs : List RowM) (e : Ending) (w' : World) : Prop :=
 ∃ least' s' HA' hn' hc' hh' held' RA' rn' rc' fs', least' ≤ least ∧ SrAt w0 w' B bs bp bS KA kn kc most (room - rowsC held') least' s' HA' hn' hc' hh' RA' rn' rc' (fs'.map FiM.b) fs' ∧ Files ks N s0 s' fs' ∧ (fs'.map FiM.b).Nodup ∧ LiveR w0 B bp hh' held' ∧ rowsC held' ≤ room ∧ hn' ≤ 1000 ∧ rn' ≤ 1000000 ∧ AllEnd B ks N s0 room fan g rs e w'
theorem take_snoc {rs : List RowM} {j : Nat} {r : RowM} (h : rs[j]? = some r) : rs.take (j + 1) = rs.take j ++ [r] ∧ rs = rs.take j ++ r :: rs.drop (j + 1) := by
 obtain ⟨hl, e⟩ := List.getElem?_eq_some_iff.1 h
 subst e
 refine ⟨List.take_succ_eq_append_getElem hl, ?_⟩
 rw [← List.drop_eq_getElem_cons hl, List.take_append_drop]
theorem Cuts.mem {room : Nat} {rs : List RowM} {done : List (List RowM)} {held : List RowM} (h : Cuts room rs done held) : (∀ r ∈ held, r ∈ rs) ∧ held.length ≤ rs.length ∧ (rowsB held).length ≤ (rowsB rs).length ∧ done.length ≤ rs.length := by
 have e := h.all_
 refine ⟨fun r hr => by rw [← e]; exact List.mem_append.2 (.inr hr), ?_, ?_, ?_⟩
 ·rw [← e, List.length_append]; omega
 ·rw [← e, rowsB_app, List.length_append]; omega
 ·have : ∀ d : List (List RowM), (∀ c ∈ d, c ≠ []) → d.length ≤ d.flatten.length := fun d => by
   induction d with
   | nil => intro _; exact Nat.le_refl _
   | cons c d ih =>
    intro hc
    have h1 := ih fun x hx => hc x (by simp [hx])
    have h2 := List.length_pos_iff.2 (hc c (by simp))
    rw [List.flatten_cons, List.length_append, List.length_cons]
    omega
  have h2 := this done h.some_
  rw [← e, List.length_append]
  omega
set_option maxHeartbeats 16000000 in
set_option maxRecDepth 100000 in
theorem all_s (w0 w : World) (B bs bp bS : Nat) (KA : Option Addr) (kn kc most least : Nat) (X : Option Addr) (nn xc : Nat) (hs : List Value) (rs : List RowM) (ks : List Ky) (N : List Nat) (s0 : Pg.St) (room fan g : Nat)
  (h : SrAt w0 w B bs bp bS KA kn kc most room least s0 none 0 0 [] none 0 0 [] []) (hN : Pg.Has s0 N) (hX : Came w0 B bp X hs rs) (hnn : rs.length = nn) (hn1 : nn ≤ 500) (hK : KeyIn w0 B bp KA ks) (hkn : ks.length = kn) (hkm : kn ≤ 1000000) (hf2 : 2 ≤ fan) (h16 : fan ≤ 16)
  (hml : room ≤ most) (hm : most ≤ 1000000000000) (hle : least ≤ most) (hg : g ≤ 1000000000000) (hrows : ∀ r ∈ rs, FineR g r) (hby : (rowsB rs).length ≤ 90000) :
  Calls Tryz.prog 36 #[.pointer (some ⟨bS, 0, none⟩), .slice X nn xc, .int .i64 (fan : Int)] w fun e w' => AllOut w0 B bs bp bS KA kn kc most least ks N s0 room fan g rs e w' := by
 have H := Lib.hid h
 have HX := Lib.hid hX
 have HK := Lib.hid hK
 have Hkn := Lib.hid hkn
 have Hrows := Lib.hid hrows
 have Hby := Lib.hid hby
 have Hnn := Lib.hid hnn
 have HF0 := Lib.hid (Files.start (ks := ks) hN)
 have hfg : g ≤ fan * g := Nat.le_mul_of_pos_left g (by omega)
 have Hfg := Lib.hid hfg
 clear h hX hK hkn hrows hby hnn hN hfg
 go_enter Tryz.func36, Tryz.ntmps36
 go_wp2_with fail
 go_loopw [17] (fun ix wr => ∃ (j : Nat) (fs : List FiM) (HA : Option Addr) (hn hc : Nat) (hh : List Value) (held : List RowM) (least1 : Nat) (s : Pg.St) (RA : Option Addr) (rn rc : Nat), j ≤ nn ∧ ix = .int .i64 (j : Int) ∧ Cuts room (rs.take j) (fs.map FiM.c) held ∧ SrAt w0 wr B bs bp bS KA kn kc most (room - rowsC held) least1 s HA hn hc hh RA rn rc (fs.map FiM.b) fs ∧ Files ks N s0 s fs ∧ (fs.map FiM.b).Nodup ∧ LiveR w0 B bp hh held ∧ least1 ≤ least) (fun ix _ => nn - (intOf ix).toNat)
 case atStart => exact ⟨0, [], none, 0, 0, [], [], least, s0, none, 0, 0, by omega, by go_num, by rw [List.take_zero]; exact Cuts.start room, H.out, HF0.out, List.nodup_nil, LiveR.nil w0 B bp, Nat.le_refl _⟩
 case round =>
  obtain ⟨j, fs, HA, hn, hc, hh, held, least1, s, RA, rn, rc, hj, rfl, hcut, hS, hF, hnd, hL, hle1⟩ := hrel
  generalize wr = wq at *
  have hmem := hcut.mem
  have hfit := hcut.fit
  have hlen : held.length = hn := by
   have h1 := (hL _ hS.fr).len
   have h2 := hS.hel.len1
   omega
  have hrl : fs.length = rn := by
   have := hS.runs.len
   rw [Ptrs_len, List.length_map] at this
   exact this
  have htl : (rs.take j).length = j := by rw [List.length_take, Hnn.out]; omega
  rw [htl, List.length_map] at hmem
  have hheld : ∀ r ∈ held, FineR g r := fun r hr => Hrows.out r (List.mem_of_mem_take (hmem.1 r hr))
  have hbt : (rowsB (rs.take j)).length ≤ (rowsB rs).length := by
   have h9 := rowsB_app (rs.take j) (rs.drop j)
   rw [List.take_append_drop] at h9
   rw [h9, List.length_append]
   omega
  have h9by := Hby.out
  by_cases hjn : j < nn
  ·obtain ⟨r, hr⟩ : ∃ r, rs[j]? = some r := ⟨_, List.getElem?_eq_getElem (by rw [Hnn.out]; exact hjn)⟩
   obtain ⟨hXr, hXw⟩ := HX.out _ hS.fr
   obtain ⟨E, d, hjs, hd1, hd2, hd3, hd4⟩ := hXw.at_ j r hr
   obtain ⟨hjl, hje⟩ := List.getElem?_eq_some_iff.1 hjs
   obtain ⟨gx, ox, rfl, _, _, hcx⟩ := hXr.get hjl
   rw [hje] at hcx
   have hts := take_snoc hr
   have htk := take_s w0 wq B bs bp bS KA kn kc most (room - rowsC held) least1 s HA hn hc hh RA rn rc (fs.map FiM.b) fs ks N s0 held g E r.length d r hS hF HK.out Hkn.out hkm hL (by omega) hm (by omega) (by omega) hheld (by omega) (by omega) rfl (HX.out.one hr hjs) (Hrows.out r (List.mem_of_getElem? hr)) hg
   have Htk := Lib.hid htk
   have Hcut := Lib.hid hcut
   have HF := Lib.hid hF
   have Hnd := Lib.hid hnd
   have HL := Lib.hid hL
   have HL1 := Lib.hid (HX.out.one hr hjs)
   have Hr := Lib.hid hr
   have Hts := Lib.hid hts
   obtain ⟨rl, hrl2⟩ : ∃ rl, rl = r.length := ⟨_, rfl⟩
   rw [← hrl2] at hcx Htk HL1
   have Hrl2 := Lib.hid hrl2
   have hjI : (j : Int) < (nn : Int) := by omega
   have hjI0 : (0 : Int) ≤ (j : Int) := by omega
   have Hfiles : Hid (∀ f ∈ fs, f.b < wq.heap.size) := fun f hf => by
    obtain ⟨k, ic, I, h1⟩ := hS.fi f hf
    exact h1.blk.lt
   have Hsr := Lib.hid hS
   clear htk hS hF hnd hL hr hXr hXw hjs hd1 hd2 hd3 hd4 hje hts hcut hrl2
   go_wp2_with fail
   refine Htk.out.mono ?_
   rintro e w2 ⟨least2, hle2, hcase⟩
   rcases hcase with ⟨rfl, hc1, HA2, hc2, hS2⟩ | ⟨rfl, hc1, hh0, hS2⟩ | ⟨hc1, hne, hcase⟩
   ·have HS2 := Lib.hid hS2
    have Hc1 := Lib.hid hc1
    clear hS2 hc1 Htk hcx Hfiles Hsr
    go_wp2_with fail
    go_roundw
    case rel =>
     refine ⟨j + 1, fs, HA2, hn + 1, hc2, hh ++ [.slice E rl d], held ++ [r], least2, s, RA, rn, rc, by omega, by go_num, ?_, ?_, HF.out, Hnd.out, ?_, by omega⟩
     ·rw [Hts.out.1]
      exact Hcut.out.hold Hc1.out
     ·rw [rowsC_snoc, ← Nat.sub_sub]
      exact HS2.out
     ·have h1 := HL1.out
      rw [Hrl2.out] at h1 ⊢
      exact HL.out.snoc h1
    case measure => simp only [intOf, Int.toNat_natCast]; omega
   ·subst hh0
    have HS2 := Lib.hid hS2
    have Hc1 := Lib.hid (show room < rowC r from hc1)
    clear hS2 hc1 Htk hcx Hfiles Hsr
    go_wp2_with fail
    go_ret2
    have hgr := Hcut.out.great Hc1.out (rs.drop (j + 1))
    rw [← Hts.out.2] at hgr
    have h7 := (Hrows.out r (List.mem_of_getElem? Hr.out)).le
    have h8 := Hfg.out
    have h10 := Hc1.out
    exact ⟨least2, s, HA, hn, hc, hh, [], RA, rn, rc, fs, by omega, HS2.out, HF.out, Hnd.out, HL.out, Nat.zero_le _, by omega, by omega, .inr (.inl ⟨rfl, by omega, fun k hk => by rw [hgr] at hk; cases hk⟩)⟩
   ·have hfull : ∀ k, runsN room rs = some k → rowC r ≤ room ∧ fs.length + 2 ≤ k := fun k hk => by
     by_cases h1 : room < rowC r
     ·have hgr := Hcut.out.great h1 (rs.drop (j + 1))
      rw [← Hts.out.2, hk] at hgr
      cases hgr
     ·have h2 := (Hcut.out.put hne hc1 (by omega)).le (t := rs.drop (j + 1)) (k := k) (by
       rw [List.append_assoc, show [r] ++ rs.drop (j + 1) = r :: rs.drop (j + 1) from rfl, ← Hts.out.2]
       exact hk)
      rw [if_neg (by simp), List.length_append, List.length_map, List.length_singleton] at h2
      exact ⟨by omega, by omega⟩
    have Hfull := Lib.hid hfull
    have Hne := Lib.hid hne
    have Hc1 := Lib.hid hc1
    have hall : rs = rowsOf fs ++ (held ++ rs.drop j) := by
     have h1 := Hcut.out.all_
     rw [← List.append_assoc]
     show rs = (fs.map FiM.c).flatten ++ held ++ rs.drop j
     rw [h1, List.take_append_drop]
    have Hall := Lib.hid hall
    have Hmem := Lib.hid hmem
    clear hfull hne hc1 hall Htk hcx
    rcases hcase with ⟨rfl, hS2, hcap⟩ | ⟨bf, l, s', RA', rn', rc', hbf, hF2, hcase⟩
    ·have HS2 := Lib.hid hS2
     have Hcap := Lib.hid (cut_cap HF.out hcap Hall.out (by omega))
     clear hS2 hcap Hfiles Hsr
     go_wp2_with fail
     go_ret2
     exact ⟨least2, s, HA, hn, hc, hh, held, RA, rn, rc, fs, by omega, HS2.out, HF.out, Hnd.out, HL.out, hfit, by omega, by omega, .inr (.inr ⟨rfl, (by have := Hcap.out; have := Hnn.out; have := Hmem.out.2.2.2; omega), fun k hk => by
      have h1 := (Hfull.out k hk).2
      have h2 := Hcap.out
      exact ⟨by omega, by omega⟩⟩)⟩
    ·have hnd2 : ((fs ++ [FiM.mk bf l held]).map FiM.b).Nodup := by
      rw [List.map_append, List.nodup_append]
      refine ⟨Hnd.out, by simp, fun x hx y hy e => ?_⟩
      obtain ⟨f, hf, rfl⟩ := List.mem_map.1 hx
      have := Hfiles.out f hf
      simp only [List.map_cons, List.map_nil, List.mem_singleton] at hy
      omega
     have emap : (fs ++ [FiM.mk bf l held]).map FiM.b = fs.map FiM.b ++ [bf] := by rw [List.map_append]; rfl
     have emapc : (fs ++ [FiM.mk bf l held]).map FiM.c = fs.map FiM.c ++ [held] := by rw [List.map_append]; rfl
     have Hnd2 := Lib.hid hnd2
     have HF2 := Lib.hid hF2
     have Hemap := Lib.hid emap
     have Hemapc := Lib.hid emapc
     have er : room - rowsC held + rowsC held = room := by omega
     rw [er] at hcase
     clear hnd2 hF2 emap emapc er Hsr Hfiles
     rcases hcase with ⟨rfl, hc2, hS2⟩ | ⟨rfl, hc2, HA2, hc3, hS2⟩
     ·have HS2 := Lib.hid hS2
      have Hc2 := Lib.hid hc2
      clear hS2 hc2
      have hrn' := HS2.out.runs.len
      rw [Ptrs_len, List.length_append, List.length_map, List.length_singleton] at hrn'
      go_wp2_with fail
      go_ret2
      have h7 := (Hrows.out r (List.mem_of_getElem? Hr.out)).le
      have h8 := Hfg.out
      have h10 := Hc2.out
      refine ⟨least2, s', none, 0, 0, [], [], RA', rn', rc', fs ++ [FiM.mk bf l held], by omega, ?_, HF2.out, Hnd2.out, LiveR.nil w0 B bp, Nat.zero_le _, by omega, by omega, .inr (.inl ⟨rfl, by omega, fun k hk => by have := (Hfull.out k hk).1; omega⟩)⟩
      rw [Hemap.out]
      exact HS2.out
     ·have HS2 := Lib.hid hS2
      have Hc2 := Lib.hid hc2
      clear hS2 hc2
      go_wp2_with fail
      go_roundw
      case rel =>
       refine ⟨j + 1, fs ++ [FiM.mk bf l held], HA2, 1, hc3, [.slice E rl d], [r], least2, s', RA', rn', rc', by omega, by go_num, ?_, ?_, HF2.out, Hnd2.out, HL1.out, by omega⟩
       ·rw [Hts.out.1, Hemapc.out]
        exact Hcut.out.put Hne.out Hc1.out Hc2.out
       ·rw [Hemap.out, show rowsC [r] = rowC r from by simp [rowsC]]
        exact HS2.out
      case measure => simp only [intOf, Int.toNat_natCast]; omega
  ·obtain rfl : nn = j := by omega
   have htk : rs.take nn = rs := List.take_of_length_le (by rw [Hnn.out]; exact Nat.le_refl _)
   rw [htk] at hcut
   have hhn : hn ≤ 1000 := by have := hmem.2.1; omega
   have hk := hcut.ended
   obtain ⟨hXr, hXw⟩ := HX.out _ hS.fr
   have d4 := hS.blk.cell 4
   have d2 := hS.blk.cell 2
   simp only [List.getElem?_cons_zero, List.getElem?_cons_succ] at d2 d4
   by_cases hr0 : rn = 0
   ·have hfs : fs = [] := List.eq_nil_of_length_eq_zero (by omega)
    subst hfs
    subst hr0
    have Hsrt := Lib.hid (sort_k rs hs nn xc X KA kn kc ks wq Hnn.out hXr hXw (by omega) (fun r hr => (Hrows.out r hr).len) Hkn.out (HK.out.turns hS.fr).1.rd hkm)
    have HS := Lib.hid hS
    have HF := Lib.hid hF
    have HL := Lib.hid hL
    have Hk := Lib.hid hk
    have Hnd := Lib.hid hnd
    clear hS hF hL hk hnd hXr hXw hcut htk hheld hmem
    go_wp2_with fail
    refine Hsrt.out.mono ?_
    rintro e w2 ⟨g2, dd, rfl, hd, hm2, hb2⟩
    have HT := Lib.hid (hd.told (B := B) hm2)
    have HS2 := Lib.hid (HS.out.below hb2)
    clear hd hm2 hb2 Hsrt HS d2 d4
    go_wp2_with fail
    go_ret2
    exact ⟨least1, s, HA, hn, hc, hh, held, RA, 0, rc, [], hle1, HS2.out, HF.out, Hnd.out, HL.out, hfit, by omega, by omega, .inl ⟨some ⟨g2, 0, none⟩, nn, by rw [Hnn.out]; rfl, by rw [Hnn.out]; exact HT.out, ⟨_, Hk.out⟩⟩⟩
   ·have hne : held ≠ [] := fun e => by
     have h1 := hcut.last e
     have h2 := congrArg List.length h1
     rw [List.length_map] at h2
     exact hr0 (by rw [← hrl, h2]; rfl)
    rw [if_neg hne, List.length_map] at hk
    have hpos : (0 : Int) < (rn : Int) := by omega
    have hput := put_s w0 wq B bs bp bS KA kn kc most (room - rowsC held) least1 s HA hn hc hh RA rn rc (fs.map FiM.b) fs ks N s0 held g hS hF HK.out Hkn.out hkm hL (by omega) hm (by omega) hheld (by omega) (by omega)
    have Hput := Lib.hid hput
    have er : room - rowsC held + rowsC held = room := by omega
    have hall : rs = rowsOf fs ++ (held ++ []) := by
     rw [List.append_nil]
     exact hcut.all_.symm
    have HF := Lib.hid hF
    have HL := Lib.hid hL
    have Hk := Lib.hid hk
    have Hnd := Lib.hid hnd
    have Hall := Lib.hid hall
    have Hne := Lib.hid hne
    have Her := Lib.hid er
    have Hfiles : Hid (∀ f ∈ fs, f.b < wq.heap.size) := fun f hf => by
     obtain ⟨k, ic, I, h1⟩ := hS.fi f hf
     exact h1.blk.lt
    clear hput hS hF hL hk hnd hXr hXw hcut htk hheld hall hne er
    go_wp2_with fail
    refine Hput.out.mono ?_
    rintro e w2 (⟨bf, l, s', RA', rn', rc', rfl, hbf, hS2, hF2⟩ | ⟨rfl, hS2, hcap⟩)
    ·have hnd2 : ((fs ++ [FiM.mk bf l held]).map FiM.b).Nodup := by
      rw [List.map_append, List.nodup_append]
      refine ⟨Hnd.out, by simp, fun x hx y hy e => ?_⟩
      obtain ⟨f, hf, rfl⟩ := List.mem_map.1 hx
      have := Hfiles.out f hf
      simp only [List.map_cons, List.map_nil, List.mem_singleton] at hy
      omega
     rw [Her.out] at hS2
     have hS3 : SrAt w0 w2 B bs bp bS KA kn kc most room least1 s' none 0 0 [] RA' rn' rc' ((fs ++ [FiM.mk bf l held]).map FiM.b) (fs ++ [FiM.mk bf l held]) := by
      rw [List.map_append]
      exact hS2
     have hrn' := hS3.runs.len
     rw [Ptrs_len, List.length_map, List.length_append, List.length_singleton] at hrn'
     have hro : rowsOf (fs ++ [FiM.mk bf l held]) = rs := by
      rw [rowsOf_app, rowsOf_one, Hall.out, List.append_nil]
     have hl3 : (fs ++ [FiM.mk bf l held]).length = fs.length + 1 := by rw [List.length_append]; rfl
     obtain ⟨K, hK⟩ : ∃ K, K = fs.length + 1 := ⟨_, rfl⟩
     rw [← hK] at Hk hl3
     have hK2 : 2 ≤ K := by omega
     have HS3 := Lib.hid hS3
     have HF2 := Lib.hid hF2
     have Hnd2 := Lib.hid hnd2
     have Hro := Lib.hid hro
     have Hl3 := Lib.hid hl3
     have hrm : rn' ≤ 1000000 := by omega
     have hK5 : K ≤ 1000 := by omega
     have hKn : K ≤ nn + 1 := by omega
     clear hS2 hS3 hF2 hnd2 hro hl3 hbf Hput Hfiles d2 d4 hrn' hK hpos hfit hmem
     go_wp2_with fail
     go_loopw [12] (fun _ wr => ∃ (fs2 : List FiM) (s2 : Pg.St) (least2 : Nat) (RA2 : Option Addr) (rn2 rc2 : Nat), SrAt w0 wr B bs bp bS KA kn kc most room least2 s2 none 0 0 [] RA2 rn2 rc2 (fs2.map FiM.b) fs2 ∧ Files ks N s0 s2 fs2 ∧ (fs2.map FiM.b).Nodup ∧ Hid (rowsOf fs2 = rs) ∧ fs2.length ≤ K ∧ least2 ≤ least) (fun _ wr => restRuns wr bS)
     case atStart => exact ⟨_, s', least1, RA', rn', rc', HS3.out, HF2.out, Hnd2.out, Hro.out, Nat.le_of_eq Hl3.out, hle1⟩
     case round =>
      obtain ⟨fs2, s2, least2, RA2, rn2, rc2, hS, hF, hnd, hro, hfl, hle2⟩ := hrel
      generalize wr = wp at *
      have d4 := hS.blk.cell 4
      simp only [List.getElem?_cons_zero, List.getElem?_cons_succ] at d4
      have hrl2 : fs2.length = rn2 := by
       have := hS.runs.len
       rw [Ptrs_len, List.length_map] at this
       exact this
      have Hrest := Lib.hid hS.restRuns
      by_cases hfn : fan < rn2
      ·have hfnI : (fan : Int) < (rn2 : Int) := by omega
       have hpass := pass_c w0 wp B bs bp bS KA kn kc most room least2 s2 none 0 0 [] RA2 rn2 rc2 fs2 ks N s0 fan g hS hF hnd hf2 h16 HK.out Hkn.out hkm hml hm (by omega) hg (by rw [hro.out]; exact Hrows.out) (by rw [hro.out, Hnn.out]; omega) (by rw [hro.out]; exact Hby.out) (by omega)
       have Hpass := Lib.hid hpass
       clear hpass hS hF hnd
       go_wp2_with fail
       refine Hpass.out.mono ?_
       rintro e w3 ⟨least3, s3, RA3, rn3, rc3, fs3, hle3, hS3, hF3, hnd3, hrn3, hcase⟩
       have HS3 := Lib.hid hS3
       have HF3 := Lib.hid hF3
       have Hnd3 := Lib.hid hnd3
       have hrl3 : fs3.length = rn3 := by
        have := hS3.runs.len
        rw [Ptrs_len, List.length_map] at this
        exact this
       clear hS3 hF3 hnd3 Hpass
       rcases hcase with ⟨rfl, h1, h2, h3⟩ | ⟨rfl, h1⟩ | ⟨rfl, h1⟩
       ·have Hr3 := Lib.hid (h1.trans hro.out)
        have h4 := h3 (by omega)
        clear h1 h3
        go_wp2_with fail
        go_roundw
        case rel => exact ⟨fs3, s3, least3, RA3, rn3, rc3, HS3.out, HF3.out, Hnd3.out, Hr3.out, by omega, by omega⟩
        case measure =>
         have e1 := HS3.out.restRuns
         have e2 := Hrest.out
         rw [e1, e2]
         omega
       ·have H1 := Lib.hid h1
        clear h1
        go_wp2_with fail
        go_ret2
        exact ⟨least3, s3, none, 0, 0, [], [], RA3, rn3, rc3, fs3, by omega, HS3.out, HF3.out, Hnd3.out, LiveR.nil w0 B bp, Nat.zero_le _, by omega, by omega, .inr (.inl ⟨rfl, H1.out, fun k hk => by rw [Hk.out] at hk; injection hk with hk; omega⟩)⟩
       ·rw [hro.out] at h1
        have H1 := Lib.hid h1
        clear h1
        go_wp2_with fail
        go_ret2
        exact ⟨least3, s3, none, 0, 0, [], [], RA3, rn3, rc3, fs3, by omega, HS3.out, HF3.out, Hnd3.out, LiveR.nil w0 B bp, Nat.zero_le _, by omega, by omega, .inr (.inr ⟨rfl, (by have := H1.out; have := Hnn.out; omega), fun k hk => by rw [Hk.out] at hk; injection hk with hk; have := H1.out; exact ⟨by omega, by omega⟩⟩)⟩
      ·have hfnI : ¬ ((fan : Int) < (rn2 : Int)) := by omega
       have HS := Lib.hid hS
       have HF := Lib.hid hF
       have Hnd := Lib.hid hnd
       clear hS hF hnd
       have hbA : Below wp.heap.size wp (wp.alloc (.cells #[.slice none 0 0] 32)) := (Below.refl _ _).alloc (Nat.le_refl _) _
       have hlast := last_c w0 (wp.alloc (.cells #[.slice none 0 0] 32)) wp B bs bp bS wp.heap.size KA RA2 kn kc most room least2 s2 none 0 0 [] RA2 rn2 rc2 (fs2.map FiM.b) fs2 ks N s0 rn2 rc2 g HS.out hbA (Nat.le_refl _) (Blk.new wp _ _) HF.out hrl2 (by omega) HK.out Hkn.out hkm (Rs.of_ownx HS.out.runs (by decide)) (fun b o e => by
        obtain ⟨_, ys, hy⟩ := HS.out.runs.type e
        exact ⟨hy.lt, Blk.ne_of_type hy HS.out.pu (by decide)⟩) hml hm (by omega) hg (by rw [hro.out]; exact Hrows.out) (by rw [hro.out, Hnn.out]; omega)
       rw [hro.out] at hlast
       have Hlast := Lib.hid hlast
       have d4A := cell_keep hbA d4
       clear hlast hbA
       go_wp2_with fail
       refine Hlast.out.mono ?_
       rintro e w3 ⟨least3, hle3, hS3, hcase⟩
       have HS3 := Lib.hid hS3
       clear hS3 Hlast d4A
       rcases hcase with ⟨rfl, A, c, hc, hT⟩ | ⟨rfl, h1⟩
       ·have HT := Lib.hid hT
        clear hT
        rw [sort_length, Hnn.out] at hc
        go_wp2_with fail
        go_ret2
        refine ⟨least3, s2, none, 0, 0, [], [], RA2, rn2, rc2, fs2, by omega, HS3.out, HF.out, Hnd.out, LiveR.nil w0 B bp, Nat.zero_le _, by omega, by omega, .inl ⟨A, c, by rw [Hnn.out]; rfl, ?_, ⟨K, Hk.out⟩⟩⟩
        have h9 := HT.out
        rw [sort_length] at h9
        exact h9
       ·have h2 := Nat.mul_le_mul_right g (show rn2 ≤ fan by omega)
        have h3 : room < fan * g := by omega
        have H3 := Lib.hid h3
        clear h1 h2 h3
        go_wp2_with fail
        go_ret2
        exact ⟨least3, s2, none, 0, 0, [], [], RA2, rn2, rc2, fs2, by omega, HS3.out, HF.out, Hnd.out, LiveR.nil w0 B bp, Nat.zero_le _, by omega, by omega, .inr (.inl ⟨rfl, H3.out, fun k hk => by rw [Hk.out] at hk; injection hk with hk; omega⟩)⟩
    ·have HS2 := Lib.hid hS2
     have Hcap := Lib.hid (cut_cap HF.out hcap Hall.out (by omega))
     clear hS2 hcap Hput
     go_wp2_with fail
     go_ret2
     exact ⟨least1, s, HA, hn, hc, hh, held, RA, rn, rc, fs, by omega, HS2.out, HF.out, Hnd.out, HL.out, hfit, by omega, by omega, .inr (.inr ⟨rfl, (by have := Hcap.out; have := Hnn.out; omega), fun k hk => by
      rw [Hk.out] at hk
      injection hk with hk
      have h2 := Hcap.out
      exact ⟨by omega, by omega⟩⟩)⟩
end Go.Proofs.YtcadjekcdokkjaaGreat
namespace Go.Proofs.YtcadjekcdokkjaaGreat
set_option linter.unusedVariables false
set_option linter.unusedSimpArgs false
open Go.RowKit
attribute [local go_sem ↓] Go.wp_at_zero Go.wp_at_succ
theorem Told.keeps {w w' : World} {B : Nat} {A : Option Addr} {n c : Nat} {rs : List RowM} (h : Told w B A n c rs) (hk : Keeps DropT B w w') : Told w' B A n c rs := by
 obtain ⟨h1, hs, h2⟩ := h
 exact ⟨h1, hs, fun w2 hk2 => h2 w2 (hk.trans hk2)⟩
theorem AllEnd.keeps {w w' : World} {B : Nat} {ks : List Ky} {N : List Nat} {s0 : Pg.St} {room fan g : Nat} {rs : List RowM} {e : Ending} (h : AllEnd B ks N s0 room fan g rs e w) (hk : Keeps DropT B w w') : AllEnd B ks N s0 room fan g rs e w' := by
 rcases h with ⟨A, c, h1, h2, h3⟩ | h | h
 ·exact .inl ⟨A, c, h1, h2.keeps hk, h3⟩
 ·exact .inr (.inl h)
 ·exact .inr (.inr h)
theorem sort_none (bs : Option Addr) (bp : Option Addr) (h : bs = none ∨ bp = none) (X : Option Addr) (nn xc : Nat) (KA : Option Addr) (kn kc : Nat) (fan : Int) (w : World) :
  Calls Tryz.prog 12 #[.pointer bs, .pointer bp, .slice X nn xc, .slice KA kn kc, .int .i64 fan] w fun e w' => e = .returned (.tuple #[.slice none 0 0, .int .i64 2]) ∧ w = w' := by
 rcases h with rfl | rfl
 ·go_enter_defers Tryz.func12, Tryz.ntmps12
  go_wp2_with fail
  all_goals exact ⟨_, results_tmp2 rfl _ _ _, rfl, rfl⟩
 ·cases bs with
  | none =>
   go_enter_defers Tryz.func12, Tryz.ntmps12
   go_wp2_with fail
   all_goals exact ⟨_, results_tmp2 rfl _ _ _, rfl, rfl⟩
  | some b =>
   go_enter_defers Tryz.func12, Tryz.ntmps12
   go_wp2_with fail
   all_goals exact ⟨_, results_tmp2 rfl _ _ _, rfl, rfl⟩
theorem sort_arg (bs bp : Addr) (X : Option Addr) (nn xc : Nat) (KA : Option Addr) (kn kc : Nat) (fan : Int) (h : fan < 2 ∨ 16 < fan) (w : World) :
  Calls Tryz.prog 12 #[.pointer (some bs), .pointer (some bp), .slice X nn xc, .slice KA kn kc, .int .i64 fan] w fun e w' => e = .returned (.tuple #[.slice none 0 0, .int .i64 1]) ∧ w = w' := by
 by_cases h2 : fan < 2
 ·clear h
  go_enter_defers Tryz.func12, Tryz.ntmps12
  go_wp2_with fail
  all_goals exact ⟨_, results_tmp2 rfl _ _ _, rfl, rfl⟩
 ·have h3 : 16 < fan := h.resolve_left h2
  clear h
  go_enter_defers Tryz.func12, Tryz.ntmps12
  go_wp2_with fail
  all_goals exact ⟨_, results_tmp2 rfl _ _ _, rfl, rfl⟩
set_option maxHeartbeats 16000000 in
set_option maxRecDepth 100000 in
theorem sort_s (w : World) (B bs bp : Nat) (KA : Option Addr) (kn kc most least : Nat) (X : Option Addr) (nn xc : Nat) (hs : List Value) (rs : List RowM) (ks : List Ky) (N : List Nat) (s0 : Pg.St) (room fan g : Nat)
  (hB : B ≤ w.heap.size) (hp : B ≤ bp) (hsto : Sto w B bs s0) (hpu : Pu w bp most room least) (hN : Pg.Has s0 N) (hX : Came w B bp X hs rs) (hnn : rs.length = nn) (hn1 : nn ≤ 500) (hK : KeyIn w B bp KA ks) (hkn : ks.length = kn) (hkm : kn ≤ 1000000) (hf2 : 2 ≤ fan) (h16 : fan ≤ 16)
  (hml : room ≤ most) (hm : most ≤ 1000000000000) (hle : least ≤ most) (hg : g ≤ 1000000000000) (hrows : ∀ r ∈ rs, FineR g r) (hby : (rowsB rs).length ≤ 90000) :
  Calls Tryz.prog 12 #[.pointer (some ⟨bs, 0, none⟩), .pointer (some ⟨bp, 0, none⟩), .slice X nn xc, .slice KA kn kc, .int .i64 (fan : Int)] w fun e w' => AllEnd B ks N s0 room fan g rs e w' ∧ ∃ least', least' ≤ least ∧ DropOut w w' B bs bp most room least' N s0 := by
 have hbA : Below w.heap.size w (w.alloc (.cells #[.pointer (some ⟨bs, 0, none⟩), .pointer (some ⟨bp, 0, none⟩), .slice KA kn kc, .slice none 0 0, .slice none 0 0] 78)) := (Below.refl _ _).alloc (Nat.le_refl _) _
 have hSA : SrAt w (w.alloc (.cells #[.pointer (some ⟨bs, 0, none⟩), .pointer (some ⟨bp, 0, none⟩), .slice KA kn kc, .slice none 0 0, .slice none 0 0] 78)) B bs bp w.heap.size KA kn kc most room least s0 none 0 0 [] none 0 0 [] [] :=
  ⟨hB, hp, hpu.lt, Turns.of_below hbA, hsto.below hbA, hpu.below hbA, Nat.le_refl _, Blk.new w _ _, Own.nil _ _ _ _, OwnX.nil _ _ _, fun f hf => by cases hf⟩
 have Hall := Lib.hid (all_s w _ B bs bp w.heap.size KA kn kc most least X nn xc hs rs ks N s0 room fan g hSA hN hX hnn hn1 hK hkn hkm hf2 h16 hml hm hle hg hrows hby)
 have hf2I : ¬ ((fan : Int) < 2) := by omega
 have h16I : ¬ ((16 : Int) < (fan : Int)) := by omega
 clear hbA hSA hsto hpu hN hX hnn hK hkn hrows hby
 go_enter_defers Tryz.func12, Tryz.ntmps12
 go_wp2_with fail
 refine Hall.out.mono ?_
 rintro e w2 ⟨least', s', HA', hn', hc', hh', held', RA', rn', rc', fs', hle', hS, hF, hnd, hL, hfit, hhn, hrn, hend⟩
 have er : room - rowsC held' + rowsC held' = room := by omega
 have hd := drop_s w w2 .returning B bs bp w.heap.size KA kn kc most (room - rowsC held') least' s' HA' hn' hc' hh' RA' rn' rc' fs' ks N s0 held' hS hF hnd hL (by omega) hm (by omega) hrn
 rw [er] at hd
 have Hd := Lib.hid hd
 clear hd hS hF hnd hL er Hall
 have Hend := Lib.hid hend
 rcases hend with ⟨A, c, rfl, hT, hk⟩ | ⟨rfl, hk⟩ | ⟨rfl, hk⟩
 ·clear hT hk
  go_wp2_with fail
  try simp only [Exit.inBlock, Exit.then]
  refine leaves_cons (f := 35) (args := #[.pointer (some ⟨w.heap.size, 0, none⟩)]) (by simp) (by simp [go_sem]) ?_
  refine Hd.out.mono ?_
  rintro e u' w7 ⟨rfl, rfl, hdo, hdk⟩
  refine ⟨_, results_tmp2 rfl _ _ _, ?_, least', hle', hdo⟩
  show AllEnd B ks N s0 room fan g rs (.returned (.tuple #[.slice A rs.length c, .int .i64 0])) w7
  exact Hend.out.keeps hdk
 ·clear hk
  go_wp2_with fail
  try simp only [Exit.inBlock, Exit.then]
  refine leaves_cons (f := 35) (args := #[.pointer (some ⟨w.heap.size, 0, none⟩)]) (by simp) (by simp [go_sem]) ?_
  refine Hd.out.mono ?_
  rintro e u' w7 ⟨rfl, rfl, hdo, hdk⟩
  refine ⟨_, results_tmp2 rfl _ _ _, ?_, least', hle', hdo⟩
  show AllEnd B ks N s0 room fan g rs (.returned (.tuple #[.slice none 0 0, .int .i64 5])) w7
  exact Hend.out.keeps hdk
 ·clear hk
  go_wp2_with fail
  try simp only [Exit.inBlock, Exit.then]
  refine leaves_cons (f := 35) (args := #[.pointer (some ⟨w.heap.size, 0, none⟩)]) (by simp) (by simp [go_sem]) ?_
  refine Hd.out.mono ?_
  rintro e u' w7 ⟨rfl, rfl, hdo, hdk⟩
  refine ⟨_, results_tmp2 rfl _ _ _, ?_, least', hle', hdo⟩
  show AllEnd B ks N s0 room fan g rs (.returned (.tuple #[.slice none 0 0, .int .i64 4])) w7
  exact Hend.out.keeps hdk
end Go.Proofs.YtcadjekcdokkjaaGreat
