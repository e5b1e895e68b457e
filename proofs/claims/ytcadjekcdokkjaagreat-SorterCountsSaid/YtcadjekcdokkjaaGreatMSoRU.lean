/- Walks: the sorter: drop. Walks: the sorter: the last merge. -/
import Derived.Test.YtcadjekcdokkjaaGreatMSoL
namespace Go.Proofs.YtcadjekcdokkjaaGreat
set_option linter.unusedVariables false
set_option linter.unusedSimpArgs false
open Go.RowKit
attribute [local go_sem ↓] Go.wp_at_zero Go.wp_at_succ
structure DropOut (w0 w' : World) (B bs bp most left least : Nat) (N : List Nat) (s0 : Pg.St) : Prop where
 st : ∃ s', Sto w' B bs s' ∧ Pg.Has s' N ∧ (∀ i ∈ N, s'[i]? = s0[i]?) ∧ s'.length = s0.length
 pu : Pu w' bp most left least
 fr : Turns (fun i => i = bp ∨ w0.heap.size ≤ i) StT B w0 w'
set_option maxHeartbeats 16000000 in
set_option maxRecDepth 100000 in
theorem drop_s (w0 w : World) (u : FrameMode) (B bs bp bS : Nat) (KA : Option Addr) (kn kc most left least : Nat) (s : Pg.St) (HA : Option Addr) (hn hc : Nat) (hh : List Value) (RA : Option Addr) (rn rc : Nat) (fs : List FiM) (ks : List Ky) (N : List Nat) (s0 : Pg.St) (held : List RowM)
  (h : SrAt w0 w B bs bp bS KA kn kc most left least s HA hn hc hh RA rn rc (fs.map FiM.b) fs) (hF : Files ks N s0 s fs) (hnd : (fs.map FiM.b).Nodup) (hL : LiveR w0 B bp hh held) (hl : left + rowsC held ≤ most) (hm : most ≤ 1000000000000) (hn1 : hn ≤ 1000000) (hrn1 : rn ≤ 1000000) :
  CallsD Tryz.prog 35 #[.pointer (some ⟨bS, 0, none⟩)] u w fun e u' w' => u' = u ∧ e = .returned (.tuple #[]) ∧ DropOut w0 w' B bs bp most (left + rowsC held) least N s0 ∧ Keeps DropT B w w' := by
 have hg := Lib.hid (give_c w0 w B bs bp bS KA kn kc most left least s HA hn hc hh RA rn rc _ fs held h hL hl hm hn1)
 have HF := Lib.hid hF
 have Hnd := Lib.hid hnd
 clear h hF hnd hL hl
 obtain ⟨L, hL⟩ : ∃ L, L = left + rowsC held := ⟨_, rfl⟩
 rw [← hL] at hg ⊢
 clear hL
 go_enter_d Tryz.func35, Tryz.ntmps35
 go_wp2_with fail
 refine hg.out.mono ?_
 rintro e w1 ⟨rfl, hS1, hT1, hK1⟩
 have d4 := hS1.blk.cell 4
 simp only [List.getElem?_cons_zero, List.getElem?_cons_succ] at d4
 have hrl : fs.length = rn := by
  have := hS1.runs.len
  rw [Ptrs_len, List.length_map] at this
  exact this
 have HS1 := Lib.hid hS1
 have HK1 := Lib.hid hK1
 clear hS1 hT1 hK1 hg
 go_wp2_with fail
 go_loopw [11] (fun ix w8 => ∃ (j : Nat) (s3 : Pg.St), j ≤ rn ∧ ix = .int .i64 (j : Int) ∧ SrAt w0 w8 B bs bp bS KA kn kc most L least s3 none 0 0 [] RA rn rc (fs.map FiM.b) (fs.drop j) ∧ Files ks N s0 s3 (fs.drop j) ∧ Keeps DropT B w w8) (fun ix _ => rn - (intOf ix).toNat)
 case atStart => exact ⟨0, s, by omega, by go_num, by rw [List.drop_zero]; exact HS1.out, by rw [List.drop_zero]; exact HF.out, HK1.out⟩
 case round =>
  obtain ⟨j, s3, hj, rfl, hS3, hF3, hK3⟩ := hrel
  generalize wr = wq at *
  by_cases hjn : j < rn
  ·have hjr : j < fs.length := by omega
   have hde : fs.drop j = fs[j] :: fs.drop (j + 1) := List.drop_eq_getElem_cons hjr
   obtain ⟨f, hf⟩ : ∃ f, f = fs[j] := ⟨_, rfl⟩
   rw [← hf] at hde
   have hfm : f ∈ fs.drop j := by rw [hde]; simp
   obtain ⟨kf, icf, If, hfi⟩ := hS3.fi f hfm
   have hrun := hS3.runs
   obtain ⟨gb, go, rfl, _, hrg⟩ := hrun.at_ (by omega)
   have q0 := hrg j (.pointer (some ⟨f.b, 0, none⟩)) (by unfold Ptrs; rw [List.getElem?_map, List.getElem?_map, List.getElem?_eq_getElem hjr, ← hf]; rfl)
   have htk := hF3.taken hfm
   have hcp := sto_len hS3.sto
   have hfl4 : ∀ i ∈ f.l, i < 4096 := fun i hi => by
    obtain ⟨x, hx⟩ := htk i hi
    have := (List.getElem?_eq_some_iff.1 hx).1
    omega
   have hkl := hfi.klen
   have hmx : kf ≤ 4096 := by
    have h1 := (hF3.has.perm (List.perm_append_comm)).le
    have h2 : f.l.length ≤ ((fs.drop j).flatMap FiM.l).length := by
     rw [hde]
     simp
    rw [List.length_append] at h1
    omega
   have hBw : B ≤ wq.heap.size := Nat.le_trans hS3.hB hS3.fr.size
   have hfd := Lib.hid (fdrop_o _ B bs f.b s3 f.l kf icf If _ wq hfi hS3.sto hBw hfl4 hmx)
   have hdF : Files ks N s0 (Pg.dropS s3 (f.l.map Int.ofNat)) (fs.drop (j + 1)) := by
    rw [hde] at hF3
    exact hF3.drop
   have hne : ∀ g ∈ fs.drop (j + 1), g ∈ fs.drop j ∧ g.b ≠ f.b := fun g hg => by
    refine ⟨by rw [hde]; exact List.mem_cons_of_mem _ hg, fun e => ?_⟩
    have h1 : ((fs.drop j).map FiM.b).Nodup := ((List.drop_sublist j fs).map FiM.b).nodup Hnd.out
    rw [hde, List.map_cons] at h1
    exact (List.nodup_cons.1 h1).1 (List.mem_map.2 ⟨g, hg, e⟩)
   have HdF := Lib.hid hdF
   have HS3 := Lib.hid hS3
   have Hne := Lib.hid hne
   have Hfm := Lib.hid hfm
   have HK3 := Lib.hid hK3
   have hjI : (j : Int) < (rn : Int) := by omega
   have hjI0 : (0 : Int) ≤ (j : Int) := by omega
   have Hfb : Hid (Blk wq f.b 109 _) := hfi.blk
   have hflow : B ≤ f.b := Nat.le_trans hS3.hB hfi.sf
   clear hde hfi hrun hrg htk hfl4 hF3 hS3 hdF hne hfm hkl hmx hf hjr hK3
   go_wp2_with fail
   refine hfd.out.mono ?_
   rintro e w9 ⟨rfl, hs9, hT9⟩
   have HS9 := Lib.hid (HS3.out.dropped Hfm.out hT9 hs9 Hne.out)
   have hk9 : Keeps DropT B wq w9 := by
    refine ⟨hT9.os, hT9.tape, hT9.output, hT9.size, fun k hk ht => ?_⟩
    refine hT9.block k hk (fun e => ?_) (ht.imp_right fun ht c t f e hm => ht c t f e (by unfold DropT; simp at hm ⊢; exact .inr (.inr (.inr hm))))
    subst e
    rcases ht with ht | ht
    ·omega
    ·exact ht _ _ _ Hfb.out (by unfold DropT; simp)
   have HK9 := Lib.hid (HK3.out.trans hk9)
   clear hs9 hT9 hfd HS3 Hne Hfm Hfb q0 hk9 HK3
   go_wp2_with fail
   go_roundw
   case rel => exact ⟨j + 1, _, by omega, by go_num, HS9.out, HdF.out, HK9.out⟩
   case measure => simp only [intOf, Int.toNat_natCast]; omega
  ·obtain rfl : rn = j := by omega
   have HS3 := Lib.hid hS3
   have HF3 := Lib.hid hF3
   have HK3 := Lib.hid hK3
   clear hS3 hF3 hK3
   go_wp2_with fail
   go_end0
   have h1 := HF3.out
   rw [← hrl, List.drop_length] at h1
   have h2 := h1.has
   rw [List.flatMap_nil, List.append_nil] at h2
   exact ⟨rfl, ⟨⟨s3, HS3.out.sto, h2, h1.same, h1.len⟩, HS3.out.pu, HS3.out.fr⟩, HK3.out⟩
end Go.Proofs.YtcadjekcdokkjaaGreat
namespace Go.Proofs.YtcadjekcdokkjaaGreat
set_option linter.unusedVariables false
set_option linter.unusedSimpArgs false
open Go.RowKit
attribute [local go_sem ↓] Go.wp_at_zero Go.wp_at_succ
def Told (w : World) (B : Nat) (A : Option Addr) (n c : Nat) (rs : List RowM) : Prop := rs.length = n ∧ ∃ hs, ∀ w', Keeps DropT B w w' → Rd w' A hs ∧ Rows w' hs rs
theorem OutP.told {bo : Nat} {acc : List RowM} {s : Pg.St} {w : World} {S : Nat → Prop} (B : Nat) (h : OutP bo acc s w S) : ∃ A c, w.cell? ⟨bo, 0, none⟩ = some (.slice A acc.length c) ∧ Told w B A acc.length c acc := by
 obtain ⟨_, A, c, hs, h1, h2, _, h4⟩ := h
 have b0 := h1.cell 0
 simp only [List.getElem?_cons_zero] at b0
 refine ⟨A, c, b0, rfl, hs, fun w' hk => ⟨(Own.keeps h2 (by decide) hk).rd, h4.1, fun i r hi => ?_⟩⟩
 obtain ⟨A', n', c', e1, e2, e3, _, e4⟩ := h4.2 i r hi
 have hc := e3.cap
 subst e2
 exact ⟨A', c', e1, hc.1, hc.2, (Own.keeps e3 (by decide) hk).rd, e4⟩
theorem Dat.told {w : World} {B0 B g n : Nat} {d : Nat → Hr} {rs : List RowM} (h : Dat w B0 g n d) (hm : ((List.range n).map fun p => (d p).2) = rs) : Told w B (some ⟨g, 0, none⟩) n n rs := by
 refine ⟨by rw [← hm, List.length_map, List.length_range], tab n fun p => (d p).1, fun w' hk => ?_⟩
 rw [← hm]
 exact (h.keeps (by decide) hk).rows
def OutQ (bo : Nat) (s : Pg.St) (acc : List RowM) (s' : Pg.St) (w : World) (S : Nat → Prop) : Prop := s' = s ∧ OutP bo acc s w S
theorem OutQ.good (B bo : Nat) (s : Pg.St) (acc : List RowM) (s' : Pg.St) : Good B (OutQ bo s acc s') := (Good.pure _).and (OutP.good ..)
theorem outq_to (B bs bo : Nat) (F : List Nat) (T : List RowM) (s0 : Pg.St) (hT : T.length ≤ 1000000) : ToC B bs F T 62 #[] #[.pointer (some ⟨bo, 0, none⟩)] (OutQ bo s0) (fun _ _ _ => False) := by
 refine ⟨Go.Proofs.enters_of Tryz.func62 (by kernel_rfl) rfl, fun acc s => OutQ.good .., fun s => Good.pure False, ?_⟩
 intro acc r s w S A n c h hs hB hy hn ho hi hf hok hl hp
 obtain ⟨rfl, h⟩ := h
 obtain ⟨l, hp⟩ := hp
 have hlen := hp.length_eq
 rw [List.length_append, List.length_cons] at hlen
 refine (outp_c B bs bo acc r s w S A n c h hs hy hn ho hi hok hl (by omega)).mono ?_
 rintro e w' ⟨rfl, h1, h2, h3⟩
 exact ⟨s, h2, h3, fun _ _ => rfl, .inl ⟨rfl, rfl, h1⟩⟩
def LastOut (w0 w : World) (B bs bp bS : Nat) (KA : Option Addr) (kn kc most left least : Nat) (s : Pg.St) (HA : Option Addr) (hn hc : Nat) (hh : List Value) (RA : Option Addr) (rn rc : Nat) (rs : List Nat) (fs : List FiM) (bo n g : Nat) (out : List RowM) (e : Ending) (w' : World) : Prop :=
 ∃ least', least' ≤ least ∧ SrAt w0 w' B bs bp bS KA kn kc most left least' s HA hn hc hh RA rn rc rs fs ∧
  ((e = .returned (.int .i64 0) ∧ ∃ A c, w'.cell? ⟨bo, 0, none⟩ = some (.slice A out.length c) ∧ Told w' B A out.length c out) ∨
   (e = .returned (.int .i64 5) ∧ left < n * g))
set_option maxHeartbeats 16000000 in
set_option maxRecDepth 100000 in
theorem last_c (w0 w wb : World) (B bs bp bS bo : Nat) (KA FA : Option Addr) (kn kc most left least : Nat) (s : Pg.St) (HA : Option Addr) (hn hc : Nat) (hh : List Value) (RA : Option Addr) (rn rc : Nat) (rs : List Nat) (fs : List FiM) (ks : List Ky) (N : List Nat) (s0 : Pg.St) (n fc g : Nat)
  (h : SrAt w0 wb B bs bp bS KA kn kc most left least s HA hn hc hh RA rn rc rs fs) (hbw : Below wb.heap.size wb w) (hbo : wb.heap.size ≤ bo) (hbk : Blk w bo 32 [.slice none 0 0]) (hF : Files ks N s0 s fs) (hnl : fs.length = n) (h16 : n ≤ 16) (hK : KeyIn w0 B bp KA ks) (hkn : ks.length = kn) (hkm : kn ≤ 1000000)
  (hFA : Rs StT B wb FA (Ptrs (fs.map FiM.b))) (hFp : InS (fun i => i < wb.heap.size ∧ i ≠ bp) FA) (hml : left ≤ most) (hm : most ≤ 1000000000000) (hle : least ≤ most) (hg : g ≤ 1000000000000)
  (hrows : ∀ r ∈ rowsOf fs, FineR g r) (htot : (rowsOf fs).length ≤ 1000000) :
  Calls Tryz.prog 61 #[.pointer (some ⟨bS, 0, none⟩), .slice FA n fc, .func (.func 62) #[] #[.pointer (some ⟨bo, 0, none⟩)]] w fun e w' => LastOut w0 w B bs bp bS KA kn kc most left least s HA hn hc hh RA rn rc rs fs bo n g (sortR ks (rowsOf fs)) e w' := by
 have hBw : B ≤ wb.heap.size := Nat.le_trans h.hB h.fr.size
 have hK1 := hK.turns h.fr
 have hlen4 := sto_len h.sto
 have hFl : ∀ i ∈ fs.flatMap FiM.l, i < 1000000 := fun i hi => by
  obtain ⟨f, hf, hi⟩ := List.mem_flatMap.1 hi
  obtain ⟨x, hx⟩ := hF.taken hf i hi
  have := (List.getElem?_eq_some_iff.1 hx).1
  omega
 have hin := JP0.min (B := B) (bS := bS) (bs := bs) (bp := bp) (KA := KA) (FA := FA) (kn := kn) (kc := kc) (ks := ks) (X := .slice HA hn hc) (Y := .slice RA rn rc) (fs := fs) (s := s) (F := fs.flatMap FiM.l) fun f hf => ⟨(hF.lies f hf).1, fun x hx => List.mem_flatMap.2 ⟨f, hf, hx⟩⟩
 have hto := outq_to B bs bo (fs.flatMap FiM.l) (rowsOf fs) s htot
 have hpu := h.pu
 have hbpl := hpu.lt
 have hne : ∀ {t : TypeId} {xs : List Value} (g : Nat), Blk wb g t xs → t ≠ 74 → g ≠ bp := fun g hb ht e => by
  subst e
  exact ht (Blk.one hb hpu)
 have hfam := Fam.start1 (P0 := JP0 B bS bs bp KA FA kn kc ks (.slice HA hn hc) (.slice RA rn rc) fs) hBw h.hp (JP0.good ..) ⟨⟨⟨h.blk.lt, hne _ h.blk (by decide)⟩, h.blk⟩, ⟨hK1.1, hK1.2⟩, ⟨hFA, fun _ => hFp⟩, fun f hf => by
  obtain ⟨k, ic, I, hfi⟩ := h.fi f hf
  refine ⟨k, ic, I, ⟨⟨hfi.blk.lt, hne _ hfi.blk (by decide)⟩, hfi.blk, hfi.ids, fun b o e => ⟨Good.own_lt hfi.ids e, ?_⟩⟩⟩
  obtain ⟨_, ys, hy⟩ := Own.type hfi.ids e
  exact hne _ hy (by decide)⟩ h.pu
 have hf1 := (hfam.next hbw (d := 2) (Q := OutQ bo s [] s) (by omega) (OutQ.good ..) ⟨rfl, .inr hbo, none, 0, [], hbk, Own.nil _ _ _ _, InS.nil _, rfl, fun p r hr => by simp at hr⟩).cast MP.up2
 refine (merge_c wb B (colP bp) _ _ (OutQ bo s) (fun _ _ _ => False) bS bs bp most left least g s (fs.flatMap FiM.l) KA FA kn kc fc n 62 #[] #[.pointer (some ⟨bo, 0, none⟩)] ks (fs.map FiM.b) (fs.map FiM.c) w hin hto hf1 (h.sto.below hbw) (by rw [List.length_map]; exact hnl) (by rw [List.length_map]; exact hnl) h16 hkn hkm hml hm hle hFl (fun c hc => by
  obtain ⟨f, hf, rfl⟩ := List.mem_map.1 hc
  have h2 := FineR.all hrows htot f hf
  exact ⟨h2.1, fun r hr => ⟨(h2.2 r hr).fine, (h2.2 r hr).ok, (h2.2 r hr).le, (h2.2 r hr).len⟩⟩) hg htot).mono ?_
 rintro e w2 ⟨s2, col2, least2, P2, hf2, hs2, hF2, hle2, hcase⟩
 have hT2 := hf2.turned
 have hp2 : Pu w2 bp most left least2 := (hf2.at_ 1).2
 have hq : P2 w2 (Of w2 col2 2) := hf2.at_ 2
 rcases hcase with ⟨rfl, rfl⟩ | ⟨rfl, hlow, acc, rfl⟩ | ⟨rfl, rfl⟩
 ·obtain ⟨rfl, hq⟩ := hq
  exact ⟨least2, hle2, h.turn hT2 hs2 hp2, .inl ⟨rfl, hq.told B⟩⟩
 ·obtain ⟨rfl, hq⟩ := hq
  exact ⟨least2, hle2, h.turn hT2 hs2 hp2, .inr ⟨rfl, hlow⟩⟩
 ·exact hq.elim
end Go.Proofs.YtcadjekcdokkjaaGreat
