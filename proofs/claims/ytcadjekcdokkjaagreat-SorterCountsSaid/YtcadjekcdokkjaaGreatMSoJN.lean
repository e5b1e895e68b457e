/- Walks: the sorter: join. Walks: the sorter: what turns parts of it alone; a file's Drop that turns that file alone. Walks: the sorter: give, put. -/
import Derived.Test.YtcadjekcdokkjaaGreatMSoFH
namespace Go.Proofs.YtcadjekcdokkjaaGreat
set_option linter.unusedVariables false
set_option linter.unusedSimpArgs false
open Go.RowKit
attribute [local go_sem ↓] Go.wp_at_zero Go.wp_at_succ
def KeyIn (w : World) (B bp : Nat) (KA : Option Addr) (ks : List Ky) : Prop := Rs StT B w KA (kyc ks) ∧ (kyc ks ≠ [] → InS (fun i => i < w.heap.size ∧ i ≠ bp) KA)
theorem KeyIn.turns {w w' : World} {B bp : Nat} {KA : Option Addr} {ks : List Ky} (h : KeyIn w B bp KA ks) (hT : Turns (fun i => i = bp ∨ w.heap.size ≤ i) StT B w w') : KeyIn w' B bp KA ks := by
 have h2 := (Good.rs (B := B) KA (kyc ks)).turns w w' (fun i => i < w.heap.size ∧ i ≠ bp) (fun i => i = bp ∨ w.heap.size ≤ i) h (fun i hi ht => by rcases ht with ht | ht <;> omega) hT
 exact (Good.rs (B := B) KA (kyc ks)).mono w' _ _ h2 fun i hi => ⟨Nat.lt_of_lt_of_le hi.1 hT.size, hi.2⟩
structure FineR (g : Nat) (r : RowM) : Prop where
 fine : Pg.Fine r
 ok : ∀ v ∈ r, v.ok
 le : rowC r ≤ g
 len : r.length ≤ 1000000
def JoinOut (w0 w : World) (B bs bp bS : Nat) (KA : Option Addr) (kn kc most left least : Nat) (s : Pg.St) (HA : Option Addr) (hn hc : Nat) (hh : List Value) (RA : Option Addr) (rn rc : Nat) (rs : List Nat) (fs : List FiM) (ks : List Ky) (N : List Nat) (s0 : Pg.St) (C : List RowM) (n g : Nat) (e : Ending) (w' : World) : Prop :=
 Turns (fun i => i = bp ∨ w.heap.size ≤ i) StT B w w' ∧ ∃ least', least' ≤ least ∧
  ((∃ bf l s', e = .returned (.tuple #[.pointer (some ⟨bf, 0, none⟩), .int .i64 0]) ∧ w.heap.size ≤ bf ∧ SrAt w0 w' B bs bp bS KA kn kc most left least' s' HA hn hc hh RA rn rc rs (fs ++ [⟨bf, l, C⟩]) ∧ Files ks N s0 s' (fs ++ [⟨bf, l, C⟩])) ∨
   (∃ er : Int, e = .returned (.tuple #[.pointer none, .int .i64 er]) ∧ SrAt w0 w' B bs bp bS KA kn kc most left least' s HA hn hc hh RA rn rc rs fs ∧ ((er = 5 ∧ left < n * g) ∨ (er = 4 ∧ s.length < Pg.used s + Pg.need (rowsB C).length))))
theorem Turns.then {S : Nat → Prop} {B bp : Nat} {w w1 w2 : World} (h : Turns (fun i => i = bp ∨ w.heap.size ≤ i) StT B w w1) (hT : Turns S StT B w1 w2) (hS : ∀ i, S i → w.heap.size ≤ i) : Turns (fun i => i = bp ∨ w.heap.size ≤ i) StT B w w2 :=
 h.trans (hT.more fun k _ hk => .inr (hS k hk))
theorem Pu.turned {S : Nat → Prop} {B bp most left least : Nat} {w w' : World} (h : Pu w bp most left least) (hT : Turns S StT B w w') (hS : ¬ S bp) : Pu w' bp most left least := Blk.turns h hS (by decide) hT
set_option maxHeartbeats 16000000 in
set_option maxRecDepth 100000 in
theorem join_c (w0 w : World) (B bs bp bS : Nat) (KA FA : Option Addr) (kn kc most left least : Nat) (s : Pg.St) (HA : Option Addr) (hn hc : Nat) (hh : List Value) (RA : Option Addr) (rn rc : Nat) (rs : List Nat) (fs sfs : List FiM) (ks : List Ky) (N : List Nat) (s0 : Pg.St) (n fc g : Nat)
  (h : SrAt w0 w B bs bp bS KA kn kc most left least s HA hn hc hh RA rn rc rs fs) (hF : Files ks N s0 s fs) (hsub : ∀ f ∈ sfs, f ∈ fs) (hnl : sfs.length = n) (h16 : n ≤ 16) (hK : KeyIn w0 B bp KA ks) (hkn : ks.length = kn) (hkm : kn ≤ 1000000)
  (hFA : Rs StT B w FA (Ptrs (sfs.map FiM.b))) (hFp : InS (fun i => i < w.heap.size ∧ i ≠ bp) FA) (hml : left ≤ most) (hm : most ≤ 1000000000000) (hle : least ≤ most) (hg : g ≤ 1000000000000)
  (hrows : ∀ f ∈ sfs, f.c.length ≤ 1000000 ∧ ∀ r ∈ f.c, FineR g r) (htot : (sfs.map FiM.c).flatten.length ≤ 1000000) (hby : (rowsB (sfs.map FiM.c).flatten).length ≤ 90000) :
  Calls Tryz.prog 77 #[.pointer (some ⟨bS, 0, none⟩), .slice FA n fc] w fun e w' => JoinOut w0 w B bs bp bS KA kn kc most left least s HA hn hc hh RA rn rc rs fs ks N s0 (sfs.map FiM.c).flatten n g e w' := by
 have b0 := h.blk.cell 0
 simp only [List.getElem?_cons_zero] at b0
 have hBw : B ≤ w.heap.size := Nat.le_trans h.hB h.fr.size
 have hK1 := hK.turns h.fr
 have hlen4 := sto_len h.sto
 have htk : ∀ i ∈ sfs.flatMap FiM.l, ∃ x, s[i]? = some (some x) := fun i hi => by
  obtain ⟨f, hf, hi⟩ := List.mem_flatMap.1 hi
  exact hF.taken (hsub f hf) i hi
 have hFl : ∀ i ∈ sfs.flatMap FiM.l, i < 1000000 := fun i hi => by
  obtain ⟨x, hx⟩ := htk i hi
  have := (List.getElem?_eq_some_iff.1 hx).1
  omega
 have hin := Lib.hid (JP0.min (B := B) (bS := bS) (bs := bs) (bp := bp) (KA := KA) (FA := FA) (kn := kn) (kc := kc) (ks := ks) (X := .slice HA hn hc) (Y := .slice RA rn rc) (fs := sfs) (s := s) (F := sfs.flatMap FiM.l) fun f hf => ⟨(hF.lies f (hsub f hf)).1, fun x hx => List.mem_flatMap.2 ⟨f, hf, hx⟩⟩)
 have hto := fun bw => wrp_to B bs bw (sfs.flatMap FiM.l) (sfs.map FiM.c).flatten s htot htk
 have hpu := h.pu
 have hbpl := hpu.lt
 have hne : ∀ {A : Option Addr} {n c : Nat} {t : TypeId} {xs : List Value} (g : Nat), Blk w g t xs → t ≠ 74 → g ≠ bp := fun g hb ht e => by
  subst e
  unfold Blk at hb
  unfold Pu Blk at hpu
  rw [hb] at hpu
  injection hpu with hpu
  injection hpu with _ hpu
  exact ht hpu
 have hfam := Fam.start1 (P0 := JP0 B bS bs bp KA FA kn kc ks (.slice HA hn hc) (.slice RA rn rc) sfs) hBw h.hp (JP0.good ..) ⟨⟨⟨h.blk.lt, hne (A := none) (n := 0) (c := 0) _ h.blk (by decide)⟩, h.blk⟩, ⟨hK1.1, hK1.2⟩, ⟨hFA, fun _ => hFp⟩, fun f hf => by
  obtain ⟨k, ic, I, hfi⟩ := h.fi f (hsub f hf)
  refine ⟨k, ic, I, ⟨⟨hfi.blk.lt, hne (A := none) (n := 0) (c := 0) _ hfi.blk (by decide)⟩, hfi.blk, hfi.ids, fun b o e => ⟨Good.own_lt hfi.ids e, ?_⟩⟩⟩
  rcases Own.lies hfi.ids with ⟨ha, _⟩ | ⟨g, cur, ha, _, _, hh, _⟩
  ·rw [ha] at e; cases e
  ·rw [ha] at e
   injection e with e
   injection e with e _
   subst e
   exact hne (A := none) (n := 0) (c := 0) (t := 3) (xs := cur.toList) _ (by unfold Blk; rw [hh]) (by decide)⟩ h.pu
 have Hfam := Lib.hid hfam
 have H := Lib.hid h
 have HF := Lib.hid hF
 have Hto := Lib.hid hto
 have Hrows : Hid (∀ c ∈ sfs.map FiM.c, c.length ≤ 1000000 ∧ ∀ r ∈ c, Pg.Fine r ∧ (∀ v ∈ r, v.ok) ∧ rowC r ≤ g ∧ r.length ≤ 1000000) := fun c hc => by
  obtain ⟨f, hf, rfl⟩ := List.mem_map.1 hc
  exact ⟨(hrows f hf).1, fun r hr => ⟨((hrows f hf).2 r hr).fine, ((hrows f hf).2 r hr).ok, ((hrows f hf).2 r hr).le, ((hrows f hf).2 r hr).len⟩⟩
 have HFl := Lib.hid hFl
 have Htk := Lib.hid htk
 have Hnl := Lib.hid hnl
 have Hkn := Lib.hid hkn
 clear h hF hfam hto hrows hFl htk hnl hkn hK hK1 hFA hFp hpu hne hsub
 go_enter Tryz.func77, Tryz.ntmps77
 go_wp2_with fail
 refine (new_c (some ⟨bs, 0, none⟩) w).mono ?_
 rintro e w1 ⟨rfl, hb, hb1, hlt1⟩
 have hf1 := (Hfam.out.next hb1 (d := 2) (Q := WrP bs w.heap.size s [] s) (by omega) (WrP.good ..) ⟨[], 0, 0, none, [], 0, 0, none, ⟨.inr (Nat.le_refl _), hb, Own.nil _ _ _ _, InS.nil _, OwnX.nil _ _ _, InS.nil _⟩, Pg.Laid.nil s, by decide, Pg.Grew.nil s⟩).cast MP.up2
 have hmc := merge_c w B (colP bp) _ _ (WrP bs w.heap.size s) (WrX bs w.heap.size s (sfs.map FiM.c).flatten) bS bs bp most left least g s (sfs.flatMap FiM.l) KA FA kn kc fc n 93 #[.pointer (some ⟨w.heap.size, 0, none⟩)] #[] ks (sfs.map FiM.b) (sfs.map FiM.c) w1 hin.out (Hto.out _) hf1 (H.out.sto.below hb1) (by rw [List.length_map]; exact Hnl.out) (by rw [List.length_map]; exact Hnl.out) h16 Hkn.out hkm hml hm hle HFl.out Hrows.out hg htot
 have Hmc := Lib.hid hmc
 have HT1 := Lib.hid (Turns.of_below (S := fun i => i = bp ∨ w.heap.size ≤ i) (T := StT) (B := B) hb1)
 clear hmc hf1 hb
 go_wp2_with fail
 refine Hmc.out.mono ?_
 rintro e w2 ⟨s2, col2, least2, P2, hf2, hs2, hF2, hle2, hcase⟩
 have HT2 := Lib.hid hf2.turned
 have hp2 : Pu w2 bp most left least2 := (hf2.at_ 1).2
 have Hp2 := Lib.hid hp2
 have hz2 := HT2.out.size
 have hnew : ∀ i, (Of w2 col2 2 i ∨ w2.heap.size ≤ i) → w.heap.size ≤ i := fun i hi => hi.elim (fun h2 => hf2.new2 (by omega) h2) fun h2 => Nat.le_trans hz2 h2
 have Hnew := Lib.hid hnew
 have hq : P2 w2 (Of w2 col2 2) := hf2.at_ 2
 clear hf2 hp2 hnew hin Hfam Hmc
 rcases hcase with ⟨rfl, rfl⟩ | ⟨rfl, hlow, acc, rfl⟩ | ⟨rfl, rfl⟩
 ·obtain ⟨l, k, ic, I, rest, n1, rc1, R1, q1, q2, q3, q4⟩ := hq
  obtain ⟨s3, l3, er, hlast⟩ : ∃ s3 l3 er, Pg.last s2 l rest = (s3, l3, er) := ⟨_, _, _, rfl⟩
  have hg3 := q4.last rest
  rw [hlast] at hg3
  have hg3 : Pg.Grew s s3 l3 := hg3
  have hnl1 := q1.nlen
  have hdn := done_c (fun i => Of w2 col2 2 i ∨ w2.heap.size ≤ i) B bs w.heap.size s2 s3 l l3 k ic I rest n1 rc1 R1 _ er w2 (q1.wide fun i hi => .inl hi) hs2 (by omega) q4.mine (fun j hj => .inr hj) (by omega) hlast
  have Hdn := Lib.hid hdn
  have Hlast := Lib.hid hlast
  have Hg3 := Lib.hid hg3
  have Hq2 := Lib.hid q2
  have Hq3 := Lib.hid q3
  clear hdn hlast hg3 q1 q2 q3 q4 hs2 hF2
  go_wp2_with fail
  refine Hdn.out.mono ?_
  rintro e w3 ⟨⟨rfl, bf, k3, ic3, I3, rfl, r1, r2, r3⟩ | ⟨rfl, rfl, r1, r2⟩, hT3⟩
  ·have hT3' := Lib.hid (HT2.out.then hT3 Hnew.out)
   have hp3 := Lib.hid (Hp2.out.turned hT3 fun hi => by have := Hnew.out _ hi; omega)
   have hold := Hq2.out.done Hq3.out Hlast.out
   rw [sort_length] at r2
   have hll : l3.length = Pg.need (rowsB (sfs.map FiM.c).flatten).length := by rw [hold.len, sortB_len]
   have hz0 := H.out.fr.size
   have Hsr := Lib.hid ((H.out.turn hT3'.out r1 hp3.out).file (f := ⟨bf, l3, (sfs.map FiM.c).flatten⟩) (r2.wide fun i hi => Nat.le_trans hz0 (Hnew.out i hi)))
   have Hfs := Lib.hid (HF.out.grow Hg3.out bf (c := (sfs.map FiM.c).flatten) ⟨hold.hon, fun r hr => by
    obtain ⟨c, hc, hrc⟩ := List.mem_flatten.1 ((sort_perm ks _).mem_iff.1 hr)
    exact ((Hrows.out c hc).2 r hrc).1, by
    have := need_le (rowsB (sfs.map FiM.c).flatten).length
    omega⟩ (Nat.le_of_eq hll))
   have Hbf := Lib.hid (Hnew.out _ r2.sf)
   clear r1 r2 r3 hold hll hT3 hz0 Hdn
   go_wp2_with fail
   go_ret2
   exact ⟨hT3'.out, least2, hle2, .inl ⟨bf, l3, s3, rfl, Hbf.out, Hsr.out, Hfs.out⟩⟩
  ·have hT3' := Lib.hid (HT2.out.then hT3 Hnew.out)
   have hp3 := Lib.hid (Hp2.out.turned hT3 fun hi => by have := Hnew.out _ hi; omega)
   have hfull := Hq2.out.last_full Hq3.out Hlast.out
   rw [sortB_len] at hfull
   have Hfull := Lib.hid hfull
   rw [Hg3.out.drop] at r1
   have Hsr := Lib.hid (H.out.turn hT3'.out r1 hp3.out)
   clear r1 r2 hT3 hfull Hdn
   go_wp2_with fail
   go_ret2
   exact ⟨hT3'.out, least2, hle2, .inr ⟨4, rfl, Hsr.out, .inr ⟨rfl, Hfull.out⟩⟩⟩
 ·obtain ⟨l, k, ic, I, rest, n1, rc1, R1, q1, q2, q3, q4⟩ := hq
  have h40 := sto_len hs2
  have hmx := q4.mine.max
  have hkl := q1.klen
  have hcn := cancel_c (fun i => Of w2 col2 2 i ∨ w2.heap.size ≤ i) B bs w.heap.size s2 l k ic I rest n1 rc1 R1 _ w2 (q1.wide fun i hi => .inl hi) hs2 (by omega) q4.mine.in_ (by omega)
  rw [q4.drop] at hcn
  have Hcn := Lib.hid hcn
  clear hcn q1 q2 q3 q4 hs2 hF2 h40 hmx hkl
  have Hlow := Lib.hid hlow
  clear hlow
  go_wp2_with fail
  refine Hcn.out.mono ?_
  rintro e w3 ⟨rfl, r1, r2, hT3⟩
  have hT3' := Lib.hid (HT2.out.then hT3 Hnew.out)
  have hp3 := Lib.hid (Hp2.out.turned hT3 fun hi => by have := Hnew.out _ hi; omega)
  have Hsr := Lib.hid (H.out.turn hT3'.out r1 hp3.out)
  clear r1 r2 hT3 Hcn
  go_wp2_with fail
  go_ret2
  exact ⟨hT3'.out, least2, hle2, .inr ⟨5, rfl, Hsr.out, .inl ⟨rfl, Hlow.out⟩⟩⟩
 ·obtain ⟨rfl, hfull, l, k, ic, I, rest, n1, rc1, R1, many, q1⟩ := hq
  have hcn := cancel_ended _ bs w.heap.size l k ic I rest n1 rc1 R1 many w2 q1
  have Hcn := Lib.hid hcn
  have Hfull := Lib.hid hfull
  have Hsr := Lib.hid (H.out.turn HT2.out hs2 Hp2.out)
  clear hcn q1 hfull hs2 hF2
  go_wp2_with fail
  refine Hcn.out.mono ?_
  rintro e w3 ⟨rfl, rfl⟩
  clear Hcn
  go_wp2_with fail
  go_ret2
  exact ⟨HT2.out, least2, hle2, .inr ⟨4, rfl, Hsr.out, .inr ⟨rfl, Hfull.out⟩⟩⟩
end Go.Proofs.YtcadjekcdokkjaaGreat
namespace Go.Proofs.YtcadjekcdokkjaaGreat
set_option linter.unusedVariables false
set_option linter.unusedSimpArgs false
open Go.RowKit
attribute [local go_sem ↓] Go.wp_at_zero Go.wp_at_succ
theorem Efils : ElemT Tryz.prog 76 94 1 8 (.pointer none) := ElemT.mk' (by kernel_rfl) (by kernel_rfl) rfl (by omega)
theorem Own.type {w : World} {base : Nat} {e : TypeId} {size : Nat} {A : Option Addr} {n c : Nat} {xs : List Value} (h : Own w base e size A n c xs) {b o : Nat} (ha : A = some ⟨b, o, none⟩) : base ≤ b ∧ ∃ ys, Blk w b e ys := by
 rcases Own.lies h with ⟨h1, _⟩ | ⟨g, cur, h1, hg, hlt, hh, _⟩
 ·rw [h1] at ha; cases ha
 ·rw [h1] at ha
  injection ha with ha
  injection ha with ha _
  subst ha
  exact ⟨hg, cur.toList, by unfold Blk; rw [hh]⟩
theorem OwnX.type {w : World} {base : Nat} {e : TypeId} {A : Option Addr} {n c : Nat} {xs : List Value} (h : OwnX w base e A n c xs) {b o : Nat} (ha : A = some ⟨b, o, none⟩) : base ≤ b ∧ ∃ ys, Blk w b e ys := by
 rcases h with ⟨h1, _⟩ | ⟨g, off, ys, h1, h2, h3, _⟩
 ·rw [h1] at ha; cases ha
 ·rw [h1] at ha
  injection ha with ha
  injection ha with ha _
  subst ha
  exact ⟨h2, ys, h3⟩
theorem Blk.one {w : World} {g : Nat} {t t' : TypeId} {xs ys : List Value} (h : Blk w g t xs) (k : Blk w g t' ys) : t = t' := by
 unfold Blk at h k
 rw [h] at k
 injection k with k
 injection k with _ k
theorem FiAt.other {S : Nat → Prop} {B bs g bf : Nat} {l : List Nat} {k ic : Nat} {I : Option Addr} {many : Int} {w w' : World} {xs : List Value} (h : FiAt w S bs g l k ic I many) (hT : Turns (fun i => i = bf) StT B w w') (hb : Blk w bf 109 xs) (hne : g ≠ bf) : FiAt w' S bs g l k ic I many :=
 ⟨h.sf, h.blk.turns hne (by decide) hT, Own.turns h.ids (by decide) (fun b o e hb' => by
  obtain ⟨_, ys, hy⟩ := Own.type h.ids e
  subst hb'
  exact absurd (Blk.one hy hb) (by decide)) hT, h.inI⟩
set_option maxHeartbeats 4000000 in
set_option maxRecDepth 100000 in
theorem fdrop_o (S : Nat → Prop) (B bs bf : Nat) (s : Pg.St) (l : List Nat) (k ic : Nat) (I : Option Addr) (many : Int) (w : World) (h : FiAt w S bs bf l k ic I many) (hs : Sto w B bs s) (hB : B ≤ w.heap.size) (hm : ∀ i ∈ l, i < 4096) (hmax : k ≤ 4096) :
  Calls Tryz.prog 57 #[.pointer (some ⟨bf, 0, none⟩)] w fun e w' => e = .returned (.tuple #[]) ∧ Sto w' B bs (Pg.dropS s (l.map Int.ofNat)) ∧ Turns (fun i => i = bf) StT B w w' := by
 have k0 := h.blk.cell 0
 have k1 := h.blk.cell 1
 simp only [List.getElem?_cons_zero, List.getElem?_cons_succ] at k0 k1
 have hd := Lib.hid (fun (w' : World) (hs' : Sto w' B bs s) (hr : Rs StT B w' I (Js (l.map Int.ofNat))) (hB' : B ≤ w'.heap.size) => drop_c B bs s I (l.map Int.ofNat) k ic w' hs' (by rw [List.length_map]; exact h.klen) (by omega) hr (fun i hi => by
  obtain ⟨j, hj, rfl⟩ := List.mem_map.1 hi
  have := hm j hj
  constructor <;> simp <;> omega) hB')
 have hrs : Hid (∀ w', FiAt w' S bs bf l k ic I many → Rs StT B w' I (Js (l.map Int.ofNat))) := fun w' h' => by rw [Js_Is]; exact Rs.of_own h'.ids (by decide)
 have H := Lib.hid h
 have Hs := Lib.hid hs
 clear h hs
 go_enter Tryz.func57, Tryz.ntmps57
 go_wp2_with fail
 go_region_held3 (fun w' => w'.cell? ⟨bf, 0, none⟩ = some (.pointer (some ⟨bs, 0, none⟩)) ∧ w'.cell? ⟨bf, 1, none⟩ = some (.slice I k ic))
  (first | exact ⟨k0, k1⟩ | exact ⟨j0, j1⟩)
  ((go_at_call 75; refine (hd.out _ (by exact Hs.out.drewN 1) (by exact hrs.out _ (H.out.below (Below.refl _ _).drew)) (by exact hB)).mono ?_; rintro e w2 ⟨rfl, hs2, hk2'⟩; have hk2 : Keeps StT B w w2 := ⟨hk2'.os, hk2'.tape, hk2'.output, hk2'.size, hk2'.block⟩; have h2 := H.out.keeps (by decide) hk2; have j0 := h2.blk.cell 0; have j1 := h2.blk.cell 1; simp only [List.getElem?_cons_zero, List.getElem?_cons_succ] at j0 j1))
 have j2 := h2.blk.cell 2
 have f1 := h2.blk.frozen 1
 have f2 := h2.blk.frozen 2
 simp only [List.getElem?_cons_zero, List.getElem?_cons_succ] at j2
 have hb1 := h2.blk.set_ 1 (.slice none 0 0)
 simp only [List.set_cons_zero, List.set_cons_succ] at hb1
 have hk3 : Keeps [109] 0 w2 (w2.setCell ⟨bf, 1, none⟩ (.slice none 0 0)) := (Keeps.refl _ _ _).setCell h2.blk (by simp) (Nat.zero_le _) _
 have hk4 : Keeps [109] 0 w2 ((w2.setCell ⟨bf, 1, none⟩ (.slice none 0 0)).setCell ⟨bf, 2, none⟩ (.int .i64 0)) := hk3.setCell hb1 (by simp) (Nat.zero_le _) _
 have Hs4 := Lib.hid (hs2.keeps hk4 (by decide))
 have Ht4 := Lib.hid (((Turns.of_keeps (S := fun i => i = bf) hk2).trans (Turns.setCell (S := fun i => i = bf) (T := StT) (B := B) w2 (g := bf) (i := 1) rfl (.slice none 0 0))).trans (Turns.setCell (S := fun i => i = bf) (T := StT) (B := B) _ (g := bf) (i := 2) rfl (.int .i64 0)))
 clear h2 hs2 hk2 hk2' hb1 hk3 hk4
 go_wp2_with fail
 go_end0
 exact ⟨rfl, Hs4.out, Ht4.out⟩
namespace SrAt
variable {w0 w w' : World} {B bs bp bS : Nat} {KA : Option Addr} {kn kc most left least left' least' : Nat} {s s' : Pg.St} {HA : Option Addr} {hn hc : Nat} {hh : List Value} {RA : Option Addr} {rn rc : Nat} {rs rs' : List Nat} {fs fs' : List FiM}
theorem sub (h : SrAt w0 w B bs bp bS KA kn kc most left least s HA hn hc hh RA rn rc rs fs) (hf : ∀ f ∈ fs', f ∈ fs) : SrAt w0 w B bs bp bS KA kn kc most left least s HA hn hc hh RA rn rc rs fs' :=
 ⟨h.hB, h.hp, h.hpl, h.fr, h.sto, h.pu, h.low, h.blk, h.hel, h.runs, fun f hfm => h.fi f (hf f hfm)⟩
theorem dropped (h : SrAt w0 w B bs bp bS KA kn kc most left least s HA hn hc hh RA rn rc rs fs) {f : FiM} (hf : f ∈ fs) (hT : Turns (fun i => i = f.b) StT B w w') (hs : Sto w' B bs s') (hsub : ∀ g ∈ fs', g ∈ fs ∧ g.b ≠ f.b) :
  SrAt w0 w' B bs bp bS KA kn kc most left least s' HA hn hc hh RA rn rc rs fs' := by
 obtain ⟨k, ic, I, hff⟩ := h.fi f hf
 have hlow : w0.heap.size ≤ f.b := hff.sf
 have hkp : Keeps (109 :: StT) B w w' := by
  refine ⟨hT.os, hT.tape, hT.output, hT.size, fun k hk ht => ?_⟩
  have hB := h.hB
  refine hT.block k hk (fun e => ?_) (ht.imp_right fun ht c t f e hm => ht c t f e (List.mem_cons_of_mem _ hm))
  subst e
  rcases ht with ht | ht
  ·omega
  ·exact ht _ _ _ hff.blk (List.mem_cons_self ..)
 refine ⟨h.hB, h.hp, h.hpl, h.fr.trans (hT.more fun k _ hk => .inr (by rw [hk]; exact hlow)), hs, ?_, h.low, h.blk.keeps (by decide) hkp, Own.keeps h.hel (by decide) hkp, h.runs.keeps (by decide) hkp, fun g hg => ?_⟩
 ·have := h.hpl
  exact h.pu.turned hT fun e => by omega
 ·obtain ⟨h1, h2⟩ := hsub g hg
  obtain ⟨k', ic', I', hgg⟩ := h.fi g h1
  exact ⟨k', ic', I', hgg.other hT hff.blk h2⟩
theorem outs (h : SrAt w0 w B bs bp bS KA kn kc most left least s HA hn hc hh RA rn rc rs fs) {M : Nat} (hM : w0.heap.size ≤ M) (hT : Turns (fun i => M ≤ i) [] 0 w w') (hk : Keeps [94] 0 w w') (hR : InS (fun i => i < M) RA) :
  SrAt w0 w' B bs bp bS KA kn kc most left least s HA hn hc hh RA rn rc rs fs :=
 ⟨h.hB, h.hp, h.hpl, h.fr.trans (hT.wk.more fun k _ hk => .inr (Nat.le_trans hM hk)), h.sto.keeps hk (by decide), Blk.keeps h.pu (by decide) hk, h.low, h.blk.keeps (by decide) hk, Own.keeps h.hel (by decide) hk, h.runs.turns (by simp) (fun b o e hb => by have := hR b o e; omega) hT, fun f hf => by
  obtain ⟨k, ic, I, h1⟩ := h.fi f hf
  exact ⟨k, ic, I, h1.keeps (by decide) hk⟩⟩
theorem setRuns (h : SrAt w0 w B bs bp bS KA kn kc most left least s HA hn hc hh RA rn rc rs fs) {RA' : Option Addr} {rn' rc' : Nat} (hr : OwnX w w0.heap.size 94 RA' rn' rc' (Ptrs rs')) :
  SrAt w0 (w.setCell ⟨bS, 4, none⟩ (.slice RA' rn' rc')) B bs bp bS KA kn kc most left least s HA hn hc hh RA' rn' rc' rs' fs := by
 have hk : Keeps [78] 0 w (w.setCell ⟨bS, 4, none⟩ (.slice RA' rn' rc')) := (Keeps.refl _ _ _).setCell h.blk (by simp) (Nat.zero_le _) _
 refine ⟨h.hB, h.hp, h.hpl, h.fr.trans (Turns.setCell _ (i := 4) (.inr h.low) _), h.sto.keeps hk (by decide), Blk.keeps h.pu (by decide) hk, h.low, ?_, Own.keeps h.hel (by decide) hk, hr.keeps (by decide) hk, fun f hf => by
  obtain ⟨k, ic, I, h1⟩ := h.fi f hf
  exact ⟨k, ic, I, h1.keeps (by decide) hk⟩⟩
 have := h.blk.set_ 4 (.slice RA' rn' rc')
 simp only [List.set_cons_zero, List.set_cons_succ] at this
 exact this
end SrAt
theorem Ptrs_len (l : List Nat) : (Ptrs l).length = l.length := by unfold Ptrs; rw [List.length_map]
theorem Ptrs_app (a b : List Nat) : Ptrs (a ++ b) = Ptrs a ++ Ptrs b := by unfold Ptrs; rw [List.map_append]
theorem Ptrs_drop (a : List Nat) (k : Nat) : (Ptrs a).drop k = Ptrs (a.drop k) := by unfold Ptrs; rw [List.map_drop]
theorem Ptrs_take (a : List Nat) (k : Nat) : (Ptrs a).take k = Ptrs (a.take k) := by unfold Ptrs; rw [List.map_take]
theorem Ptrs_one (a : List Nat) : ∀ u ∈ Ptrs a, u.oneCell' = true := fun u hu => by
 obtain ⟨b, _, rfl⟩ := List.mem_map.1 hu
 rfl
end Go.Proofs.YtcadjekcdokkjaaGreat
namespace Go.Proofs.YtcadjekcdokkjaaGreat
set_option linter.unusedVariables false
set_option linter.unusedSimpArgs false
open Go.RowKit
attribute [local go_sem ↓] Go.wp_at_zero Go.wp_at_succ
def LiveR (w0 : World) (B bp : Nat) (hh : List Value) (held : List RowM) : Prop := ∀ w', Turns (fun i => i = bp ∨ w0.heap.size ≤ i) StT B w0 w' → Rows w' hh held
theorem Dat.keeps {T : List TypeId} {B0 : Nat} {w w' : World} {B g n : Nat} {d : Nat → Hr} (h : Dat w B g n d) (hT : ∀ t ∈ [23, 38], t ∉ T) (hk : Keeps T B0 w w') : Dat w' B g n d := ⟨h.lo, h.blk.keeps (hT _ (by simp)) hk, fun p hp => by
 obtain ⟨A, c, h1, h2, h3⟩ := h.row p hp
 exact ⟨A, c, h1, Own.keeps h2 (hT _ (by simp)) hk, h3⟩⟩
theorem Keeps.mono0 {T : List TypeId} {B : Nat} {w w' : World} (h : Keeps T B w w') : Keeps T 0 w w' := ⟨h.os, h.tape, h.output, h.size, fun k hk ht => h.block k hk (ht.elim (fun h => absurd h (by omega)) .inr)⟩
namespace SrAt
variable {w0 w w' : World} {B bs bp bS : Nat} {KA : Option Addr} {kn kc most left least left' least' : Nat} {s s' : Pg.St} {HA HA' : Option Addr} {hn hc hn' hc' : Nat} {hh hh' : List Value} {RA RA' : Option Addr} {rn rc rn' rc' : Nat} {rs rs' : List Nat} {fs fs' : List FiM}
theorem purse (h : SrAt w0 w B bs bp bS KA kn kc most left least s HA hn hc hh RA rn rc rs fs) (hT : Turns (fun i => i = bp) [] 0 w w') (hp : Pu w' bp most left' least') : SrAt w0 w' B bs bp bS KA kn kc most left' least' s HA hn hc hh RA rn rc rs fs :=
 h.turn (hT.wk.more fun k _ hk => .inl hk) (h.sto.turns1 hT h.pu (by decide)) hp
theorem hold (h : SrAt w0 w B bs bp bS KA kn kc most left least s HA hn hc hh RA rn rc rs fs) (hT : Turns (fun i => w0.heap.size ≤ i) [] 0 w w') (hk : Keeps [23] 0 w w') (ho : Own w' w0.heap.size 23 1 HA' hn' hc' hh') :
  SrAt w0 (w'.setCell ⟨bS, 3, none⟩ (.slice HA' hn' hc')) B bs bp bS KA kn kc most left least s HA' hn' hc' hh' RA rn rc rs fs := by
 have hb := h.blk.keeps (by decide) hk
 have hk2 : Keeps [78] 0 w' (w'.setCell ⟨bS, 3, none⟩ (.slice HA' hn' hc')) := (Keeps.refl _ _ _).setCell hb (by simp) (Nat.zero_le _) _
 refine ⟨h.hB, h.hp, h.hpl, (h.fr.trans (hT.wk.more fun k _ hk => .inr hk)).trans (Turns.setCell _ (i := 3) (.inr h.low) _), (h.sto.keeps hk (by decide)).keeps hk2 (by decide), Blk.keeps (Blk.keeps h.pu (by decide) hk) (by decide) hk2, h.low, ?_, Own.keeps ho (by decide) hk2, (h.runs.keeps (by decide) hk).keeps (by decide) hk2, fun f hf => by
  obtain ⟨k, ic, I, h1⟩ := h.fi f hf
  exact ⟨k, ic, I, (h1.keeps (by decide) hk).keeps (by decide) hk2⟩⟩
 have := hb.set_ 3 (.slice HA' hn' hc')
 simp only [List.set_cons_zero, List.set_cons_succ] at this
 exact this
theorem lay (h : SrAt w0 w B bs bp bS KA kn kc most left least s HA hn hc hh RA rn rc rs fs) (hT : Turns (fun i => w0.heap.size ≤ i) [] 0 w w') (hk : Keeps [94] 0 w w') (ho : OwnX w' w0.heap.size 94 RA' rn' rc' (Ptrs rs')) :
  SrAt w0 (w'.setCell ⟨bS, 4, none⟩ (.slice RA' rn' rc')) B bs bp bS KA kn kc most left least s HA hn hc hh RA' rn' rc' rs' fs := by
 have hb := h.blk.keeps (by decide) hk
 have hk2 : Keeps [78] 0 w' (w'.setCell ⟨bS, 4, none⟩ (.slice RA' rn' rc')) := (Keeps.refl _ _ _).setCell hb (by simp) (Nat.zero_le _) _
 refine ⟨h.hB, h.hp, h.hpl, (h.fr.trans (hT.wk.more fun k _ hk => .inr hk)).trans (Turns.setCell _ (i := 4) (.inr h.low) _), (h.sto.keeps hk (by decide)).keeps hk2 (by decide), Blk.keeps (Blk.keeps h.pu (by decide) hk) (by decide) hk2, h.low, ?_, Own.keeps (Own.keeps h.hel (by decide) hk) (by decide) hk2, ho.keeps (by decide) hk2, fun f hf => by
  obtain ⟨k, ic, I, h1⟩ := h.fi f hf
  exact ⟨k, ic, I, (h1.keeps (by decide) hk).keeps (by decide) hk2⟩⟩
 have := hb.set_ 4 (.slice RA' rn' rc')
 simp only [List.set_cons_zero, List.set_cons_succ] at this
 exact this
end SrAt
def DropT : List TypeId := 74 :: 78 :: 109 :: StT
theorem Keeps.types {T T' : List TypeId} {B : Nat} {w w' : World} (h : Keeps T B w w') (ht : ∀ t ∈ T, t ∈ T') : Keeps T' B w w' := ⟨h.os, h.tape, h.output, h.size, fun k hk hn => h.block k hk (hn.imp_right fun hn c t f e hm => hn c t f e (ht t hm))⟩
set_option maxHeartbeats 16000000 in
set_option maxRecDepth 100000 in
theorem give_c (w0 w : World) (B bs bp bS : Nat) (KA : Option Addr) (kn kc most left least : Nat) (s : Pg.St) (HA : Option Addr) (hn hc : Nat) (hh : List Value) (RA : Option Addr) (rn rc : Nat) (rs : List Nat) (fs : List FiM) (held : List RowM)
  (h : SrAt w0 w B bs bp bS KA kn kc most left least s HA hn hc hh RA rn rc rs fs) (hL : LiveR w0 B bp hh held) (hl : left + rowsC held ≤ most) (hm : most ≤ 1000000000000) (hn1 : hn ≤ 1000000) :
  Calls Tryz.prog 56 #[.pointer (some ⟨bS, 0, none⟩)] w fun e w' => e = .returned (.tuple #[]) ∧ SrAt w0 w' B bs bp bS KA kn kc most (left + rowsC held) least s none 0 0 [] RA rn rc rs fs ∧ Turns (fun i => i = bp ∨ w0.heap.size ≤ i) StT B w w' ∧ Keeps DropT B w w' := by
 have c1 := h.blk.cell 1
 have c3 := h.blk.cell 3
 simp only [List.getElem?_cons_zero, List.getElem?_cons_succ] at c1 c3
 have hbd : Below w.heap.size w w.drew := (Below.refl _ _).drew
 have hR := hL _ (h.below hbd).fr
 have hlen : held.length = hn := by
  have h1 := hR.len
  have h2 := h.hel.1
  rw [Nat.mul_one] at h2
  omega
 have hrdp := Lib.hid (prows_any held hh hn hc HA w.drew hlen (Own.rd (Own.below h.hel hbd)) hR (by omega) (by omega))
 obtain ⟨C, hC⟩ : ∃ C, rowsC held = C := ⟨_, rfl⟩
 rw [hC] at hrdp hl ⊢
 have hnb : bS ≠ bp := Blk.ne_of_type h.blk h.pu (by decide)
 have gd1 : w.drew.cell? ⟨bS, 1, none⟩ = some (.pointer (some ⟨bp, 0, none⟩)) := c1
 have gd3 : w.drew.cell? ⟨bS, 3, none⟩ = some (.slice HA hn hc) := c3
 have H := Lib.hid h
 have Hl := Lib.hid hl
 clear h hL hR hl hlen hC
 go_enter Tryz.func56, Tryz.ntmps56
 go_wp2_with fail
 go_region_held3 (fun w' => w'.cell? ⟨bS, 1, none⟩ = some (.pointer (some ⟨bp, 0, none⟩)) ∧ w'.cell? ⟨bS, 3, none⟩ = some (.slice HA hn hc))
  (first | assumption | exact ⟨c1, c3⟩ | exact ⟨gd1, gd3⟩ | exact ⟨k3, k33⟩ | exact ⟨k4, k43⟩)
  (first | (go_at_call 74; refine hrdp.out.mono ?_; rintro e w3 ⟨rfl, hb3⟩; have k3 := cell_keep hb3 gd1; have k33 := cell_keep hb3 gd3; have hS3 := (H.out.below hbd).below hb3)
         | (go_at_call 73; refine (pgive_any bp most left least C w3 hS3.pu Hl.out hm).mono ?_; rintro e w4 ⟨rfl, hp4, hT4⟩; have hS4 := hS3.purse hT4 hp4; have k4 := hS4.blk.cell 1; have k43 := hS4.blk.cell 3; simp only [List.getElem?_cons_zero, List.getElem?_cons_succ] at k4 k43))
 all_goals
  have jf := hS4.blk.frozen 3
  have Hfin := Lib.hid (hS4.hold (HA' := none) (hn' := 0) (hc' := 0) (hh' := []) (Turns.refl _ _ _ _) (Keeps.refl _ _ _) (Own.nil _ _ _ _))
  have HT := Lib.hid (((((Turns.of_below (S := fun i => i = bp ∨ w0.heap.size ≤ i) (T := StT) (B := B) hbd).trans (Turns.of_below hb3)).trans (hT4.wk.more fun k _ hk => .inl hk))).trans (Turns.setCell w4 (g := bS) (i := 3) (.inr H.out.low) (.slice none 0 0)))
  have HK := Lib.hid ((((Keeps.of_below (T := DropT) (B := B) hbd).trans (Keeps.of_below hb3)).trans (((hT4.wk.more fun k _ hk => .inl hk).purse hS3.pu H.out.hp).types (T' := DropT) (by unfold DropT; simp))).setCell hS4.blk (i := 3) (by unfold DropT; simp) (Nat.le_trans H.out.hB H.out.low) (.slice none 0 0))
  clear hS3 hS4 hp4 hT4 hb3 hrdp H
  go_wp2_with fail
  go_end0
  exact ⟨rfl, Hfin.out, HT.out, HK.out⟩
end Go.Proofs.YtcadjekcdokkjaaGreat
