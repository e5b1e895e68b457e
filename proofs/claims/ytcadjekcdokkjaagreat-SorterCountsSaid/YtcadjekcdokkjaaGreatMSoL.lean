/- Walks: the sorter: pass. -/
import Derived.Test.YtcadjekcdokkjaaGreatMSoPQ
namespace Go.Proofs.YtcadjekcdokkjaaGreat
set_option linter.unusedVariables false
set_option linter.unusedSimpArgs false
open Go.RowKit
attribute [local go_sem ↓] Go.wp_at_zero Go.wp_at_succ
def rowsOf (fs : List FiM) : List RowM := (fs.map FiM.c).flatten
theorem rowsOf_app (a b : List FiM) : rowsOf (a ++ b) = rowsOf a ++ rowsOf b := by simp [rowsOf]
theorem rowsOf_one (f : FiM) : rowsOf [f] = f.c := by simp [rowsOf]
def PassOut (w0 : World) (B bs bp bS : Nat) (KA : Option Addr) (kn kc most left least : Nat) (HA : Option Addr) (hn hc : Nat) (hh : List Value) (fs : List FiM) (ks : List Ky) (N : List Nat) (s0 : Pg.St) (fan g : Nat) (e : Ending) (w' : World) : Prop :=
 ∃ least' s' RA' rn' rc' fs', least' ≤ least ∧ SrAt w0 w' B bs bp bS KA kn kc most left least' s' HA hn hc hh RA' rn' rc' (fs'.map FiM.b) fs' ∧ Files ks N s0 s' fs' ∧ (fs'.map FiM.b).Nodup ∧ rn' ≤ 1000000 ∧
  ((e = .returned (.int .i64 0) ∧ rowsOf fs' = rowsOf fs ∧ fs'.length ≤ fs.length ∧ (fan < fs.length → fs'.length < fs.length)) ∨
   (e = .returned (.int .i64 5) ∧ left < fan * g) ∨
   (e = .returned (.int .i64 4) ∧ s0.length < N.length + 2 * ((rowsB (rowsOf fs)).length / 56) + fs.length + 1))
theorem FineR.all {g : Nat} {fs : List FiM} (h : ∀ r ∈ rowsOf fs, FineR g r) (ht : (rowsOf fs).length ≤ 1000000) : ∀ f ∈ fs, f.c.length ≤ 1000000 ∧ ∀ r ∈ f.c, FineR g r := fun f hf => by
 have hm : f.c ∈ fs.map FiM.c := List.mem_map.2 ⟨f, hf, rfl⟩
 refine ⟨?_, fun r hr => h r (List.mem_flatten.2 ⟨f.c, hm, hr⟩)⟩
 have := mem_len hm
 unfold rowsOf at ht
 omega
theorem rowsB_part {a b c : List RowM} {l : List RowM} (h : l = a ++ (b ++ c)) : (rowsB b).length ≤ (rowsB l).length := by
 rw [h, rowsB_app, rowsB_app, List.length_append, List.length_append]
 omega
theorem OwnX.in_ {w : World} {base : Nat} {e : TypeId} {A : Option Addr} {n c : Nat} {xs : List Value} (h : OwnX w base e A n c xs) : InS (fun i => i < w.heap.size) A := fun b o ha => by
 obtain ⟨_, ys, hy⟩ := h.type ha
 exact hy.lt
theorem OwnX.rest {w : World} {base : Nat} {e : TypeId} {g off n c : Nat} {xs : List Value} (h : OwnX w base e (some ⟨g, off, none⟩) n c xs) {k : Nat} (hk : k ≤ n) (q : Option Addr) (hq : if k = c then q = some ⟨g, off, none⟩ else q = some ⟨g, off + k, none⟩) : OwnX w base e q (n - k) (c - k) (xs.drop k) := by
 have hnc := h.cap
 split at hq
 ·rename_i hkc
  subst hq
  have hl := h.len
  have e1 : xs.drop k = [] := List.drop_eq_nil_of_le (by omega)
  have e2 : n - k = 0 := by omega
  have e3 : c - k = 0 := by omega
  rw [e1, e2, e3]
  exact h.dropAll
 ·subst hq
  exact h.drop hk
theorem Rs.of_ownx {T : List TypeId} {B : Nat} {w : World} {base : Nat} {e : TypeId} {A : Option Addr} {n c : Nat} {xs : List Value} (h : OwnX w base e A n c xs) (ht : e ∉ T) : Rs T B w A xs := fun hn => by
 obtain ⟨b, o, ea, hr⟩ := h.rd hn
 refine ⟨b, o, ea, hr, .inr fun c t f eb m => ?_⟩
 obtain ⟨_, ys, hy⟩ := h.type ea
 unfold Blk at hy
 rw [hy] at eb
 injection eb with eb
 injection eb with _ eb
 exact ht (eb ▸ m)
def restRuns (w : World) (bS : Nat) : Nat := match w.cell? ⟨bS, 4, none⟩ with | some (.slice _ n _) => n | _ => 0
theorem SrAt.restRuns {w0 w : World} {B bs bp bS : Nat} {KA : Option Addr} {kn kc most left least : Nat} {s : Pg.St} {HA : Option Addr} {hn hc : Nat} {hh : List Value} {RA : Option Addr} {rn rc : Nat} {rs : List Nat} {fs : List FiM} (h : SrAt w0 w B bs bp bS KA kn kc most left least s HA hn hc hh RA rn rc rs fs) : restRuns w bS = rn := by
 have := h.blk.cell 4
 simp only [List.getElem?_cons_zero, List.getElem?_cons_succ] at this
 unfold Go.Proofs.YtcadjekcdokkjaaGreat.restRuns
 rw [this]
set_option maxHeartbeats 16000000 in
set_option maxRecDepth 100000 in
theorem pass_c (w0 w : World) (B bs bp bS : Nat) (KA : Option Addr) (kn kc most left least : Nat) (s : Pg.St) (HA : Option Addr) (hn hc : Nat) (hh : List Value) (RA : Option Addr) (rn rc : Nat) (fs : List FiM) (ks : List Ky) (N : List Nat) (s0 : Pg.St) (fan g : Nat)
  (h : SrAt w0 w B bs bp bS KA kn kc most left least s HA hn hc hh RA rn rc (fs.map FiM.b) fs) (hF : Files ks N s0 s fs) (hnd : (fs.map FiM.b).Nodup) (hf2 : 2 ≤ fan) (h16 : fan ≤ 16) (hK : KeyIn w0 B bp KA ks) (hkn : ks.length = kn) (hkm : kn ≤ 1000000)
  (hml : left ≤ most) (hm : most ≤ 1000000000000) (hle : least ≤ most) (hg : g ≤ 1000000000000) (hrows : ∀ r ∈ rowsOf fs, FineR g r) (htot : (rowsOf fs).length ≤ 1000000) (hby : (rowsB (rowsOf fs)).length ≤ 90000) (hfl : fs.length ≤ 1000) :
  Calls Tryz.prog 60 #[.pointer (some ⟨bS, 0, none⟩), .int .i64 (fan : Int)] w fun e w' => PassOut w0 B bs bp bS KA kn kc most left least HA hn hc hh fs ks N s0 fan g e w' := by
 have H := Lib.hid h
 have HF := Lib.hid hF
 have HK := Lib.hid hK
 have Hrows := Lib.hid hrows
 have Hkn := Lib.hid hkn
 have Hby := Lib.hid hby
 have Htot := Lib.hid htot
 have Hnd := Lib.hid hnd
 have hzw := h.fr.size
 clear h hF hK hrows hkn hby htot hnd
 go_enter Tryz.func60, Tryz.ntmps60
 go_wp2_with fail
 go_loopw [5] (fun o wr => ∃ (of rem : List FiM) (OA : Option Addr) (on oc least1 : Nat) (s1 : Pg.St) (RA1 : Option Addr) (rn1 rc1 : Nat), o = .slice OA on oc ∧ Own wr w.heap.size 94 1 OA on oc (Ptrs (of.map FiM.b)) ∧ SrAt w0 wr B bs bp bS KA kn kc most left least1 s1 HA hn hc hh RA1 rn1 rc1 (rem.map FiM.b) (of ++ rem) ∧ InS (fun i => i < w.heap.size) RA1 ∧ Files ks N s0 s1 (of ++ rem) ∧ ((of ++ rem).map FiM.b).Nodup ∧ Hid (rowsOf (of ++ rem) = rowsOf fs) ∧ (of ++ rem).length ≤ fs.length ∧ (of ≠ [] → fan < fs.length → (of ++ rem).length < fs.length) ∧ least1 ≤ least ∧ w.heap.size ≤ wr.heap.size) (fun _ wr => restRuns wr bS)
 case atStart =>
  refine ⟨[], fs, none, 0, 0, least, s, RA, rn, rc, rfl, Own.nil _ _ _ _, H.out, H.out.runs.in_, HF.out, Hnd.out, rfl, Nat.le_refl _, fun h => absurd rfl h, Nat.le_refl _, Nat.le_refl _⟩
 case round =>
  obtain ⟨of, rem, OA, on, oc, least1, s1, RA1, rn1, rc1, rfl, hO, hS, hR, hF1, hnd1, hro, hln, hlt, hle1, hzr⟩ := hrel
  have d4 := hS.blk.cell 4
  have f4 := hS.blk.frozen 4
  simp only [List.getElem?_cons_zero, List.getElem?_cons_succ] at d4
  have hrl : rem.length = rn1 := by
   have := hS.runs.len
   rw [Ptrs_len, List.length_map] at this
   exact this
  have hrc1 := hS.runs.cap.1
  have Hrest := Lib.hid hS.restRuns
  have hon : of.length = on := by
   have := hO.len1
   rw [Ptrs_len, List.length_map] at this
   exact this
  generalize wr = wo at *
  rw [List.length_append] at hln
  by_cases hrem : rem = []
  ·subst hrem
   have hr0 : rn1 = 0 := hrl.symm
   subst hr0
   rw [List.append_nil] at hS hF1 hnd1 hro hlt
   have hfin := hS.setRuns (rs' := of.map FiM.b) ((OwnX.of_own hO).lower hzw)
   have Hfin := Lib.hid hfin
   have HF1 := Lib.hid hF1
   have Hnd1 := Lib.hid hnd1
   have hlt2 : fan < fs.length → of.length < fs.length := fun h => by
    by_cases e : of = []
    ·rw [e]; show 0 < fs.length; omega
    ·exact hlt e h
   have Hlt := Lib.hid hlt2
   clear hfin hS hF1 hnd1 hlt hlt2 hO hrl
   go_wp2_with fail
   go_ret
   exact ⟨least1, s1, OA, on, oc, of, hle1, Hfin.out, HF1.out, Hnd1.out, by omega, .inl ⟨rfl, hro.out, by omega, Hlt.out⟩⟩
  ·have hpos : 0 < rn1 := by rw [← hrl]; exact List.length_pos_iff.2 hrem
   have hposI : (0 : Int) < (rn1 : Int) := by omega
   have Hall : Hid (∀ f ∈ of ++ rem, f.c.length ≤ 1000000 ∧ ∀ r ∈ f.c, FineR g r) := FineR.all (by rw [hro.out]; exact Hrows.out) (by rw [hro.out]; exact Htot.out)
   by_cases h1 : rn1 = 1
   ·obtain ⟨f, rfl⟩ : ∃ f, rem = [f] := List.length_eq_one_iff.1 (by omega)
    subst h1
    have hfrI : ¬ ((fan : Int) ≤ 1) := by omega
    have hnr : 1 ≤ 1 := Nat.le_refl _
    obtain ⟨gb, go, rfl, _, hrg⟩ := hS.runs.at_ (by omega)
    have q0 := hrg 0 (.pointer (some ⟨f.b, 0, none⟩)) rfl
    rw [Nat.add_zero] at q0
    have HSX := Lib.hid hS
    have HOX := Lib.hid hO
    have HF1 := Lib.hid hF1
    have Hnd1 := Lib.hid hnd1
    have hlen2 : fan < fs.length → (of ++ [f]).length < fs.length := fun h => by
     by_cases e : of = []
     ·rw [e]; show 1 < fs.length; omega
     ·exact hlt e h
    have Hlen2 := Lib.hid hlen2
    have hln2 := hln
    clear hS hO hF1 hnd1 hlt hlen2 hrg hpos hposI hln
    go_wp2_with (first | (at_builtin; refine hold ?_) | (at_make; refine hold ?_))
    (with_reducible refine unhold ?_)
    have hbA : Below wo.heap.size wo (wo.alloc (.cells #[.pointer (some ⟨f.b, 0, none⟩)] 94)) := (Below.refl _ _).alloc (Nat.le_refl _) _
    have hSA := HSX.out.below hbA
    have hzA := hbA.size
    refine wpList_apd rfl (.tmp 33) (.tmp 37) 76 rfl Efils w.heap.size OA on oc (Ptrs (of.map FiM.b)) (by simp [Act.eval, Act.put]) (Own.below HOX.out hbA) (some ⟨wo.heap.size, 0, none⟩) 1 1 [.pointer (some ⟨f.b, 0, none⟩)] (by simp [Act.eval, Act.put]) rfl (Rd.of_blk (Blk.new wo 94 #[.pointer (some ⟨f.b, 0, none⟩)])) (by simp [Value.oneCell']) (on + 1) rfl (Ptrs (of.map FiM.b ++ [f.b])) (by rw [Ptrs_app]; rfl) (by omega) (by omega) (by omega) ?_
    intro A4 c4 w7 ho7 hg7 hat7
    have hOA := Own.below HOX.out hbA
    have hk7 := (Own.apd_keeps hOA hg7).mono0
    have hT7 : Turns (fun i => w.heap.size ≤ i) [] 0 (wo.alloc (.cells #[.pointer (some ⟨f.b, 0, none⟩)] 94)) w7 := Own.turnsApd hOA (fun b o e => (Own.type hOA e).1) hg7
    have hS7 := hSA.outs hzw hT7 hk7 hR
    have hz7 := hT7.size
    have m4 := hS7.blk.cell 4
    have m4f := hS7.blk.frozen 4
    simp only [List.getElem?_cons_zero, List.getElem?_cons_succ] at m4
    have hfs : SrAt w0 w7 B bs bp bS KA kn kc most left least1 s1 HA hn hc hh (some ⟨gb, go, none⟩) 1 rc1 ([f].map FiM.b) ((of ++ [f]) ++ []) := by rw [List.append_nil]; exact hS7
    have HFs : Hid (Files ks N s0 s1 ((of ++ [f]) ++ [])) := by show Files _ _ _ _ _; rw [List.append_nil]; exact HF1.out
    have Hnds : Hid ((((of ++ [f]) ++ []).map FiM.b).Nodup) := by show List.Nodup _; rw [List.append_nil]; exact Hnd1.out
    have Hrs : Hid (rowsOf ((of ++ [f]) ++ []) = rowsOf fs) := by show _ = _; rw [List.append_nil]; exact hro.out
    have Ho7 := Lib.hid ho7
    have Hfs7 := Lib.hid hfs
    clear hS7 hSA hfs ho7 hg7 hat7 hOA hk7 hT7 HSX HOX HF1 Hnd1 q0 d4 f4
    by_cases hcap : 1 = rc1
    ·subst hcap
     have hfin := Hfs7.out.setRuns (rs' := (([] : List FiM)).map FiM.b) (by exact Hfs7.out.runs.rest hnr (some ⟨gb, go, none⟩) (by rw [if_pos rfl]))
     have Hfin := Lib.hid hfin
     have HoF := Lib.hid (Own.keeps Ho7.out (by decide) ((Keeps.refl [78] 0 w7).setCell (i := 4) Hfs7.out.blk (by simp) (Nat.zero_le _) (.slice (some ⟨gb, go, none⟩) (1 - 1) (1 - 1))))
     have hRR : Hid (InS (fun i => i < w.heap.size) (some ⟨gb, go, none⟩)) := hR
     have hRN : 0 = 1 - 1 := by omega
     have hRC : 0 = 1 - 1 := by omega
     try rw [← hRN] at Hfin HoF
     try rw [← hRC] at Hfin HoF
     have eRN : IntKind.i64.wrap (((1 : Nat) : Int) - ((1 : Nat) : Int)) = ((0 : Nat) : Int) := by unfold IntKind.wrap; simp [IntKind.bits]; try omega
     have hRl : 0 < 1 := by omega
     have hzf : w.heap.size ≤ w7.heap.size := by omega
     have HRN := Lib.hid hRN
     have HRC := Lib.hid hRC
     clear hfin hRN hRC
     go_wp2_with fail
     try rw [← HRN.out]
     try rw [← HRC.out]
     go_roundw
     case rel =>
      refine ⟨(of ++ [f]), ([] : List FiM), A4, on + 1, c4, least1, s1, (some ⟨gb, go, none⟩), 0, 0, rfl, ?_, Hfin.out, hRR.out, HFs.out, Hnds.out, Hrs.out, by simp at hln2 ⊢; omega, fun _ h => by have := Hlen2.out h; simpa using this, by omega, by simpa [World.setCell] using hzf⟩
      rw [List.map_append]
      show Own _ _ _ _ _ _ _ (Ptrs (of.map FiM.b ++ [f.b]))
      exact HoF.out
     case measure =>
      have e1 := Hfin.out.restRuns
      have e2 := Hrest.out
      rw [e1, e2]
      exact hRl
    ·have hcap2 := hcap
     have hfin := Hfs7.out.setRuns (rs' := (([] : List FiM)).map FiM.b) (by exact Hfs7.out.runs.rest hnr (some ⟨gb, go + 1, none⟩) (by rw [if_neg hcap]))
     have Hfin := Lib.hid hfin
     have HoF := Lib.hid (Own.keeps Ho7.out (by decide) ((Keeps.refl [78] 0 w7).setCell (i := 4) Hfs7.out.blk (by simp) (Nat.zero_le _) (.slice (some ⟨gb, go + 1, none⟩) (1 - 1) (rc1 - 1))))
     have hRR : Hid (InS (fun i => i < w.heap.size) (some ⟨gb, go + 1, none⟩)) := fun b o e => hR b go (by injection e with e; injection e with e _; rw [e])
     have hRN : 0 = 1 - 1 := by omega
     obtain ⟨RC, hRC⟩ : ∃ x, x = rc1 - 1 := ⟨_, rfl⟩
     try rw [← hRN] at Hfin HoF
     try rw [← hRC] at Hfin HoF
     have eRN : IntKind.i64.wrap (((1 : Nat) : Int) - ((1 : Nat) : Int)) = ((0 : Nat) : Int) := by unfold IntKind.wrap; simp [IntKind.bits]; try omega
     have hRl : 0 < 1 := by omega
     have hzf : w.heap.size ≤ w7.heap.size := by omega
     have HRN := Lib.hid hRN
     have HRC := Lib.hid hRC
     clear hfin hRN hRC
     go_wp2_with fail
     try rw [← HRN.out]
     try rw [← HRC.out]
     go_roundw
     case rel =>
      refine ⟨(of ++ [f]), ([] : List FiM), A4, on + 1, c4, least1, s1, (some ⟨gb, go + 1, none⟩), 0, RC, rfl, ?_, Hfin.out, hRR.out, HFs.out, Hnds.out, Hrs.out, by simp at hln2 ⊢; omega, fun _ h => by have := Hlen2.out h; simpa using this, by omega, by simpa [World.setCell] using hzf⟩
      rw [List.map_append]
      show Own _ _ _ _ _ _ _ (Ptrs (of.map FiM.b ++ [f.b]))
      exact HoF.out
     case measure =>
      have e1 := Hfin.out.restRuns
      have e2 := Hrest.out
      rw [e1, e2]
      exact hRl
   ·by_cases hfr : fan ≤ rn1
    ·have hfrI : (fan : Int) ≤ (rn1 : Int) := by omega
     have hnr : fan ≤ rn1 := hfr
     have hnf : fan ≤ fan := Nat.le_refl _
     have hn2I : ¬ ((fan : Int) = 1) := by omega
     have hnI : (0 : Int) ≤ (fan : Int) := by omega
     have hjj := join_c w0 wo B bs bp bS KA RA1 kn kc most left least1 s1 HA hn hc hh RA1 rn1 rc1 (rem.map FiM.b) (of ++ rem) (rem.take fan) ks N s0 fan rc1 g hS hF1 (fun f hf => List.mem_append.2 (.inr (List.mem_of_mem_take hf))) (by rw [List.length_take]; omega) (by omega) HK.out Hkn.out hkm
      (by rw [List.map_take, ← Ptrs_take]; exact Rs.of_ownx (hS.runs.take hnr) (by decide)) (fun b o e => by
       obtain ⟨_, ys, hy⟩ := hS.runs.type e
       exact ⟨hy.lt, Blk.ne_of_type hy hS.pu (by decide)⟩) hml hm (by omega) hg (fun f hf => Hall.out f (List.mem_append.2 (.inr (List.mem_of_mem_take hf)))) (by
       have e1 : rowsOf fs = rowsOf of ++ (rowsOf (rem.take fan) ++ rowsOf (rem.drop fan)) := by rw [← hro.out, rowsOf_app, ← rowsOf_app (rem.take fan), List.take_append_drop]
       have := Htot.out
       rw [e1, List.length_append, List.length_append] at this
       show (rowsOf (rem.take fan)).length ≤ _
       omega) (by
       have e1 : rowsOf fs = rowsOf of ++ (rowsOf (rem.take fan) ++ rowsOf (rem.drop fan)) := by rw [← hro.out, rowsOf_app, ← rowsOf_app (rem.take fan), List.take_append_drop]
       have := rowsB_part e1
       have h9 := Hby.out
       show (rowsB (rowsOf (rem.take fan))).length ≤ _
       omega)
     have Hjj := Lib.hid hjj
     have HS := Lib.hid hS
     have HF1 := Lib.hid hF1
     have Hnd1 := Lib.hid hnd1
     have Hlt := Lib.hid hlt
     have HO := Lib.hid hO
     clear hjj hS hF1 hnd1 hlt hO
     go_wp2_with fail
     refine Hjj.out.mono ?_
     rintro e w2 ⟨hT2, least2, hle2, (⟨bf, l, s2, rfl, hbf, hS2, hF2⟩ | ⟨er, rfl, hS2, her⟩)⟩
     ·have hkp := hT2.purse HS.out.pu HS.out.hp
      have HO2 := Lib.hid (Own.keeps HO.out (by decide) hkp)
      have hz2 := hT2.size
      obtain ⟨fn, hfn⟩ : ∃ fn : FiM, fn = ⟨bf, l, rowsOf (rem.take fan)⟩ := ⟨_, rfl⟩
      have hfb : fn.b = bf := by rw [hfn]
      have hfc : fn.c = rowsOf (rem.take fan) := by rw [hfn]
      have hS2 : SrAt w0 w2 B bs bp bS KA kn kc most left least2 s2 HA hn hc hh RA1 rn1 rc1 (rem.map FiM.b) (of ++ rem ++ [fn]) := by rw [hfn]; exact hS2
      have hF2 : Files ks N s0 s2 (of ++ rem ++ [fn]) := by rw [hfn]; exact hF2
      have Hfc := Lib.hid hfc
      have Hfb := Lib.hid hfb
      clear hfn hfc hfb
      have hbl : ∀ f ∈ of ++ rem, f.b < wo.heap.size := fun f hf => by
       obtain ⟨k, ic, I, h1⟩ := HS.out.fi f hf
       exact h1.blk.lt
      have hnd2 : ((of ++ rem ++ [fn]).map FiM.b).Nodup := by
       rw [List.map_append, List.nodup_append]
       refine ⟨Hnd1.out, by simp, fun x hx y hy e => ?_⟩
       obtain ⟨f, hf, rfl⟩ := List.mem_map.1 hx
       have := hbl f hf
       simp only [List.map_cons, List.map_nil, List.mem_singleton] at hy
       rw [Hfb.out] at hy
       omega
      have Hnd2 := Lib.hid hnd2
      have HS2 := Lib.hid hS2
      have HF2 := Lib.hid hF2
      clear hkp hT2 hbl hnd2 hS2 hF2 Hjj
      go_wp2_with fail
      go_loopw [59] (fun ix w8 => ∃ (j : Nat) (s3 : Pg.St), j ≤ fan ∧ ix = .int .i64 (j : Int) ∧ SrAt w0 w8 B bs bp bS KA kn kc most left least2 s3 HA hn hc hh RA1 rn1 rc1 (rem.map FiM.b) (of ++ rem.drop j ++ [fn]) ∧ Files ks N s0 s3 (of ++ rem.drop j ++ [fn]) ∧ Own w8 w.heap.size 94 1 OA on oc (Ptrs (of.map FiM.b)) ∧ w.heap.size ≤ w8.heap.size) (fun ix _ => fan - (intOf ix).toNat)
      case atStart => exact ⟨0, s2, by omega, by go_num, by rw [List.drop_zero]; exact HS2.out, by rw [List.drop_zero]; exact HF2.out, HO2.out, by omega⟩
      case round =>
       obtain ⟨j, s3, hj, rfl, hS3, hF3, hO3, hz3⟩ := hrel
       generalize wr = wq at *
       by_cases hjn : j < fan
       ·have hjr : j < rem.length := by omega
        have hde : rem.drop j = rem[j] :: rem.drop (j + 1) := List.drop_eq_getElem_cons hjr
        obtain ⟨f, hf⟩ : ∃ f, f = rem[j] := ⟨_, rfl⟩
        rw [← hf] at hde
        have hfm : f ∈ of ++ rem.drop j ++ [fn] := by rw [hde]; simp
        obtain ⟨kf, icf, If, hfi⟩ := hS3.fi f hfm
        have hrun := hS3.runs
        obtain ⟨gb, go, rfl, _, hrg⟩ := hrun.at_ (by omega)
        have q0 := hrg j (.pointer (some ⟨f.b, 0, none⟩)) (by unfold Ptrs; rw [List.getElem?_map, List.getElem?_map, List.getElem?_eq_getElem hjr, ← hf]; rfl)
        have htk := hF3.taken hfm
        have hcp := sto_len hS3.sto
        have hfl4 : ∀ i ∈ f.l, i < 4096 := fun i hi => by
         obtain ⟨x, hx⟩ := htk i hi
         have := (List.getElem?_eq_some_iff.1 hx).1
         omega
        have hkl := hfi.klen
        have hmx : kf ≤ 4096 := by
         have h1 := (hF3.has.perm (List.perm_append_comm)).le
         have h2 : f.l.length ≤ ((of ++ rem.drop j ++ [fn]).flatMap FiM.l).length := by
          obtain ⟨a, b, e⟩ := List.append_of_mem hfm
          rw [e]
          simp
          omega
         rw [List.length_append] at h1
         omega
        have hBw : B ≤ wq.heap.size := Nat.le_trans hS3.hB hS3.fr.size
        have hfd := Lib.hid (fdrop_o _ B bs f.b s3 f.l kf icf If _ wq hfi hS3.sto hBw hfl4 hmx)
        have hdF : Files ks N s0 (Pg.dropS s3 (f.l.map Int.ofNat)) (of ++ rem.drop (j + 1) ++ [fn]) := by
         have h1 := hF3.perm (fs' := f :: (of ++ rem.drop (j + 1) ++ [fn])) (by
          rw [hde, List.append_assoc, List.cons_append, List.append_assoc]
          exact List.perm_middle)
         exact h1.drop
        have hne : ∀ g ∈ of ++ rem.drop (j + 1) ++ [fn], g ∈ of ++ rem.drop j ++ [fn] ∧ g.b ≠ f.b := fun g hg => by
         refine ⟨by rw [hde]; simp at hg ⊢; rcases hg with h | h | h <;> simp [h], ?_⟩
         have e1 : of ++ rem ++ [fn] = (of ++ rem.take j) ++ f :: (rem.drop (j + 1) ++ [fn]) := by
          have : rem = rem.take j ++ f :: rem.drop (j + 1) := by rw [← hde, List.take_append_drop]
          conv => lhs; rw [this]
          simp only [List.append_assoc, List.cons_append]
         have h1 := Hnd2.out
         rw [e1] at h1
         rw [List.map_append, List.map_cons, List.nodup_append] at h1
         obtain ⟨_, h2, h3⟩ := h1
         have h4 := List.nodup_cons.1 h2
         intro e
         have hg' : g ∈ of ∨ g ∈ rem.drop (j + 1) ++ [fn] := by
          rw [List.append_assoc] at hg
          exact List.mem_append.1 hg
         rcases hg' with hg' | hg'
         ·exact h3 g.b (List.mem_map.2 ⟨g, List.mem_append.2 (.inl hg'), rfl⟩) f.b (List.mem_cons_self ..) e
         ·exact h4.1 (List.mem_map.2 ⟨g, hg', e⟩)
        have HdF := Lib.hid hdF
        have HS3 := Lib.hid hS3
        have HO3 := Lib.hid hO3
        have Hne := Lib.hid hne
        have Hfm := Lib.hid hfm
        have hjI : (j : Int) < (fan : Int) := by omega
        have hjI0 : (0 : Int) ≤ (j : Int) := by omega
        have Hfb : Hid (Blk wq f.b 109 _) := hfi.blk
        have hflow : w0.heap.size ≤ f.b := hfi.sf
        clear hde hfi hrun hrg htk hfl4 hF3 hS3 hO3 hdF hne hfm hkl hmx hf hjr
        go_wp2_with fail
        refine hfd.out.mono ?_
        rintro e w9 ⟨rfl, hs9, hT9⟩
        have HS9 := Lib.hid (HS3.out.dropped Hfm.out hT9 hs9 Hne.out)
        have HO9 := Lib.hid (Own.turns HO3.out (by decide) (fun b o e hb => by
         obtain ⟨_, ys, hy⟩ := Own.type HO3.out e
         subst hb
         exact absurd (Blk.one hy Hfb.out) (by decide)) hT9)
        have hz9 := hT9.size
        clear hs9 hT9 hfd HS3 HO3 Hne Hfm Hfb q0
        go_wp2_with fail
        go_roundw
        case rel => exact ⟨j + 1, _, by omega, by go_num, HS9.out, HdF.out, HO9.out, by omega⟩
        case measure => simp only [intOf, Int.toNat_natCast]; omega
       ·obtain rfl : fan = j := by omega
        have HSX := Lib.hid hS3
        have HOX := Lib.hid hO3
        have HF3 := Lib.hid hF3
        clear hS3 hO3 hF3
        go_wp2_with (first | (at_builtin; refine hold ?_) | (at_make; refine hold ?_))
        (with_reducible refine unhold ?_)
        have hbA : Below wq.heap.size wq (wq.alloc (.cells #[.pointer (some ⟨bf, 0, none⟩)] 94)) := (Below.refl _ _).alloc (Nat.le_refl _) _
        have hSA := HSX.out.below hbA
        have hzA := hbA.size
        refine wpList_apd rfl (.tmp 66) (.tmp 68) 76 rfl Efils w.heap.size OA on oc (Ptrs (of.map FiM.b)) (by simp [Act.eval, Act.put]) (Own.below HOX.out hbA) (some ⟨wq.heap.size, 0, none⟩) 1 1 [.pointer (some ⟨bf, 0, none⟩)] (by simp [Act.eval, Act.put]) rfl (Rd.of_blk (Blk.new wq 94 #[.pointer (some ⟨bf, 0, none⟩)])) (by simp [Value.oneCell']) (on + 1) rfl (Ptrs (of.map FiM.b ++ [bf])) (by rw [Ptrs_app]; rfl) (by omega) (by omega) (by omega) ?_
        intro A4 c4 w7 ho7 hg7 hat7
        have hOA := Own.below HOX.out hbA
        have hk7 := (Own.apd_keeps hOA hg7).mono0
        have hT7 : Turns (fun i => w.heap.size ≤ i) [] 0 (wq.alloc (.cells #[.pointer (some ⟨bf, 0, none⟩)] 94)) w7 := Own.turnsApd hOA (fun b o e => (Own.type hOA e).1) hg7
        have hS7 := hSA.outs hzw hT7 hk7 hR
        have hz7 := hT7.size
        have m4 := hS7.blk.cell 4
        have m4f := hS7.blk.frozen 4
        simp only [List.getElem?_cons_zero, List.getElem?_cons_succ] at m4
        have hz0 : 0 < rn1 := hpos
        obtain ⟨gb, go, rfl, _, _⟩ := hS7.runs.at_ (by omega)
        have hfs : SrAt w0 w7 B bs bp bS KA kn kc most left least2 s3 HA hn hc hh (some ⟨gb, go, none⟩) rn1 rc1 (rem.map FiM.b) ((of ++ [fn]) ++ rem.drop fan) := hS7.sub fun f hf => by simp at hf ⊢; rcases hf with h | h | h <;> simp [h]
        have hFs : Files ks N s0 s3 ((of ++ [fn]) ++ rem.drop fan) := HF3.out.perm (by
         rw [List.append_assoc, List.append_assoc]
         exact List.Perm.append_left _ List.perm_append_comm)
        have hnds : (((of ++ [fn]) ++ rem.drop fan).map FiM.b).Nodup := by
         have h1 := Hnd2.out
         have hp : ((of ++ [fn]) ++ rem.drop fan).Sublist ((of ++ [fn]) ++ rem) := List.Sublist.append_left (List.drop_sublist _ _) _
         refine ((hp.map FiM.b).nodup) ?_
         refine List.Perm.nodup_iff (List.Perm.map _ ?_) |>.1 h1
         rw [List.append_assoc, List.append_assoc]
         exact List.Perm.append_left _ List.perm_append_comm
        have hrs : rowsOf ((of ++ [fn]) ++ rem.drop fan) = rowsOf fs := by
         rw [← hro.out, rowsOf_app, rowsOf_app, rowsOf_app, rowsOf_one, Hfc.out, List.append_assoc, ← rowsOf_app (rem.take fan), List.take_append_drop]
        have hlen2 : ((of ++ [fn]) ++ rem.drop fan).length + 1 ≤ fs.length := by
         simp
         omega
        have HFs := Lib.hid hFs
        have Hnds := Lib.hid hnds
        have Hrs := Lib.hid hrs
        have Hlen2 := Lib.hid hlen2
        have Ho7 := Lib.hid ho7
        have Hfs7 := Lib.hid hfs
        clear hS7 hSA hfs hFs hnds hrs hlen2 ho7 hg7 hat7 hOA hk7 hT7 HSX HOX HF3 HO HO2 HS HS2 HF1 HF2 Hnd1 Hnd2 d4 f4
        by_cases hcap : fan = rc1
        ·subst hcap
         have hfin := Hfs7.out.setRuns (rs' := ((rem.drop fan)).map FiM.b) (by rw [List.map_drop, ← Ptrs_drop]; exact Hfs7.out.runs.rest hnr (some ⟨gb, go, none⟩) (by rw [if_pos rfl]))
         have Hfin := Lib.hid hfin
         have HoF := Lib.hid (Own.keeps Ho7.out (by decide) ((Keeps.refl [78] 0 w7).setCell (i := 4) Hfs7.out.blk (by simp) (Nat.zero_le _) (.slice (some ⟨gb, go, none⟩) (rn1 - fan) (fan - fan))))
         have hRR : Hid (InS (fun i => i < w.heap.size) (some ⟨gb, go, none⟩)) := hR
         have hRN : 0 = rn1 - fan := by omega
         have hRC : 0 = fan - fan := by omega
         try rw [← hRN] at Hfin HoF
         try rw [← hRC] at Hfin HoF
         have eRN : IntKind.i64.wrap ((rn1 : Int) - (fan : Int)) = ((0 : Nat) : Int) := by unfold IntKind.wrap; simp [IntKind.bits]; try omega
         have hRl : 0 < rn1 := by omega
         have hzf : w.heap.size ≤ w7.heap.size := by omega
         have HRN := Lib.hid hRN
         have HRC := Lib.hid hRC
         clear hfin hRN hRC
         go_wp2_with fail
         try rw [← HRN.out]
         try rw [← HRC.out]
         go_roundw
         case rel =>
          refine ⟨(of ++ [fn]), (rem.drop fan), A4, on + 1, c4, least2, s3, (some ⟨gb, go, none⟩), 0, 0, rfl, ?_, Hfin.out, hRR.out, HFs.out, Hnds.out, Hrs.out, by have := Hlen2.out; omega, fun _ _ => by have := Hlen2.out; omega, by omega, by simpa [World.setCell] using hzf⟩
          rw [List.map_append]
          show Own _ _ _ _ _ _ _ (Ptrs (of.map FiM.b ++ [fn.b])); rw [Hfb.out]
          exact HoF.out
         case measure =>
          have e1 := Hfin.out.restRuns
          have e2 := Hrest.out
          rw [e1, e2]
          exact hRl
        ·have hcap2 := hcap
         have hfin := Hfs7.out.setRuns (rs' := ((rem.drop fan)).map FiM.b) (by rw [List.map_drop, ← Ptrs_drop]; exact Hfs7.out.runs.rest hnr (some ⟨gb, go + fan, none⟩) (by rw [if_neg hcap]))
         have Hfin := Lib.hid hfin
         have HoF := Lib.hid (Own.keeps Ho7.out (by decide) ((Keeps.refl [78] 0 w7).setCell (i := 4) Hfs7.out.blk (by simp) (Nat.zero_le _) (.slice (some ⟨gb, go + fan, none⟩) (rn1 - fan) (rc1 - fan))))
         have hRR : Hid (InS (fun i => i < w.heap.size) (some ⟨gb, go + fan, none⟩)) := fun b o e => hR b go (by injection e with e; injection e with e _; rw [e])
         obtain ⟨RN, hRN⟩ : ∃ x, x = rn1 - fan := ⟨_, rfl⟩
         obtain ⟨RC, hRC⟩ : ∃ x, x = rc1 - fan := ⟨_, rfl⟩
         try rw [← hRN] at Hfin HoF
         try rw [← hRC] at Hfin HoF
         have eRN : IntKind.i64.wrap ((rn1 : Int) - (fan : Int)) = ((RN : Nat) : Int) := by unfold IntKind.wrap; simp [IntKind.bits]; try omega
         have hRl : RN < rn1 := by omega
         have hzf : w.heap.size ≤ w7.heap.size := by omega
         have HRN := Lib.hid hRN
         have HRC := Lib.hid hRC
         clear hfin hRN hRC
         go_wp2_with fail
         try rw [← HRN.out]
         try rw [← HRC.out]
         go_roundw
         case rel =>
          refine ⟨(of ++ [fn]), (rem.drop fan), A4, on + 1, c4, least2, s3, (some ⟨gb, go + fan, none⟩), RN, RC, rfl, ?_, Hfin.out, hRR.out, HFs.out, Hnds.out, Hrs.out, by have := Hlen2.out; omega, fun _ _ => by have := Hlen2.out; omega, by omega, by simpa [World.setCell] using hzf⟩
          rw [List.map_append]
          show Own _ _ _ _ _ _ _ (Ptrs (of.map FiM.b ++ [fn.b])); rw [Hfb.out]
          exact HoF.out
         case measure =>
          have e1 := Hfin.out.restRuns
          have e2 := Hrest.out
          rw [e1, e2]
          exact hRl
     ·have HS2 := Lib.hid hS2
      have hkp := hT2.purse HS.out.pu HS.out.hp
      have HO2 := Lib.hid (Own.keeps HO.out (by decide) hkp)
      have hz2 := hT2.size
      have her2 : (er = 5 ∧ left < fan * g) ∨ (er = 4 ∧ s0.length < N.length + 2 * ((rowsB (rowsOf fs)).length / 56) + fs.length + 1) := by
       rcases her with ⟨h1, h2⟩ | ⟨h1, h2⟩
       ·have := Nat.mul_le_mul_right g hnf
        exact .inl ⟨h1, by omega⟩
       ·have e1 : rowsOf fs = rowsOf of ++ (rowsOf (rem.take fan) ++ rowsOf (rem.drop fan)) := by rw [← hro.out, rowsOf_app, ← rowsOf_app (rem.take fan), List.take_append_drop]
        have h3 := rowsB_part e1
        have h4 := need_mono h3
        have h5 := need_le (rowsB (rowsOf fs)).length
        have h6 := HF1.out.used
        have h7 := needs_le ((of ++ rem).map FiM.c)
        have h8 : ((of ++ rem).map FiM.c).flatten = rowsOf fs := hro.out
        rw [h8, List.length_map, List.length_append] at h7
        have h9 := HF1.out.len
        have h10 : s1.length < Pg.used s1 + Pg.need (rowsB (rowsOf (rem.take fan))).length := h2
        exact .inr ⟨h1, by omega⟩
      have Her := Lib.hid her2
      have hrnm : on + rn1 ≤ 1000000 := by omega
      have herI : ¬ (er = 0) := by rcases her with ⟨h, _⟩ | ⟨h, _⟩ <;> omega
      have m40 := HS2.out.blk.cell 4
      simp only [List.getElem?_cons_zero, List.getElem?_cons_succ] at m40
      clear hkp hT2 hS2 Hjj her her2 d4 f4
      go_wp2_with (first | (at_builtin; refine hold ?_) | (at_make; refine hold ?_))
      (with_reducible refine unhold ?_)
      refine wpList_apd rfl (.tmp 48) (.tmp 52) 76 rfl Efils w.heap.size OA on oc (Ptrs (of.map FiM.b)) (by simp [Act.eval, Act.put]) HO2.out RA1 rn1 rc1 (Ptrs (rem.map FiM.b)) (by simp [Act.eval, Act.put]) (by rw [Ptrs_len, List.length_map]; omega) HS2.out.runs.rd (Ptrs_one _) (on + rn1) rfl (Ptrs ((of ++ rem).map FiM.b)) (by rw [List.map_append, Ptrs_app]) (by omega) (by omega) (by omega) ?_
      intro A4 c4 w7 ho7 hg7 hat7
      have hk7 := (Own.apd_keeps HO2.out hg7).mono0
      have hT7 : Turns (fun i => w.heap.size ≤ i) [] 0 w2 w7 := Own.turnsApd HO2.out (fun b o e => (Own.type HO2.out e).1) hg7
      have hS7 := HS2.out.outs hzw hT7 hk7 hR
      have m4 := hS7.blk.cell 4
      have m4f := hS7.blk.frozen 4
      simp only [List.getElem?_cons_zero, List.getElem?_cons_succ] at m4
      have Hfin := Lib.hid (hS7.setRuns (rs' := (of ++ rem).map FiM.b) ((OwnX.of_own ho7).lower hzw))
      clear hk7 hT7 hS7 ho7 hg7 hat7 m40
      go_wp2_with fail
      go_ret
      refine ⟨least2, s1, A4, on + rn1, c4, of ++ rem, by omega, Hfin.out, HF1.out, Hnd1.out, hrnm, ?_⟩
      rcases Her.out with ⟨h1, h2⟩ | ⟨h1, h2⟩
      ·exact .inr (.inl ⟨by subst h1; rfl, h2⟩)
      ·exact .inr (.inr ⟨by subst h1; rfl, h2⟩)
    ·have hnr : rn1 ≤ rn1 := Nat.le_refl _
     have hnf : rn1 ≤ fan := by omega
     have hn2 : 2 ≤ rn1 := by omega
     have hfrI : ¬ ((fan : Int) ≤ (rn1 : Int)) := by omega
     have hn2I : ¬ ((rn1 : Int) = 1) := by omega
     have hnI : (0 : Int) ≤ (rn1 : Int) := by omega
     have hjj := join_c w0 wo B bs bp bS KA RA1 kn kc most left least1 s1 HA hn hc hh RA1 rn1 rc1 (rem.map FiM.b) (of ++ rem) (rem.take rn1) ks N s0 rn1 rc1 g hS hF1 (fun f hf => List.mem_append.2 (.inr (List.mem_of_mem_take hf))) (by rw [List.length_take]; omega) (by omega) HK.out Hkn.out hkm
      (by rw [List.map_take, ← Ptrs_take]; exact Rs.of_ownx (hS.runs.take hnr) (by decide)) (fun b o e => by
       obtain ⟨_, ys, hy⟩ := hS.runs.type e
       exact ⟨hy.lt, Blk.ne_of_type hy hS.pu (by decide)⟩) hml hm (by omega) hg (fun f hf => Hall.out f (List.mem_append.2 (.inr (List.mem_of_mem_take hf)))) (by
       have e1 : rowsOf fs = rowsOf of ++ (rowsOf (rem.take rn1) ++ rowsOf (rem.drop rn1)) := by rw [← hro.out, rowsOf_app, ← rowsOf_app (rem.take rn1), List.take_append_drop]
       have := Htot.out
       rw [e1, List.length_append, List.length_append] at this
       show (rowsOf (rem.take rn1)).length ≤ _
       omega) (by
       have e1 : rowsOf fs = rowsOf of ++ (rowsOf (rem.take rn1) ++ rowsOf (rem.drop rn1)) := by rw [← hro.out, rowsOf_app, ← rowsOf_app (rem.take rn1), List.take_append_drop]
       have := rowsB_part e1
       have h9 := Hby.out
       show (rowsB (rowsOf (rem.take rn1))).length ≤ _
       omega)
     have Hjj := Lib.hid hjj
     have HS := Lib.hid hS
     have HF1 := Lib.hid hF1
     have Hnd1 := Lib.hid hnd1
     have Hlt := Lib.hid hlt
     have HO := Lib.hid hO
     clear hjj hS hF1 hnd1 hlt hO
     go_wp2_with fail
     refine Hjj.out.mono ?_
     rintro e w2 ⟨hT2, least2, hle2, (⟨bf, l, s2, rfl, hbf, hS2, hF2⟩ | ⟨er, rfl, hS2, her⟩)⟩
     ·have hkp := hT2.purse HS.out.pu HS.out.hp
      have HO2 := Lib.hid (Own.keeps HO.out (by decide) hkp)
      have hz2 := hT2.size
      obtain ⟨fn, hfn⟩ : ∃ fn : FiM, fn = ⟨bf, l, rowsOf (rem.take rn1)⟩ := ⟨_, rfl⟩
      have hfb : fn.b = bf := by rw [hfn]
      have hfc : fn.c = rowsOf (rem.take rn1) := by rw [hfn]
      have hS2 : SrAt w0 w2 B bs bp bS KA kn kc most left least2 s2 HA hn hc hh RA1 rn1 rc1 (rem.map FiM.b) (of ++ rem ++ [fn]) := by rw [hfn]; exact hS2
      have hF2 : Files ks N s0 s2 (of ++ rem ++ [fn]) := by rw [hfn]; exact hF2
      have Hfc := Lib.hid hfc
      have Hfb := Lib.hid hfb
      clear hfn hfc hfb
      have hbl : ∀ f ∈ of ++ rem, f.b < wo.heap.size := fun f hf => by
       obtain ⟨k, ic, I, h1⟩ := HS.out.fi f hf
       exact h1.blk.lt
      have hnd2 : ((of ++ rem ++ [fn]).map FiM.b).Nodup := by
       rw [List.map_append, List.nodup_append]
       refine ⟨Hnd1.out, by simp, fun x hx y hy e => ?_⟩
       obtain ⟨f, hf, rfl⟩ := List.mem_map.1 hx
       have := hbl f hf
       simp only [List.map_cons, List.map_nil, List.mem_singleton] at hy
       rw [Hfb.out] at hy
       omega
      have Hnd2 := Lib.hid hnd2
      have HS2 := Lib.hid hS2
      have HF2 := Lib.hid hF2
      clear hkp hT2 hbl hnd2 hS2 hF2 Hjj
      go_wp2_with fail
      go_loopw [59] (fun ix w8 => ∃ (j : Nat) (s3 : Pg.St), j ≤ rn1 ∧ ix = .int .i64 (j : Int) ∧ SrAt w0 w8 B bs bp bS KA kn kc most left least2 s3 HA hn hc hh RA1 rn1 rc1 (rem.map FiM.b) (of ++ rem.drop j ++ [fn]) ∧ Files ks N s0 s3 (of ++ rem.drop j ++ [fn]) ∧ Own w8 w.heap.size 94 1 OA on oc (Ptrs (of.map FiM.b)) ∧ w.heap.size ≤ w8.heap.size) (fun ix _ => rn1 - (intOf ix).toNat)
      case atStart => exact ⟨0, s2, by omega, by go_num, by rw [List.drop_zero]; exact HS2.out, by rw [List.drop_zero]; exact HF2.out, HO2.out, by omega⟩
      case round =>
       obtain ⟨j, s3, hj, rfl, hS3, hF3, hO3, hz3⟩ := hrel
       generalize wr = wq at *
       by_cases hjn : j < rn1
       ·have hjr : j < rem.length := by omega
        have hde : rem.drop j = rem[j] :: rem.drop (j + 1) := List.drop_eq_getElem_cons hjr
        obtain ⟨f, hf⟩ : ∃ f, f = rem[j] := ⟨_, rfl⟩
        rw [← hf] at hde
        have hfm : f ∈ of ++ rem.drop j ++ [fn] := by rw [hde]; simp
        obtain ⟨kf, icf, If, hfi⟩ := hS3.fi f hfm
        have hrun := hS3.runs
        obtain ⟨gb, go, rfl, _, hrg⟩ := hrun.at_ (by omega)
        have q0 := hrg j (.pointer (some ⟨f.b, 0, none⟩)) (by unfold Ptrs; rw [List.getElem?_map, List.getElem?_map, List.getElem?_eq_getElem hjr, ← hf]; rfl)
        have htk := hF3.taken hfm
        have hcp := sto_len hS3.sto
        have hfl4 : ∀ i ∈ f.l, i < 4096 := fun i hi => by
         obtain ⟨x, hx⟩ := htk i hi
         have := (List.getElem?_eq_some_iff.1 hx).1
         omega
        have hkl := hfi.klen
        have hmx : kf ≤ 4096 := by
         have h1 := (hF3.has.perm (List.perm_append_comm)).le
         have h2 : f.l.length ≤ ((of ++ rem.drop j ++ [fn]).flatMap FiM.l).length := by
          obtain ⟨a, b, e⟩ := List.append_of_mem hfm
          rw [e]
          simp
          omega
         rw [List.length_append] at h1
         omega
        have hBw : B ≤ wq.heap.size := Nat.le_trans hS3.hB hS3.fr.size
        have hfd := Lib.hid (fdrop_o _ B bs f.b s3 f.l kf icf If _ wq hfi hS3.sto hBw hfl4 hmx)
        have hdF : Files ks N s0 (Pg.dropS s3 (f.l.map Int.ofNat)) (of ++ rem.drop (j + 1) ++ [fn]) := by
         have h1 := hF3.perm (fs' := f :: (of ++ rem.drop (j + 1) ++ [fn])) (by
          rw [hde, List.append_assoc, List.cons_append, List.append_assoc]
          exact List.perm_middle)
         exact h1.drop
        have hne : ∀ g ∈ of ++ rem.drop (j + 1) ++ [fn], g ∈ of ++ rem.drop j ++ [fn] ∧ g.b ≠ f.b := fun g hg => by
         refine ⟨by rw [hde]; simp at hg ⊢; rcases hg with h | h | h <;> simp [h], ?_⟩
         have e1 : of ++ rem ++ [fn] = (of ++ rem.take j) ++ f :: (rem.drop (j + 1) ++ [fn]) := by
          have : rem = rem.take j ++ f :: rem.drop (j + 1) := by rw [← hde, List.take_append_drop]
          conv => lhs; rw [this]
          simp only [List.append_assoc, List.cons_append]
         have h1 := Hnd2.out
         rw [e1] at h1
         rw [List.map_append, List.map_cons, List.nodup_append] at h1
         obtain ⟨_, h2, h3⟩ := h1
         have h4 := List.nodup_cons.1 h2
         intro e
         have hg' : g ∈ of ∨ g ∈ rem.drop (j + 1) ++ [fn] := by
          rw [List.append_assoc] at hg
          exact List.mem_append.1 hg
         rcases hg' with hg' | hg'
         ·exact h3 g.b (List.mem_map.2 ⟨g, List.mem_append.2 (.inl hg'), rfl⟩) f.b (List.mem_cons_self ..) e
         ·exact h4.1 (List.mem_map.2 ⟨g, hg', e⟩)
        have HdF := Lib.hid hdF
        have HS3 := Lib.hid hS3
        have HO3 := Lib.hid hO3
        have Hne := Lib.hid hne
        have Hfm := Lib.hid hfm
        have hjI : (j : Int) < (rn1 : Int) := by omega
        have hjI0 : (0 : Int) ≤ (j : Int) := by omega
        have Hfb : Hid (Blk wq f.b 109 _) := hfi.blk
        have hflow : w0.heap.size ≤ f.b := hfi.sf
        clear hde hfi hrun hrg htk hfl4 hF3 hS3 hO3 hdF hne hfm hkl hmx hf hjr
        go_wp2_with fail
        refine hfd.out.mono ?_
        rintro e w9 ⟨rfl, hs9, hT9⟩
        have HS9 := Lib.hid (HS3.out.dropped Hfm.out hT9 hs9 Hne.out)
        have HO9 := Lib.hid (Own.turns HO3.out (by decide) (fun b o e hb => by
         obtain ⟨_, ys, hy⟩ := Own.type HO3.out e
         subst hb
         exact absurd (Blk.one hy Hfb.out) (by decide)) hT9)
        have hz9 := hT9.size
        clear hs9 hT9 hfd HS3 HO3 Hne Hfm Hfb q0
        go_wp2_with fail
        go_roundw
        case rel => exact ⟨j + 1, _, by omega, by go_num, HS9.out, HdF.out, HO9.out, by omega⟩
        case measure => simp only [intOf, Int.toNat_natCast]; omega
       ·obtain rfl : rn1 = j := by omega
        have HSX := Lib.hid hS3
        have HOX := Lib.hid hO3
        have HF3 := Lib.hid hF3
        clear hS3 hO3 hF3
        go_wp2_with (first | (at_builtin; refine hold ?_) | (at_make; refine hold ?_))
        (with_reducible refine unhold ?_)
        have hbA : Below wq.heap.size wq (wq.alloc (.cells #[.pointer (some ⟨bf, 0, none⟩)] 94)) := (Below.refl _ _).alloc (Nat.le_refl _) _
        have hSA := HSX.out.below hbA
        have hzA := hbA.size
        refine wpList_apd rfl (.tmp 66) (.tmp 68) 76 rfl Efils w.heap.size OA on oc (Ptrs (of.map FiM.b)) (by simp [Act.eval, Act.put]) (Own.below HOX.out hbA) (some ⟨wq.heap.size, 0, none⟩) 1 1 [.pointer (some ⟨bf, 0, none⟩)] (by simp [Act.eval, Act.put]) rfl (Rd.of_blk (Blk.new wq 94 #[.pointer (some ⟨bf, 0, none⟩)])) (by simp [Value.oneCell']) (on + 1) rfl (Ptrs (of.map FiM.b ++ [bf])) (by rw [Ptrs_app]; rfl) (by omega) (by omega) (by omega) ?_
        intro A4 c4 w7 ho7 hg7 hat7
        have hOA := Own.below HOX.out hbA
        have hk7 := (Own.apd_keeps hOA hg7).mono0
        have hT7 : Turns (fun i => w.heap.size ≤ i) [] 0 (wq.alloc (.cells #[.pointer (some ⟨bf, 0, none⟩)] 94)) w7 := Own.turnsApd hOA (fun b o e => (Own.type hOA e).1) hg7
        have hS7 := hSA.outs hzw hT7 hk7 hR
        have hz7 := hT7.size
        have m4 := hS7.blk.cell 4
        have m4f := hS7.blk.frozen 4
        simp only [List.getElem?_cons_zero, List.getElem?_cons_succ] at m4
        have hz0 : 0 < rn1 := hpos
        obtain ⟨gb, go, rfl, _, _⟩ := hS7.runs.at_ (by omega)
        have hfs : SrAt w0 w7 B bs bp bS KA kn kc most left least2 s3 HA hn hc hh (some ⟨gb, go, none⟩) rn1 rc1 (rem.map FiM.b) ((of ++ [fn]) ++ rem.drop rn1) := hS7.sub fun f hf => by simp at hf ⊢; rcases hf with h | h | h <;> simp [h]
        have hFs : Files ks N s0 s3 ((of ++ [fn]) ++ rem.drop rn1) := HF3.out.perm (by
         rw [List.append_assoc, List.append_assoc]
         exact List.Perm.append_left _ List.perm_append_comm)
        have hnds : (((of ++ [fn]) ++ rem.drop rn1).map FiM.b).Nodup := by
         have h1 := Hnd2.out
         have hp : ((of ++ [fn]) ++ rem.drop rn1).Sublist ((of ++ [fn]) ++ rem) := List.Sublist.append_left (List.drop_sublist _ _) _
         refine ((hp.map FiM.b).nodup) ?_
         refine List.Perm.nodup_iff (List.Perm.map _ ?_) |>.1 h1
         rw [List.append_assoc, List.append_assoc]
         exact List.Perm.append_left _ List.perm_append_comm
        have hrs : rowsOf ((of ++ [fn]) ++ rem.drop rn1) = rowsOf fs := by
         rw [← hro.out, rowsOf_app, rowsOf_app, rowsOf_app, rowsOf_one, Hfc.out, List.append_assoc, ← rowsOf_app (rem.take rn1), List.take_append_drop]
        have hlen2 : ((of ++ [fn]) ++ rem.drop rn1).length + 1 ≤ fs.length := by
         simp
         omega
        have HFs := Lib.hid hFs
        have Hnds := Lib.hid hnds
        have Hrs := Lib.hid hrs
        have Hlen2 := Lib.hid hlen2
        have Ho7 := Lib.hid ho7
        have Hfs7 := Lib.hid hfs
        clear hS7 hSA hfs hFs hnds hrs hlen2 ho7 hg7 hat7 hOA hk7 hT7 HSX HOX HF3 HO HO2 HS HS2 HF1 HF2 Hnd1 Hnd2 d4 f4
        by_cases hcap : rn1 = rc1
        ·subst hcap
         have hfin := Hfs7.out.setRuns (rs' := ((rem.drop rn1)).map FiM.b) (by rw [List.map_drop, ← Ptrs_drop]; exact Hfs7.out.runs.rest hnr (some ⟨gb, go, none⟩) (by rw [if_pos rfl]))
         have Hfin := Lib.hid hfin
         have HoF := Lib.hid (Own.keeps Ho7.out (by decide) ((Keeps.refl [78] 0 w7).setCell (i := 4) Hfs7.out.blk (by simp) (Nat.zero_le _) (.slice (some ⟨gb, go, none⟩) (rn1 - rn1) (rn1 - rn1))))
         have hRR : Hid (InS (fun i => i < w.heap.size) (some ⟨gb, go, none⟩)) := hR
         have hRN : 0 = rn1 - rn1 := by omega
         have hRC : 0 = rn1 - rn1 := by omega
         try rw [← hRN] at Hfin HoF
         try rw [← hRC] at Hfin HoF
         have eRN : IntKind.i64.wrap ((rn1 : Int) - (rn1 : Int)) = ((0 : Nat) : Int) := by unfold IntKind.wrap; simp [IntKind.bits]; try omega
         have hRl : 0 < rn1 := by omega
         have hzf : w.heap.size ≤ w7.heap.size := by omega
         have HRN := Lib.hid hRN
         have HRC := Lib.hid hRC
         clear hfin hRN hRC
         go_wp2_with fail
         try rw [← HRN.out]
         try rw [← HRC.out]
         go_roundw
         case rel =>
          refine ⟨(of ++ [fn]), (rem.drop rn1), A4, on + 1, c4, least2, s3, (some ⟨gb, go, none⟩), 0, 0, rfl, ?_, Hfin.out, hRR.out, HFs.out, Hnds.out, Hrs.out, by have := Hlen2.out; omega, fun _ _ => by have := Hlen2.out; omega, by omega, by simpa [World.setCell] using hzf⟩
          rw [List.map_append]
          show Own _ _ _ _ _ _ _ (Ptrs (of.map FiM.b ++ [fn.b])); rw [Hfb.out]
          exact HoF.out
         case measure =>
          have e1 := Hfin.out.restRuns
          have e2 := Hrest.out
          rw [e1, e2]
          exact hRl
        ·have hcap2 := hcap
         have hfin := Hfs7.out.setRuns (rs' := ((rem.drop rn1)).map FiM.b) (by rw [List.map_drop, ← Ptrs_drop]; exact Hfs7.out.runs.rest hnr (some ⟨gb, go + rn1, none⟩) (by rw [if_neg hcap]))
         have Hfin := Lib.hid hfin
         have HoF := Lib.hid (Own.keeps Ho7.out (by decide) ((Keeps.refl [78] 0 w7).setCell (i := 4) Hfs7.out.blk (by simp) (Nat.zero_le _) (.slice (some ⟨gb, go + rn1, none⟩) (rn1 - rn1) (rc1 - rn1))))
         have hRR : Hid (InS (fun i => i < w.heap.size) (some ⟨gb, go + rn1, none⟩)) := fun b o e => hR b go (by injection e with e; injection e with e _; rw [e])
         have hRN : 0 = rn1 - rn1 := by omega
         obtain ⟨RC, hRC⟩ : ∃ x, x = rc1 - rn1 := ⟨_, rfl⟩
         try rw [← hRN] at Hfin HoF
         try rw [← hRC] at Hfin HoF
         have eRN : IntKind.i64.wrap ((rn1 : Int) - (rn1 : Int)) = ((0 : Nat) : Int) := by unfold IntKind.wrap; simp [IntKind.bits]; try omega
         have hRl : 0 < rn1 := by omega
         have hzf : w.heap.size ≤ w7.heap.size := by omega
         have HRN := Lib.hid hRN
         have HRC := Lib.hid hRC
         clear hfin hRN hRC
         go_wp2_with fail
         try rw [← HRN.out]
         try rw [← HRC.out]
         go_roundw
         case rel =>
          refine ⟨(of ++ [fn]), (rem.drop rn1), A4, on + 1, c4, least2, s3, (some ⟨gb, go + rn1, none⟩), 0, RC, rfl, ?_, Hfin.out, hRR.out, HFs.out, Hnds.out, Hrs.out, by have := Hlen2.out; omega, fun _ _ => by have := Hlen2.out; omega, by omega, by simpa [World.setCell] using hzf⟩
          rw [List.map_append]
          show Own _ _ _ _ _ _ _ (Ptrs (of.map FiM.b ++ [fn.b])); rw [Hfb.out]
          exact HoF.out
         case measure =>
          have e1 := Hfin.out.restRuns
          have e2 := Hrest.out
          rw [e1, e2]
          exact hRl
     ·have HS2 := Lib.hid hS2
      have hkp := hT2.purse HS.out.pu HS.out.hp
      have HO2 := Lib.hid (Own.keeps HO.out (by decide) hkp)
      have hz2 := hT2.size
      have her2 : (er = 5 ∧ left < fan * g) ∨ (er = 4 ∧ s0.length < N.length + 2 * ((rowsB (rowsOf fs)).length / 56) + fs.length + 1) := by
       rcases her with ⟨h1, h2⟩ | ⟨h1, h2⟩
       ·have := Nat.mul_le_mul_right g hnf
        exact .inl ⟨h1, by omega⟩
       ·have e1 : rowsOf fs = rowsOf of ++ (rowsOf (rem.take rn1) ++ rowsOf (rem.drop rn1)) := by rw [← hro.out, rowsOf_app, ← rowsOf_app (rem.take rn1), List.take_append_drop]
        have h3 := rowsB_part e1
        have h4 := need_mono h3
        have h5 := need_le (rowsB (rowsOf fs)).length
        have h6 := HF1.out.used
        have h7 := needs_le ((of ++ rem).map FiM.c)
        have h8 : ((of ++ rem).map FiM.c).flatten = rowsOf fs := hro.out
        rw [h8, List.length_map, List.length_append] at h7
        have h9 := HF1.out.len
        have h10 : s1.length < Pg.used s1 + Pg.need (rowsB (rowsOf (rem.take rn1))).length := h2
        exact .inr ⟨h1, by omega⟩
      have Her := Lib.hid her2
      have hrnm : on + rn1 ≤ 1000000 := by omega
      have herI : ¬ (er = 0) := by rcases her with ⟨h, _⟩ | ⟨h, _⟩ <;> omega
      have m40 := HS2.out.blk.cell 4
      simp only [List.getElem?_cons_zero, List.getElem?_cons_succ] at m40
      clear hkp hT2 hS2 Hjj her her2 d4 f4
      go_wp2_with (first | (at_builtin; refine hold ?_) | (at_make; refine hold ?_))
      (with_reducible refine unhold ?_)
      refine wpList_apd rfl (.tmp 48) (.tmp 52) 76 rfl Efils w.heap.size OA on oc (Ptrs (of.map FiM.b)) (by simp [Act.eval, Act.put]) HO2.out RA1 rn1 rc1 (Ptrs (rem.map FiM.b)) (by simp [Act.eval, Act.put]) (by rw [Ptrs_len, List.length_map]; omega) HS2.out.runs.rd (Ptrs_one _) (on + rn1) rfl (Ptrs ((of ++ rem).map FiM.b)) (by rw [List.map_append, Ptrs_app]) (by omega) (by omega) (by omega) ?_
      intro A4 c4 w7 ho7 hg7 hat7
      have hk7 := (Own.apd_keeps HO2.out hg7).mono0
      have hT7 : Turns (fun i => w.heap.size ≤ i) [] 0 w2 w7 := Own.turnsApd HO2.out (fun b o e => (Own.type HO2.out e).1) hg7
      have hS7 := HS2.out.outs hzw hT7 hk7 hR
      have m4 := hS7.blk.cell 4
      have m4f := hS7.blk.frozen 4
      simp only [List.getElem?_cons_zero, List.getElem?_cons_succ] at m4
      have Hfin := Lib.hid (hS7.setRuns (rs' := (of ++ rem).map FiM.b) ((OwnX.of_own ho7).lower hzw))
      clear hk7 hT7 hS7 ho7 hg7 hat7 m40
      go_wp2_with fail
      go_ret
      refine ⟨least2, s1, A4, on + rn1, c4, of ++ rem, by omega, Hfin.out, HF1.out, Hnd1.out, hrnm, ?_⟩
      rcases Her.out with ⟨h1, h2⟩ | ⟨h1, h2⟩
      ·exact .inr (.inl ⟨by subst h1; rfl, h2⟩)
      ·exact .inr (.inr ⟨by subst h1; rfl, h2⟩)
end Go.Proofs.YtcadjekcdokkjaaGreat
