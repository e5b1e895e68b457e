/- The walk of SorterStable. The walk of SorterStable. -/
import Derived.Test.YtcadjekcdokkjaaGreatMJoSn
namespace Go.Proofs.YtcadjekcdokkjaaGreat
set_option linter.unusedVariables false
set_option linter.unusedSimpArgs false
open Go.RowKit
attribute [local go_sem ↓] Go.wp_at_zero Go.wp_at_succ
def prR (a i : Nat) : RowM := [⟨2, a, []⟩, ⟨2, i, []⟩]
def k1S : List Ky := [⟨0, false⟩]
def k2S : List Ky := [⟨0, false⟩, ⟨1, false⟩]
theorem cmpVa_num (a b : Int) : cmpVa ⟨2, a, []⟩ ⟨2, b, []⟩ = cmpI a b := by
 have h1 : cmpI 2 2 = 0 := rfl
 have h2 : cmpS ([] : List UInt8) [] = 0 := by decide
 unfold cmpVa or3
 simp only [h1, h2]
 split
 ·rename_i h; exact absurd rfl h
 ·split
  ·rfl
  ·rename_i h; simpa using (by omega : (0 : Int) = cmpI a b)
theorem prR_cmp1 (a i b j : Nat) : cmpR k1S (prR a i) (prR b j) = cmpI a b := by
 have h : oneD (colAt (prR a i) 0) (colAt (prR b j) 0) false = cmpI a b := by
  show oneD ⟨2, a, []⟩ ⟨2, b, []⟩ false = _
  unfold oneD
  simp [cmpVa_num]
 unfold k1S
 rw [cmpR_cons, h, cmpR]
 split
 ·rfl
 ·rename_i h2; simp at h2; exact h2.symm
theorem prR_cmp2 (a i b j : Nat) : cmpR k2S (prR a i) (prR b j) = if cmpI a b ≠ 0 then cmpI a b else cmpI i j := by
 have h : oneD (colAt (prR a i) 0) (colAt (prR b j) 0) false = cmpI a b := by
  show oneD ⟨2, a, []⟩ ⟨2, b, []⟩ false = _
  unfold oneD
  simp [cmpVa_num]
 have h2 : oneD (colAt (prR a i) 1) (colAt (prR b j) 1) false = cmpI i j := by
  show oneD ⟨2, i, []⟩ ⟨2, j, []⟩ false = _
  unfold oneD
  simp [cmpVa_num]
 unfold k2S
 rw [cmpR_cons, h, cmpR_cons, h2, cmpR]
 split
 ·rfl
 ·split
  ·rfl
  ·rename_i h3; simp at h3; exact h3.symm
theorem prR_le1 (a i b j : Nat) : leRow k1S (prR a i) (prR b j) = decide (a ≤ b) := by
 unfold leRow
 rw [prR_cmp1]
 unfold cmpI
 congr 1
 apply propext
 split <;> (try split) <;> constructor <;> intro h <;> omega
theorem prR_le2 (a i b j : Nat) : leRow k2S (prR a i) (prR b j) = decide (a < b ∨ (a = b ∧ i ≤ j)) := by
 unfold leRow
 rw [prR_cmp2]
 unfold cmpI
 congr 1
 apply propext
 split <;> (try split) <;> (try split) <;> (try split) <;> constructor <;> intro h <;> omega
theorem ins_two {a j : Nat} : ∀ {l : List RowM}, Sq.Up (leRow k2S) l → (∀ r ∈ l, ∃ b i, r = prR b i ∧ i < j) → Sq.Up (leRow k2S) (Sq.ins (leRow k1S) (prR a j) l)
 | [], _, _ => by
  unfold Sq.ins
  exact List.pairwise_singleton _ _
 | y :: l, hu, hl => by
  obtain ⟨b, i, rfl, hi⟩ := hl y (by simp)
  have hu2 := List.pairwise_cons.1 hu
  have ih := ins_two (a := a) hu2.2 fun r hr => hl r (by simp [hr])
  unfold Sq.ins
  by_cases h : b ≤ a
  ·rw [if_pos (by rw [prR_le1]; exact decide_eq_true h)]
   refine List.pairwise_cons.2 ⟨fun z hz => ?_, ih⟩
   rcases Sq.ins_mem.1 hz with rfl | hz
   ·rw [prR_le2]
    exact decide_eq_true (by omega)
   ·exact hu2.1 z hz
  ·rw [if_neg (by rw [prR_le1, decide_eq_true_eq]; exact h)]
   have h1 : leRow k2S (prR a j) (prR b i) = true := by rw [prR_le2]; exact decide_eq_true (by omega)
   refine List.pairwise_cons.2 ⟨fun z hz => ?_, hu⟩
   rcases List.mem_cons.1 hz with rfl | hz
   ·exact h1
   ·exact (leRow_ord k2S).trans _ _ _ h1 (hu2.1 z hz)
structure StabM (acc : List RowM) (j : Nat) : Prop where
 len : acc.length = j
 up : Sq.Up (leRow k2S) (sortR k1S acc)
 row : ∀ r ∈ acc, ∃ b i, r = prR b i ∧ i < j ∧ b < 4
theorem StabM.start : StabM [] 0 := ⟨rfl, List.Pairwise.nil, fun r h => by cases h⟩
theorem StabM.snoc {acc : List RowM} {j a : Nat} (h : StabM acc j) (ha : a < 4) : StabM (acc ++ [prR a j]) (j + 1) := by
 refine ⟨by rw [List.length_append, h.len]; rfl, ?_, fun r hr => ?_⟩
 ·show Sq.Up _ (Sq.sortM (leRow k1S) (acc ++ [prR a j]))
  rw [Sq.sort_snoc]
  refine ins_two h.up fun r hr => ?_
  obtain ⟨b, i, h1, h2, _⟩ := h.row r ((sort_perm k1S acc).mem_iff.1 hr)
  exact ⟨b, i, h1, h2⟩
 ·rcases List.mem_append.1 hr with hr | hr
  ·obtain ⟨b, i, h1, h2, h3⟩ := h.row r hr
   exact ⟨b, i, h1, by omega, h3⟩
  ·rw [List.mem_singleton.1 hr]
   exact ⟨a, j, rfl, by omega, ha⟩
theorem prR_ok {a i : Nat} (ha : a < 4) (hi : i < 60) : ∀ v ∈ prR a i, v.ok := fun v hv => by
 have h : v = ⟨2, (a : Int), []⟩ ∨ v = ⟨2, (i : Int), []⟩ := by simpa [prR] using hv
 rcases h with rfl | rfl
 ·exact ⟨⟨by show (0 : Int) ≤ 2; decide, by show (2 : Int) ≤ 255; decide⟩, ⟨by show _ ≤ (a : Int); omega, by show (a : Int) ≤ _; omega⟩, by show 0 ≤ _; omega⟩
 ·exact ⟨⟨by show (0 : Int) ≤ 2; decide, by show (2 : Int) ≤ 255; decide⟩, ⟨by show _ ≤ (i : Int); omega, by show (i : Int) ≤ _; omega⟩, by show 0 ≤ _; omega⟩
theorem prR_may (a i : Nat) : mayR (prR a i) = 0 := by simp [prR, mayR, rightV]
theorem prR_cost (a i : Nat) : rowC (prR a i) = 24 := by simp [prR, rowC]
theorem StabM.fine {acc : List RowM} {j : Nat} (h : StabM acc j) (hj : j ≤ 60) : ∀ r ∈ acc, FineR 24 r := fun r hr => by
 obtain ⟨b, i, rfl, h2, h3⟩ := h.row r hr
 exact ⟨⟨prR_may b i, prR_ok h3 (by omega)⟩, prR_ok h3 (by omega), by rw [prR_cost]; omega, by simp [prR]⟩
theorem StabM.bytes {acc : List RowM} {j : Nat} (h : StabM acc j) (hj : j ≤ 60) : (rowsB acc).length ≤ 1260 := by
 have h1 : ∀ l : List RowM, (∀ r ∈ l, ∃ b i, r = prR b i ∧ i < j ∧ b < 4) → (rowsB l).length ≤ 21 * l.length := fun l => by
  induction l with
  | nil => intro _; simp [rowsB]
  | cons r l ih =>
   intro hl
   have h2 := ih fun x hx => hl x (by simp [hx])
   obtain ⟨b, i, rfl, h3, h4⟩ := hl r (by simp)
   have h5 := vputs_le2 (may_right (prR_may b i)).2 (prR_ok (a := b) (i := i) h4 (by omega))
   have h6 : (numB (prR b i).length).length = 1 := rfl
   have h7 : txtR (prR b i) = 0 := rfl
   have h8 : (prR b i).length = 2 := rfl
   rw [Pg.rowsB_cons, List.length_append, List.length_cons]
   unfold rowB
   rw [List.length_append]
   omega
 have := h1 acc h.row
 have := h.len
 omega
def Step (ks : List Ky) (l : List RowM) : Prop := ∀ q (h : q + 1 < l.length), ¬ cmpR ks l[q + 1] (l[q]'(by omega)) < 0
theorem Step.of_up {ks : List Ky} {l : List RowM} (h : Sq.Up (leRow ks) l) : Step ks l := fun q hq hn => by
 have h1 := List.pairwise_iff_getElem.1 h q (q + 1) (by omega) hq (by omega)
 have h2 := leRow_iff.1 h1
 have h3 := ((cmpR_cmp ks).flip l[q + 1] (l[q]'(by omega))).1 hn
 omega
theorem osorted1_k (x y : RowM) (xl xc yl yc : Nat) (X Y : Option Addr) (kb : Nat) (KA : Option Addr) (kn kc : Nat) (ks : List Ky) (w : World) (hx : x.length = xl) (hy : y.length = yl) (hX : Rd w X (rcells x)) (hY : Rd w Y (rcells y)) (k2 : w.cell? ⟨kb, 0, none⟩ = some (.slice KA kn kc)) (hlen : ks.length = kn) (hK : Rd w KA (kyc ks)) (hn : kn ≤ 1000000) :
  Calls Tryz.prog 38 #[.slice X xl xc, .slice Y yl yc, .pointer (some ⟨kb, 0, none⟩)] w fun e w' => e = .returned (.int .i64 (cmpR ks x y)) ∧ Below w.heap.size w w' := by
 have hc := Lib.hid (rcmp_k x y xl xc yl yc X Y KA kn kc ks w hx hy hX hY hlen hK hn)
 clear hlen
 go_enter Tryz.func38, Tryz.ntmps38
 go_wp2_with fail
 refine hc.out.mono ?_
 rintro e w3 ⟨rfl, hb3⟩
 go_wp2_with fail
 go_ret
 exact ⟨rfl, hb3⟩
set_option maxHeartbeats 8000000 in
set_option maxRecDepth 100000 in
theorem issorted_k (rs : List RowM) (hs : List Value) (n c : Nat) (A : Option Addr) (kb : Nat) (KA : Option Addr) (kn kc : Nat) (ks : List Ky) (w : World) (hn : rs.length = n) (hA : Rd w A hs) (hR : Rows w hs rs) (hn1 : n ≤ 1000000) (hst : Step ks rs) (k2 : w.cell? ⟨kb, 0, none⟩ = some (.slice KA kn kc)) (hlen : ks.length = kn) (hK : Rd w KA (kyc ks)) (hkn : kn ≤ 1000000) :
  Calls Tryz.prog 37 #[.slice A n c, .func (Fn.func 38) #[] #[.pointer (some ⟨kb, 0, none⟩)]] w fun e w' => e = .returned (.bool true) ∧ Below w.heap.size w w' := by
 have Hn := Lib.hid hn
 have Hk2 := Lib.hid k2
 have HK := Lib.hid hK
 have Hlen := Lib.hid hlen
 have Hst := Lib.hid hst
 have HA := Lib.hid hA
 have HR := Lib.hid hR
 clear hn k2 hK hlen hst hA hR
 go_enter Tryz.func37, Tryz.ntmps37
 go_wp2_with fail
 go_loopw [5] (fun i wr => ∃ z : Int, -1 ≤ z ∧ z < n ∧ i = .int .i64 z ∧ Below w.heap.size w wr) (fun i _ => (intOf i).toNat)
 case atStart => exact ⟨(n : Int) - 1, by omega, by omega, by go_num, Below.refl _ _⟩
 case round =>
  obtain ⟨z, hz1, hz2, rfl, hb⟩ := hrel
  by_cases hp : 0 < z
  ·obtain ⟨q, rfl⟩ := Int.eq_ofNat_of_zero_le (show 0 ≤ z by omega)
   obtain ⟨p, hqp⟩ : ∃ p, q = p + 1 := ⟨q - 1, by omega⟩
   have hq : q < rs.length := by rw [Hn.out]; omega
   have hp' : p < rs.length := by omega
   obtain ⟨b, o, E, d, rfl, ca, _, _, hrx⟩ := head_cell (HA.out.below hb) (HR.out.below hb) hq
   obtain ⟨b', o', E', d', hAe, cb, _, _, hry⟩ := head_cell (HA.out.below hb) (HR.out.below hb) hp'
   cases hAe
   have hng : ¬ cmpR ks rs[q] rs[p] < 0 := by
    have h1 := Hst.out p (by omega)
    simpa only [← hqp] using h1
   have hbd : Below wr.heap.size wr wr.drew := (Below.refl _ _).drew
   have hbwd := hb.trans (hbd.mono hb.size)
   generalize rs[q] = x at *
   generalize rs[p] = y at *
   generalize hxl : x.length = xl at *
   generalize hyl : y.length = yl at *
   have hcl := Lib.hid (osorted1_k x y xl d yl d' E E' kb KA kn kc ks wr.drew hxl hyl (hrx.below hbd) (hry.below hbd) (cell_keep hbwd Hk2.out) Hlen.out (HK.out.below hbwd) hkn)
   generalize cmpR ks x y = R at *
   have cad : wr.drew.cell? ⟨b, o + q, none⟩ = some (.slice E xl d) := ca
   have cbd : wr.drew.cell? ⟨b, o + p, none⟩ = some (.slice E' yl d') := cb
   have hpi : (q : Int) - 1 = (p : Int) := by omega
   have hw2 : IntKind.i64.wrap (p : Int) = (p : Int) := by rw [IntKind.wrap_i64]; omega
   have hw3 : IntKind.i64.wrap ((q : Int) - 1) = (p : Int) := by rw [IntKind.wrap_i64]; omega
   have hpn : p < n := by omega
   have hpnI : (p : Int) < (n : Int) := by omega
   have hp0I : (0 : Int) ≤ (p : Int) := by omega
   have hqn : q < n := by omega
   have Hqp := Lib.hid hqp
   have Hbwd := Lib.hid hbwd
   clear hqp hxl hyl hrx hry hbd hbwd hq hp'
   go_wp2_with fail
   go_region_held3 (fun w' => w'.cell? ⟨b, o + q, none⟩ = some (.slice E xl d) ∧ w'.cell? ⟨b, o + p, none⟩ = some (.slice E' yl d'))
    (first | assumption | exact ⟨ca, cb⟩ | exact ⟨cad, cbd⟩ | exact ⟨ca3, cb3⟩)
    (first | (go_at_call 38; refine hcl.out.mono ?_; rintro e w3 ⟨rfl, hb3⟩; have ca3 := cell_keep hb3 cad; have cb3 := cell_keep hb3 cbd))
   have hbw3 := Hbwd.out.trans (hb3.mono Hbwd.out.size)
   go_wp2_with fail
   go_roundw
   case rel => exact ⟨(p : Int), by omega, by omega, by go_num, hbw3⟩
   case measure => simp [intOf]; have := Hqp.out; omega
  ·go_wp2_with fail
   go_ret
   exact ⟨rfl, hb⟩
theorem osorted_k (rs : List RowM) (hs : List Value) (n c : Nat) (A : Option Addr) (KA : Option Addr) (kn kc : Nat) (ks : List Ky) (w : World) (hn : rs.length = n) (hA : Rd w A hs) (hR : Rows w hs rs) (hn1 : n ≤ 1000000) (hst : Step ks rs) (hlen : ks.length = kn) (hK : Rd w KA (kyc ks)) (hkn : kn ≤ 1000000) :
  Calls Tryz.prog 13 #[.slice A n c, .slice KA kn kc] w fun e w' => e = .returned (.bool true) ∧ Below w.heap.size w w' := by
 have hb1 : Below w.heap.size w (w.alloc (.cells #[.slice KA kn kc] 41)) := (Below.refl _ _).alloc (Nat.le_refl _) _
 have hc := Lib.hid (issorted_k rs hs n c A w.heap.size KA kn kc ks _ hn (hA.below hb1) (hR.below hb1) hn1 hst ((Blk.new w 41 #[.slice KA kn kc]).cell 0) hlen (hK.below hb1) hkn)
 clear hlen hn
 go_enter Tryz.func13, Tryz.ntmps13
 go_wp2_with fail
 refine hc.out.mono ?_
 rintro e w3 ⟨rfl, hb3⟩
 go_wp2_with fail
 go_ret
 exact ⟨rfl, hb1.trans (hb3.mono hb1.size)⟩
end Go.Proofs.YtcadjekcdokkjaaGreat
namespace Go.Proofs.YtcadjekcdokkjaaGreat
set_option linter.unusedVariables false
set_option linter.unusedSimpArgs false
open Go.RowKit
attribute [local go_sem ↓] Go.wp_at_zero Go.wp_at_succ
set_option maxHeartbeats 16000000 in
set_option maxRecDepth 100000 in
theorem stable_walk (l : List UInt8) (n c : Nat) (A : Option Addr) (fa mo : Nat) (w : World) (hn : l.length = n) (hn1 : n ≤ 9223372036854775807) (hA : Rd w A (Bs l)) (hfa : fa ≤ 255) (hmo : mo ≤ 255) :
  Calls Tryz.prog 4 #[.slice A n c, .int .u8 (fa : Int), .int .u8 (mo : Int)] w fun e w' => e = .returned (.bool true) ∧ Below w.heap.size w w' := by
 have Hn := Lib.hid hn
 have HA := Lib.hid hA
 clear hn hA
 obtain ⟨F, hF⟩ : ∃ m, m = fa % 15 + 2 := ⟨_, rfl⟩
 obtain ⟨M, hM⟩ : ∃ m, m = mo % 201 := ⟨_, rfl⟩
 obtain ⟨R, hR⟩ : ∃ m, m = 24 * F + M := ⟨_, rfl⟩
 have e1 : (fa : Int).tmod 15 = (F : Int) - 2 := by rw [Int.tmod_eq_emod_of_nonneg (by omega)]; omega
 have e2 : (mo : Int).tmod 201 = (M : Int) := by rw [Int.tmod_eq_emod_of_nonneg (by omega)]; omega
 have bF : 2 ≤ F ∧ F ≤ 16 := by omega
 have bM : M ≤ 200 := by omega
 have bR : R ≤ 600 := by omega
 have f1 : IntKind.i64.wrap ((F : Int) - 2) = (F : Int) - 2 := by rw [IntKind.wrap_i64]; omega
 have f2 : IntKind.i64.wrap (M : Int) = (M : Int) := by rw [IntKind.wrap_i64]; omega
 have f3 : IntKind.i64.wrap ((F : Int) - 2 + 2) = (F : Int) := by rw [IntKind.wrap_i64]; omega
 have f4 : IntKind.i64.wrap (24 * (F : Int)) = (R : Int) - (M : Int) := by rw [IntKind.wrap_i64]; omega
 have f5 : IntKind.i64.wrap ((R : Int) - (M : Int) + (M : Int)) = (R : Int) := by rw [IntKind.wrap_i64]; omega
 have HRe := Lib.hid hR
 clear hF hM hR
 go_enter Tryz.func4, Tryz.ntmps4
 go_wp2_with fail
 refine (shown18 w).mono ?_
 rintro e w0 ⟨rfl, hb0⟩
 have Hb0 := Lib.hid hb0
 clear hb0
 go_wp2_with fail
 go_loopw [8, 21] (fun vr vi wr => ∃ (j : Nat) (RA : Option Addr) (rc : Nat) (hh : List Value) (acc : List RowM), j ≤ n ∧ j ≤ 60 ∧ vi = .int .i64 (j : Int) ∧ vr = .slice RA j rc ∧ Own wr w0.heap.size 23 1 RA j rc hh ∧ LitRows wr hh acc ∧ StabM acc j ∧ Hid (Below w.heap.size w wr) ∧ w0.heap.size ≤ wr.heap.size) (fun _ i _ => n - (intOf i).toNat)
 case atStart => exact ⟨0, none, 0, [], [], by omega, by omega, by go_num, by go_num, Own.nil _ _ _ _, LitRows.nil _, StabM.start, Hb0.out, Nat.le_refl _⟩
 case round =>
  obtain ⟨j, RA, rc, hh, acc, hj, hj60, rfl, rfl, hO, hLR, hS, Hb, hzr⟩ := hrel
  generalize wr = wq at *
  have HO := Lib.hid hO
  have HLR := Lib.hid hLR
  have HS := Lib.hid hS
  clear hO hLR hS
  by_cases hgo : j < n ∧ j < 60
  ·obtain ⟨hjn, hj6⟩ := hgo
   have hjl : j < l.length := by rw [Hn.out]; exact hjn
   obtain ⟨b, o, rfl, _, _, hc⟩ := (HA.out.below Hb.out).get (k := j) (by rw [List.length_map]; exact hjl)
   rw [List.getElem_map] at hc
   replace hc : wq.cell? ⟨b, o + j, none⟩ = some (.int .u8 (l[j].toNat : Int)) := hc
   obtain ⟨x, hxx⟩ : ∃ x : Nat, x = l[j].toNat := ⟨_, rfl⟩
   have hx : x ≤ 255 := by have := l[j].toNat_lt; omega
   rw [← hxx] at hc
   clear hxx
   obtain ⟨a, ha⟩ : ∃ a, a = x % 4 := ⟨_, rfl⟩
   have ha4 : a < 4 := by omega
   have g1 : (x : Int).tmod 4 = (a : Int) := by rw [Int.tmod_eq_emod_of_nonneg (by omega)]; omega
   have g2 : IntKind.i64.wrap (a : Int) = (a : Int) := by rw [IntKind.wrap_i64]; omega
   have hjI : (j : Int) < (n : Int) := by omega
   have hjI0 : (0 : Int) ≤ (j : Int) := by omega
   have hj60I : ¬ ((60 : Int) ≤ (j : Int)) := by omega
   clear ha
   go_wp2_with (first | (at_builtin; refine hold ?_) | (at_make; refine hold ?_))
   (with_reducible refine unhold ?_)
   have hbA : Below wq.heap.size wq (wq.alloc (.cells #[.int .u8 2, .int .i64 (a : Int), .string ⟨#[]⟩, .int .u8 2, .int .i64 (j : Int), .string ⟨#[]⟩] 38)) := (Below.refl _ _).alloc (Nat.le_refl _) _
   have kA : Blk (wq.alloc (.cells #[.int .u8 2, .int .i64 (a : Int), .string ⟨#[]⟩, .int .u8 2, .int .i64 (j : Int), .string ⟨#[]⟩] 38)) wq.heap.size 38 (rcells (prR a j)) := Blk.new wq _ _
   have hzA : (wq.alloc (.cells #[.int .u8 2, .int .i64 (a : Int), .string ⟨#[]⟩, .int .u8 2, .int .i64 (j : Int), .string ⟨#[]⟩] 38)).heap.size = wq.heap.size + 1 := by simp
   generalize wq.alloc (.cells #[.int .u8 2, .int .i64 (a : Int), .string ⟨#[]⟩, .int .u8 2, .int .i64 (j : Int), .string ⟨#[]⟩] 38) = wA at *
   have hbC : Below wA.heap.size wA (wA.alloc (.cells #[.slice (some ⟨wq.heap.size, 0, none⟩) 2 2] 23)) := (Below.refl _ _).alloc (Nat.le_refl _) _
   have hnew := Rd.of_blk (Blk.new wA 23 #[.slice (some ⟨wq.heap.size, 0, none⟩) 2 2])
   have hbqC := hbA.trans (hbC.mono hbA.size)
   have hOC := Own.below HO.out hbqC
   have hkC := kA.below hbC
   have hLC := HLR.out.below hbqC
   have HbC := Lib.hid (Hb.out.trans (hbqC.mono Hb.out.size))
   have hzC := hbqC.size
   rw [hzA] at hnew
   generalize wA.alloc (.cells #[.slice (some ⟨wq.heap.size, 0, none⟩) 2 2] 23) = wC at *
   refine wpList_apd rfl (.tmp 28) (.tmp 36) 32 rfl Erows w0.heap.size RA j rc hh (by simp [Act.eval, Act.put]) hOC (some ⟨wq.heap.size + 1, 0, none⟩) 1 1 [.slice (some ⟨wq.heap.size, 0, none⟩) 2 2] (by simp [Act.eval, Act.put]) rfl hnew (by simp [Value.oneCell']) (j + 1) rfl (hh ++ [.slice (some ⟨wq.heap.size, 0, none⟩) 2 2]) rfl (by omega) (by omega) (by omega) ?_
   intro A4 c4 w4 ho4 hg4 hat4
   have hk4 := (Own.apd_keeps hOC hg4)
   have hb4 : Below w.heap.size w w4 := HbC.out.trans (hk4.below (by omega) |>.mono (by have := Hb0.out.size; omega))
   have hL4 := (hLC.keeps (by decide) hk4).snoc (r := prR a j) (hkC.keeps (by decide) hk4) (by unfold maxLen; show 2 ≤ _; omega) (prR_ok ha4 hj6)
   have hz4 := hk4.size
   have Ho4 := Lib.hid ho4
   have HL4 := Lib.hid hL4
   have Hb4 := Lib.hid hb4
   have HS4 := Lib.hid (HS.out.snoc ha4)
   clear hbA kA hbC hnew hbqC hOC hkC hLC ho4 hg4 hat4 hk4 hb4 hL4 hzA
   go_wp2_with fail
   go_roundw
   case rel => exact ⟨j + 1, A4, c4, _, _, by omega, by omega, by go_num, rfl, Ho4.out, HL4.out, HS4.out, Hb4, by omega⟩
   case measure => simp [intOf]; omega
  ·by_cases hjn : j < n
   ·obtain rfl : j = 60 := by omega
    have hjl : 60 < l.length := by rw [Hn.out]; exact hjn
    obtain ⟨b, o, rfl, _, _, hc⟩ := (HA.out.below Hb.out).get (k := 60) (by rw [List.length_map]; exact hjl)
    rw [List.getElem_map] at hc
    replace hc : wq.cell? ⟨b, o + 60, none⟩ = some (.int .u8 (l[60].toNat : Int)) := hc
    have hjI : (60 : Int) < (n : Int) := by omega
    clear hgo
    go_wp2_with fail
    refine (pnew_any R wq (by omega)).mono ?_
    rintro e v1 ⟨bp, rfl, hp1, hbp, hb1⟩
    have HO1 := Lib.hid (Own.below HO.out hb1)
    have HL1 := Lib.hid (HLR.out.below hb1)
    have Hb1 := Lib.hid (Hb.out.trans (hb1.mono Hb.out.size))
    have Hp1 := Lib.hid hp1
    have hy1 := hb1.size
    clear hp1 hb1 HO HLR Hb
    go_wp2_with fail
    refine (new_yes 200 v1 (by omega)).mono ?_
    rintro e v2 ⟨bs, rfl, hs2, hb2⟩
    have hy2 := hb2.size
    have Hs2 := Lib.hid (hs2.lower hy1)
    have HO2 := Lib.hid (Own.below HO1.out hb2)
    have HL2 := Lib.hid (HL1.out.below hb2)
    have Hb2 := Lib.hid (Hb1.out.trans (hb2.mono Hb1.out.size))
    have Hp2 := Lib.hid (Hp1.out.below hb2)
    clear hs2 hb2 HO1 HL1 Hb1 Hp1
    go_wp2_with fail
    have hbK : Below v2.heap.size v2 (v2.alloc (.cells #[.int .i64 0, .bool false] 40)) := (Below.refl _ _).alloc (Nat.le_refl _) _
    have hgK : Blk (v2.alloc (.cells #[.int .i64 0, .bool false] 40)) v2.heap.size 40 (kyc k1S) := Blk.new v2 _ _
    have hpK := Hp2.out.below hbK
    have hOK := Own.below HO2.out hbK
    have hLK := HL2.out.below hbK
    have hneK : v2.heap.size ≠ bp := by have := Hp2.out.lt; omega
    have hcame : Came (v2.alloc (.cells #[.int .i64 0, .bool false] 40)) wq.heap.size bp RA hh acc := fun w' hT => ⟨(Own.keeps hOK (by decide) (hT.purse hpK hbp)).rd, (hLK.keeps (by decide) (hT.purse hpK hbp)).rows⟩
    have hsrt := sort_s (v2.alloc (.cells #[.int .i64 0, .bool false] 40)) wq.heap.size bs bp (some ⟨v2.heap.size, 0, none⟩) 1 1 R R RA 60 rc hh acc k1S [] (List.replicate 200 none) R F 24 (by have := hbK.size; omega) hbp (Hs2.out.below hbK) hpK (Pg.Has.none_ 200) hcame HS.out.len (by omega) (KeyIn.blk hgK hneK) rfl (by omega) bF.1 bF.2 (Nat.le_refl _) (by omega) (Nat.le_refl _) (by omega) (HS.out.fine hj60) (by have := HS.out.bytes hj60; omega)
    have Hsrt := Lib.hid hsrt
    have HbK := Lib.hid (Hb2.out.trans (hbK.mono Hb2.out.size))
    have hzK := hbK.size
    clear hbK hgK hpK hOK hLK hcame hsrt HO2 HL2 Hs2 Hp2 Hb2
    refine Hsrt.out.mono ?_
    rintro e v3 ⟨hend, least', hle', hdo⟩
    have hcase : ∃ A9 c9, e = .returned (.tuple #[.slice A9 60 c9, .int .i64 0]) ∧ Told v3 wq.heap.size A9 60 c9 (sortR k1S acc) := by
     have hbb := HS.out.bytes hj60
     have hal := HS.out.len
     rcases hend with ⟨A9, c9, h1, h2, _⟩ | ⟨_, h1, _⟩ | ⟨_, h1, _⟩
     ·rw [hal] at h1 h2
      exact ⟨A9, c9, h1, h2⟩
     ·have h3 := HRe.out
      omega
     ·rw [List.length_replicate, hal, List.length_nil] at h1
      omega
    obtain ⟨A9, c9, rfl, hT⟩ := hcase
    have hb3 := hdo.belowM (M := w.heap.size) (by have := HbK.out.size; omega) (by have := Hb0.out.size; omega) (by have := Hb0.out.size; omega)
    have Hb3 := Lib.hid (HbK.out.trans hb3)
    have HT3 := Lib.hid hT
    clear hend hdo hb3 hT Hsrt HbK
    go_wp2_with fail
    have hbL : Below v3.heap.size v3 (v3.alloc (.cells #[.int .i64 0, .bool false, .int .i64 1, .bool false] 40)) := (Below.refl _ _).alloc (Nat.le_refl _) _
    have hgL := Rd.of_blk (Blk.new v3 40 #[.int .i64 0, .bool false, .int .i64 1, .bool false])
    obtain ⟨hTl, hh8, hT1, hT2⟩ := (HT3.out.below hbL).rows
    have hso := osorted_k (sortR k1S acc) hh8 60 c9 A9 (some ⟨v3.heap.size, 0, none⟩) 2 2 k2S (v3.alloc (.cells #[.int .i64 0, .bool false, .int .i64 1, .bool false] 40)) hTl hT1 hT2 (by omega) (Step.of_up HS.out.up) rfl hgL (by omega)
    have Hso := Lib.hid hso
    have HbL := Lib.hid (Hb3.out.trans (hbL.mono Hb3.out.size))
    clear hbL hgL hTl hT1 hT2 hso Hb3
    refine Hso.out.mono ?_
    rintro e v4 ⟨rfl, hb4⟩
    have Hb4 := Lib.hid (HbL.out.trans (hb4.mono HbL.out.size))
    clear hb4 Hso HbL
    go_wp2_with fail
    go_ret
    exact ⟨rfl, Hb4.out⟩
   ·obtain rfl : n = j := by omega
    clear hgo
    go_wp2_with fail
    refine (pnew_any R wq (by omega)).mono ?_
    rintro e v1 ⟨bp, rfl, hp1, hbp, hb1⟩
    have HO1 := Lib.hid (Own.below HO.out hb1)
    have HL1 := Lib.hid (HLR.out.below hb1)
    have Hb1 := Lib.hid (Hb.out.trans (hb1.mono Hb.out.size))
    have Hp1 := Lib.hid hp1
    have hy1 := hb1.size
    clear hp1 hb1 HO HLR Hb
    go_wp2_with fail
    refine (new_yes 200 v1 (by omega)).mono ?_
    rintro e v2 ⟨bs, rfl, hs2, hb2⟩
    have hy2 := hb2.size
    have Hs2 := Lib.hid (hs2.lower hy1)
    have HO2 := Lib.hid (Own.below HO1.out hb2)
    have HL2 := Lib.hid (HL1.out.below hb2)
    have Hb2 := Lib.hid (Hb1.out.trans (hb2.mono Hb1.out.size))
    have Hp2 := Lib.hid (Hp1.out.below hb2)
    clear hs2 hb2 HO1 HL1 Hb1 Hp1
    go_wp2_with fail
    have hbK : Below v2.heap.size v2 (v2.alloc (.cells #[.int .i64 0, .bool false] 40)) := (Below.refl _ _).alloc (Nat.le_refl _) _
    have hgK : Blk (v2.alloc (.cells #[.int .i64 0, .bool false] 40)) v2.heap.size 40 (kyc k1S) := Blk.new v2 _ _
    have hpK := Hp2.out.below hbK
    have hOK := Own.below HO2.out hbK
    have hLK := HL2.out.below hbK
    have hneK : v2.heap.size ≠ bp := by have := Hp2.out.lt; omega
    have hcame : Came (v2.alloc (.cells #[.int .i64 0, .bool false] 40)) wq.heap.size bp RA hh acc := fun w' hT => ⟨(Own.keeps hOK (by decide) (hT.purse hpK hbp)).rd, (hLK.keeps (by decide) (hT.purse hpK hbp)).rows⟩
    have hsrt := sort_s (v2.alloc (.cells #[.int .i64 0, .bool false] 40)) wq.heap.size bs bp (some ⟨v2.heap.size, 0, none⟩) 1 1 R R RA n rc hh acc k1S [] (List.replicate 200 none) R F 24 (by have := hbK.size; omega) hbp (Hs2.out.below hbK) hpK (Pg.Has.none_ 200) hcame HS.out.len (by omega) (KeyIn.blk hgK hneK) rfl (by omega) bF.1 bF.2 (Nat.le_refl _) (by omega) (Nat.le_refl _) (by omega) (HS.out.fine hj60) (by have := HS.out.bytes hj60; omega)
    have Hsrt := Lib.hid hsrt
    have HbK := Lib.hid (Hb2.out.trans (hbK.mono Hb2.out.size))
    have hzK := hbK.size
    clear hbK hgK hpK hOK hLK hcame hsrt HO2 HL2 Hs2 Hp2 Hb2
    refine Hsrt.out.mono ?_
    rintro e v3 ⟨hend, least', hle', hdo⟩
    have hcase : ∃ A9 c9, e = .returned (.tuple #[.slice A9 n c9, .int .i64 0]) ∧ Told v3 wq.heap.size A9 n c9 (sortR k1S acc) := by
     have hbb := HS.out.bytes hj60
     have hal := HS.out.len
     rcases hend with ⟨A9, c9, h1, h2, _⟩ | ⟨_, h1, _⟩ | ⟨_, h1, _⟩
     ·rw [hal] at h1 h2
      exact ⟨A9, c9, h1, h2⟩
     ·have h3 := HRe.out
      omega
     ·rw [List.length_replicate, hal, List.length_nil] at h1
      omega
    obtain ⟨A9, c9, rfl, hT⟩ := hcase
    have hb3 := hdo.belowM (M := w.heap.size) (by have := HbK.out.size; omega) (by have := Hb0.out.size; omega) (by have := Hb0.out.size; omega)
    have Hb3 := Lib.hid (HbK.out.trans hb3)
    have HT3 := Lib.hid hT
    clear hend hdo hb3 hT Hsrt HbK
    go_wp2_with fail
    have hbL : Below v3.heap.size v3 (v3.alloc (.cells #[.int .i64 0, .bool false, .int .i64 1, .bool false] 40)) := (Below.refl _ _).alloc (Nat.le_refl _) _
    have hgL := Rd.of_blk (Blk.new v3 40 #[.int .i64 0, .bool false, .int .i64 1, .bool false])
    obtain ⟨hTl, hh8, hT1, hT2⟩ := (HT3.out.below hbL).rows
    have hso := osorted_k (sortR k1S acc) hh8 n c9 A9 (some ⟨v3.heap.size, 0, none⟩) 2 2 k2S (v3.alloc (.cells #[.int .i64 0, .bool false, .int .i64 1, .bool false] 40)) hTl hT1 hT2 (by omega) (Step.of_up HS.out.up) rfl hgL (by omega)
    have Hso := Lib.hid hso
    have HbL := Lib.hid (Hb3.out.trans (hbL.mono Hb3.out.size))
    clear hbL hgL hTl hT1 hT2 hso Hb3
    refine Hso.out.mono ?_
    rintro e v4 ⟨rfl, hb4⟩
    have Hb4 := Lib.hid (HbL.out.trans (hb4.mono HbL.out.size))
    clear hb4 Hso HbL
    go_wp2_with fail
    go_ret
    exact ⟨rfl, Hb4.out⟩
end Go.Proofs.YtcadjekcdokkjaaGreat
