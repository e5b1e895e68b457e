/- Values, rows and lists of rows that came in as arguments, as plain data. The walks of SorterNil and SorterCounts. What the walks of the Sorter laws share. -/
import Derived.Test.YtcadjekcdokkjaaGreatMJoXY
import Derived.Test.YtcadjekcdokkjaaGreatMArIn
import Derived.Test.YtcadjekcdokkjaaGreatMSnEF
namespace Go.Proofs.YtcadjekcdokkjaaGreat
set_option linter.unusedVariables false
set_option linter.unusedSimpArgs false
open Go.RowKit
theorem Reads.str {P : Program} {w : World} {t : TypeId} {cs : List Value} (ht : P.underlying t = some .string) (h : Reads P w t cs) : ∃ s : List UInt8, cs = [.string (St8 s)] ∧ s.length ≤ maxLen := by
 obtain ⟨H, enc, fuel, x, h⟩ := h
 obtain ⟨s, h1, _, h2⟩ := DataW.trod_string ht h
 refine ⟨s.data.toList, h1, ?_⟩
 have : s.data.toList.length = s.size := Array.length_toList
 exact Nat.le_trans (Nat.le_of_eq this) h2
theorem va_of {w : World} {cs : List Value} (h : Reads Tryz.prog w 38 cs) : ∃ v : Va, cs = v.cells ∧ v.ok := by
 obtain ⟨hlen, hf⟩ := h.cells Tryz.underlying38 (by kernel_rfl) (by kernel_rfl)
 match cs, hlen with
 | [c0, c1, c2], _ =>
  obtain ⟨_, e0, f0⟩ := hf 0 _ rfl
  obtain ⟨_, e1, f1⟩ := hf 1 _ rfl
  obtain ⟨_, e2, f2⟩ := hf 2 _ rfl
  cases e0; cases e1; cases e2
  obtain ⟨k, h0, w0⟩ := f0.int Tryz.underlying5
  obtain ⟨n, h1, w1⟩ := f1.int Tryz.underlying3
  obtain ⟨s, h2, w2⟩ := f2.str Tryz.underlying9
  cases h0; cases h1; cases h2
  unfold maxLen at w2
  refine ⟨⟨k, n, s⟩, rfl, wf_u8_bounds w0, wf_i64_bounds w1, by omega⟩
theorem addr_add_add (a : Addr) (i j : Nat) : (a.add i).add j = a.add (i + j) := by
 by_cases hi : i = 0
 ·subst hi; simp [Addr.add]
 ·by_cases hj : j = 0
  ·subst hj; simp [Addr.add]
  ·simp [Addr.add, hi, hj, Nat.add_assoc]
set_option maxRecDepth 100000 in
theorem row_of {w : World} {X : Option Addr} {n c : Nat} {t : TypeId} (ht : Tryz.prog.underlying t = some (.slice 38)) (h : Reads Tryz.prog w t [.slice X n c]) : ∃ r : RowM, r.length = n ∧ Rd w X (rcells r) ∧ (∀ v ∈ r, v.ok) ∧ n ≤ c ∧ c ≤ maxLen := by
 obtain ⟨X', n', c', hcs, hnc, hcm, hX, hel⟩ := h.slice ht
 cases hcs
 have h3 : Tryz.prog.cellsOf 38 = 3 := by kernel_rfl
 rw [h3] at hel
 have key : ∀ m, m ≤ n → ∃ r : RowM, r.length = m ∧ (∀ v ∈ r, v.ok) ∧ ∀ i v, r[i]? = some v → ∃ ad, X = some ad ∧ ∀ t, t < 3 → w.cell? (ad.add (i * 3 + t)) = v.cells[t]? := by
  intro m
  induction m with
  | zero => intro _; exact ⟨[], rfl, by simp, by simp⟩
  | succ m ih =>
   intro hm
   obtain ⟨r, h1, h2, h4⟩ := ih (by omega)
   obtain ⟨ad, cs, hx, _, hc, hr⟩ := hel m (by omega)
   obtain ⟨v, rfl, hv⟩ := va_of hr
   refine ⟨r ++ [v], by simp [h1], fun y hy => ?_, fun i y hy => ?_⟩
   ·rcases List.mem_append.1 hy with hy | hy
    ·exact h2 y hy
    ·rw [List.mem_singleton.1 hy]; exact hv
   ·rw [List.getElem?_append] at hy
    split at hy
    ·exact h4 i y hy
    ·have hi : i = m := by
      have := (List.getElem?_eq_some_iff.1 hy).1
      simp at this
      omega
     subst hi
     simp [h1] at hy
     subst hy
     refine ⟨ad, hx, fun t ht => ?_⟩
     have := hc t ht
     rwa [addr_add_add] at this
 obtain ⟨r, h1, h2, h4⟩ := key n (Nat.le_refl _)
 refine ⟨r, h1, ?_, h2, hnc, hcm⟩
 cases X with
 | none =>
  have : r = [] := List.eq_nil_of_length_eq_zero (by have := (hX rfl).1; omega)
  subst this
  exact Rd.nil _ _
 | some ad =>
  refine rd_of_cells fun i u hu => ?_
  have hlt : i / 3 < r.length := by
   have := (List.getElem?_eq_some_iff.1 hu).1
   have hla := rcells_len r
   omega
  obtain ⟨ad', e, hc⟩ := h4 (i / 3) _ (List.getElem?_eq_getElem hlt)
  injection e with e
  subst e
  have h := hc (i % 3) (Nat.mod_lt _ (by omega))
  rw [show i / 3 * 3 + i % 3 = i from by omega] at h
  rw [h]
  have := rcells_get r (i / 3) _ (i % 3) (List.getElem?_eq_getElem hlt) (Nat.mod_lt _ (by omega))
  rw [show i / 3 * 3 + i % 3 = i from by omega, hu] at this
  exact this.symm
set_option maxRecDepth 100000 in
theorem rows_of {w : World} {X : Option Addr} {n c : Nat} (h : Reads Tryz.prog w 32 [.slice X n c]) : ∃ (hs : List Value) (rs : List RowM), rs.length = n ∧ Rd w X hs ∧ Rows w hs rs ∧ n ≤ c ∧ c ≤ maxLen := by
 obtain ⟨X', n', c', hcs, hnc, hcm, hX, hel⟩ := h.slice Tryz.underlying32
 cases hcs
 have h1c : Tryz.prog.cellsOf 23 = 1 := by kernel_rfl
 rw [h1c] at hel
 have key : ∀ m, m ≤ n → ∃ (hs : List Value) (rs : List RowM), rs.length = m ∧ Rows w hs rs ∧ ∀ i v, hs[i]? = some v → ∃ ad, X = some ad ∧ w.cell? (ad.add i) = some v := by
  intro m
  induction m with
  | zero => intro _; exact ⟨[], [], rfl, Rows.nil _, by simp⟩
  | succ m ih =>
   intro hm
   obtain ⟨hs, rs, h1, h2, h4⟩ := ih (by omega)
   obtain ⟨ad, cs, hx, hcl, hc, hr⟩ := hel m (by omega)
   obtain ⟨A, rn, rc, hcs, _⟩ := hr.slice Tryz.underlying23
   subst hcs
   obtain ⟨r, hrl, hrd, hok, hrc, hrm⟩ := row_of Tryz.underlying23 hr
   refine ⟨hs ++ [.slice A rn rc], rs ++ [r], by simp [h1], ⟨by rw [List.length_append, List.length_append, h2.len]; rfl, fun i q hi => ?_⟩, fun i y hy => ?_⟩
   ·rw [List.getElem?_append] at hi
    split at hi
    ·obtain ⟨A', c', e1, e2⟩ := h2.at_ i q hi
     exact ⟨A', c', by rw [List.getElem?_append_left (List.getElem?_eq_some_iff.1 e1).1]; exact e1, e2⟩
    ·have e : i = rs.length := by
      have := (List.getElem?_eq_some_iff.1 hi).1
      simp at this
      omega
     subst e
     simp at hi
     subst hi
     exact ⟨A, rc, by rw [← h2.len, hrl]; simp, by rw [hrl]; exact hrc, hrm, hrd, hok⟩
   ·rw [List.getElem?_append] at hy
    split at hy
    ·exact h4 i y hy
    ·have hi : i = m := by
      have := (List.getElem?_eq_some_iff.1 hy).1
      have := h2.len
      simp at *
      omega
     subst hi
     have hll : hs.length = i := by rw [h2.len, h1]
     simp [hll] at hy
     subst hy
     refine ⟨ad, hx, ?_⟩
     have := hc 0 (by omega)
     rw [Nat.mul_one] at this
     have e0 : (ad.add i).add 0 = ad.add i := by simp [Addr.add]
     rw [e0] at this
     exact this
 obtain ⟨hs, rs, h1, h2, h4⟩ := key n (Nat.le_refl _)
 refine ⟨hs, rs, h1, ?_, h2, hnc, hcm⟩
 cases X with
 | none =>
  have : hs = [] := List.eq_nil_of_length_eq_zero (by have := (hX rfl).1; rw [h2.len]; omega)
  subst this
  exact Rd.nil _ _
 | some ad =>
  refine rd_of_cells fun i u hu => ?_
  obtain ⟨ad', e, hc⟩ := h4 i u hu
  injection e with e
  subst e
  exact hc
end Go.Proofs.YtcadjekcdokkjaaGreat
namespace Go.Proofs.YtcadjekcdokkjaaGreat
set_option linter.unusedVariables false
set_option linter.unusedSimpArgs false
open Go.RowKit
attribute [local go_sem ↓] Go.wp_at_zero Go.wp_at_succ
set_option maxHeartbeats 8000000 in
set_option maxRecDepth 100000 in
theorem snil_walk (n c : Nat) (A : Option Addr) (w : World) (hn : n ≤ 9223372036854775807) :
  Calls Tryz.prog 3 #[.slice A n c] w fun e w' => e = .returned (.bool true) ∧ Below w.heap.size w w' := by
 go_enter Tryz.func3, Tryz.ntmps3
 go_wp2_with fail
 refine (shown18 w).mono ?_
 rintro e w1 ⟨rfl, hb1⟩
 have Hb1 := Lib.hid hb1
 clear hb1
 go_wp2_with fail
 refine (new_yes 3 w1 (by omega)).mono ?_
 rintro e w2 ⟨bs, rfl, _, hb2⟩
 have Hb2 := Lib.hid (Hb1.out.trans (hb2.mono Hb1.out.size))
 clear hb2 Hb1
 go_wp2_with fail
 refine (pnew_any 100 w2 (by omega)).mono ?_
 rintro e w3 ⟨bp, rfl, _, _, hb3⟩
 have Hb3 := Lib.hid (Hb2.out.trans (hb3.mono Hb2.out.size))
 clear hb3 Hb2
 by_cases h40 : 40 < n
 ·have hI : (40 : Int) < (n : Int) := by omega
  go_wp2_with fail
  go_ret
  exact ⟨rfl, Hb3.out⟩
 ·have hI : ¬ ((40 : Int) < (n : Int)) := by omega
  go_wp2_with fail
  have hbA : Below w3.heap.size w3 (w3.alloc (.cells #[.slice A n c] 23)) := (Below.refl _ _).alloc (Nat.le_refl _) _
  have HbA := Lib.hid (Hb3.out.trans (hbA.mono Hb3.out.size))
  clear hbA
  refine (sort_none none (some ⟨bp, 0, none⟩) (.inl rfl) _ 1 1 none 0 0 2 _).mono ?_
  rintro e w4 ⟨rfl, hw4⟩
  obtain rfl := hw4
  generalize w3.alloc (.cells #[.slice A n c] 23) = w4 at *
  go_wp2_with fail
  have hbB : Below w4.heap.size w4 (w4.alloc (.cells #[.slice A n c] 23)) := (Below.refl _ _).alloc (Nat.le_refl _) _
  have HbB := Lib.hid (HbA.out.trans (hbB.mono HbA.out.size))
  clear hbB
  refine (sort_none (some ⟨bs, 0, none⟩) none (.inr rfl) _ 1 1 none 0 0 2 _).mono ?_
  rintro e w5 ⟨rfl, hw5⟩
  obtain rfl := hw5
  go_wp2_with fail
  go_ret
  exact ⟨rfl, HbB.out⟩
set_option maxHeartbeats 8000000 in
set_option maxRecDepth 100000 in
theorem counts_walk (rs : List RowM) (hs : List Value) (n c mo ru : Nat) (fan : Int) (A : Option Addr) (w : World) (hn : rs.length = n) (hnc : n ≤ c) (hc : c ≤ 9223372036854775807) (hA : Rd w A hs) (hR : Rows w hs rs) (hmo : mo ≤ 4294967295) (hru : ru ≤ 4294967295) (h1 : -9223372036854775808 ≤ fan) (h2 : fan ≤ 9223372036854775807) :
  Calls Tryz.prog 7 #[.slice A n c, .int .u32 (mo : Int), .int .u32 (ru : Int), .int .i64 fan] w fun e w' => e = .returned (.bool true) ∧ Below w.heap.size w w' := by
 have Hn := Lib.hid hn
 have HA := Lib.hid hA
 have HR := Lib.hid hR
 clear hn hA hR
 obtain ⟨m1, hm1⟩ : ∃ m, m = mo % 1073741824 := ⟨_, rfl⟩
 obtain ⟨m2, hm2⟩ : ∃ m, m = ru % 1073741824 := ⟨_, rfl⟩
 have e1 : (mo : Int).tmod 1073741824 = (m1 : Int) := by rw [Int.tmod_eq_emod_of_nonneg (by omega)]; omega
 have e2 : (ru : Int).tmod 1073741824 = (m2 : Int) := by rw [Int.tmod_eq_emod_of_nonneg (by omega)]; omega
 have b1 : m1 < 1073741824 := by omega
 have b2 : m2 < 1073741824 := by omega
 have f1 : IntKind.i64.wrap (m1 : Int) = (m1 : Int) := by rw [IntKind.wrap_i64]; omega
 have f2 : IntKind.i64.wrap (m2 : Int) = (m2 : Int) := by rw [IntKind.wrap_i64]; omega
 have f3 : IntKind.i64.wrap (-(m2 : Int)) = -(m2 : Int) := by rw [IntKind.wrap_i64]; omega
 clear hm1 hm2
 go_enter Tryz.func7, Tryz.ntmps7
 go_wp2_with fail
 refine (few18_any rs hs n c A w Hn.out hnc hc HA.out HR.out).mono ?_
 rintro e w1 ⟨⟨k, hk, hfew, rfl⟩, hb1⟩
 have hxl : (rs.take k).length = k := by rw [List.length_take, Hn.out]; omega
 have HX := Lib.hid (rdTake HA.out k)
 have HXR := Lib.hid (HR.out.take k)
 have hk60 : k ≤ 60 := by have := hfew.len; omega
 have Hrow := Lib.hid hfew.row
 generalize rs.take k = xs at *
 generalize hs.take k = js at *
 have Hxl := Lib.hid hxl
 have Hb1 := Lib.hid hb1
 have hrw : ∀ r ∈ xs, rowC r ≤ 1000000000000 ∧ r.length ≤ 1000000 := fun r hr => by have := Hrow.out r hr; omega
 have hr1 := Lib.hid (truns_any xs js k c A m1 w1 Hxl.out (HX.out.below Hb1.out) (HXR.out.below Hb1.out) (by omega) (by omega) hrw)
 have Hrw := Lib.hid hrw
 clear hxl hb1 hfew hrw
 go_wp2_with fail
 refine hr1.out.mono ?_
 rintro e w2 ⟨rfl, hb2⟩
 have Hb2 := Lib.hid (Hb1.out.trans (hb2.mono Hb1.out.size))
 have hr2 := Lib.hid (rruns_any xs js k c A m1 w2 Hxl.out (HX.out.below Hb2.out) (HXR.out.below Hb2.out) (by omega) (by omega) Hrw.out)
 clear hb2 hr1 Hb1
 generalize runsK m1 xs = K at *
 generalize runsE m1 xs = E at *
 go_wp2_with fail
 refine hr2.out.mono ?_
 rintro e w3 ⟨rfl, hb3⟩
 have Hb3 := Lib.hid (Hb2.out.trans (hb3.mono Hb2.out.size))
 clear hb3 hr2 Hb2
 go_wp2_with fail
 refine (shown18 w3).mono ?_
 rintro e w4 ⟨rfl, hb4⟩
 have Hb4 := Lib.hid (Hb3.out.trans (hb4.mono Hb3.out.size))
 clear hb4 Hb3
 have hp1 := Lib.hid (passes_any m2 fan w4 (by omega) h1 h2)
 have hp2 := Lib.hid (rpasses_any m2 fan w4 (by omega) h1 h2)
 generalize passesV m2 fan = V at *
 go_wp2_with fail
 refine hp1.out.mono ?_
 rintro e w5 ⟨rfl, hw5⟩
 obtain rfl := hw5
 go_wp2_with fail
 refine hp2.out.mono ?_
 rintro e w5 ⟨rfl, hw5⟩
 obtain rfl := hw5
 go_wp2_with fail
 refine (passes_any_neg m2 fan w4 (by omega)).mono ?_
 rintro e w5 ⟨rfl, hw5⟩
 obtain rfl := hw5
 go_wp2_with fail
 go_ret
 exact ⟨rfl, Hb4.out⟩
theorem ky_of {w : World} {cs : List Value} (h : Reads Tryz.prog w 40 cs) : ∃ x : Ky, cs = x.cells ∧ True := by
 obtain ⟨hlen, hf⟩ := h.cells Tryz.underlying40 (by kernel_rfl) (by kernel_rfl)
 match cs, hlen with
 | [c0, c1], _ =>
  obtain ⟨_, e0, f0⟩ := hf 0 _ rfl
  obtain ⟨_, e1, f1⟩ := hf 1 _ rfl
  cases e0; cases e1
  obtain ⟨k, h0, _⟩ := f0.int Tryz.underlying3
  obtain ⟨b, h1⟩ := f1.bool Tryz.underlying4
  cases h0; cases h1
  exact ⟨⟨k, b⟩, rfl, trivial⟩
theorem keys_of {w : World} {X : Option Addr} {n c : Nat} (h : Reads Tryz.prog w 41 [.slice X n c]) : ∃ ks : List Ky, ks.length = n ∧ Rd w X (kyc ks) ∧ n ≤ c ∧ c ≤ maxLen := by
 obtain ⟨l, h1, h2, _, h3, h4⟩ := Reads.list Ky.cells (fun _ => True) 2 (by omega) (fun _ => rfl) Tryz.underlying41 (by kernel_rfl) (fun _ => ky_of) h
 exact ⟨l, h1, h2, h3, h4⟩
end Go.Proofs.YtcadjekcdokkjaaGreat
namespace Go.Proofs.YtcadjekcdokkjaaGreat
set_option linter.unusedVariables false
set_option linter.unusedSimpArgs false
open Go.RowKit
attribute [local go_sem ↓] Go.wp_at_zero Go.wp_at_succ
theorem came_arg {w wS : World} {B bp : Nat} {X : Option Addr} {hs : List Value} {rs : List RowM} (hA : Rd w X hs) (hR : Rows w hs rs) (hb : Below w.heap.size w wS) (hB : w.heap.size ≤ B) (hp : w.heap.size ≤ bp) : Came wS B bp X hs rs := fun w' hT => by
 have h1 : Below w.heap.size wS w' := hT.below (fun k hk => by have := hb.size; rcases hk with hk | hk <;> omega) hb.size hB
 exact ⟨hA.below (hb.trans h1), hR.below (hb.trans h1)⟩
theorem key_arg {w wS : World} {B bp : Nat} {KA : Option Addr} {ks : List Ky} (hK : Rd w KA (kyc ks)) (hb : Below w.heap.size w wS) (hB : w.heap.size ≤ B) (hp : w.heap.size ≤ bp) : KeyIn wS B bp KA ks := by
 refine ⟨fun hn => ?_, fun hn b o e => ?_⟩
 ·obtain ⟨b, o, e, hr⟩ := hK.below hb hn
  obtain ⟨b', o', e', hr'⟩ := hK hn
  rw [e] at e'
  injection e' with e'
  injection e' with e' _
  have := lt_of_range hr' hn
  exact ⟨b, o, e, hr, .inl (by omega)⟩
 ·obtain ⟨b', o', e', hr'⟩ := hK hn
  rw [e] at e'
  injection e' with e'
  injection e' with e' _
  have := lt_of_range hr' hn
  have := hb.size
  exact ⟨by omega, by omega⟩
theorem kyc_take : ∀ (ks : List Ky) (m : Nat), kyc (ks.take m) = (kyc ks).take (m * 2)
 | [], m => by simp [kyc]
 | k :: ks, 0 => by simp [kyc]
 | k :: ks, m + 1 => by
  have h := kyc_take ks m
  unfold kyc at *
  rw [List.take_succ_cons, List.flatMap_cons, List.flatMap_cons, h, show (m + 1) * 2 = k.cells.length + m * 2 by show _ = 2 + _; omega, List.take_append]
  simp
  exact (List.take_of_length_le (by omega)).symm
theorem key_take {w : World} {KA : Option Addr} {ks : List Ky} (hK : Rd w KA (kyc ks)) (m : Nat) : Rd w KA (kyc (ks.take m)) := by
 rw [kyc_take]
 exact rdTake hK _
theorem DropOut.belowM {wS w' : World} {B bs bp most left least M : Nat} {N : List Nat} {s0 : Pg.St} (h : DropOut wS w' B bs bp most left least N s0) (h1 : M ≤ wS.heap.size) (h2 : M ≤ B) (h3 : M ≤ bp) : Below M wS w' :=
 h.fr.below (fun k hk => by rcases hk with hk | hk <;> omega) h1 h2
theorem runs_some {room : Nat} : ∀ (rs : List RowM) (n left : Nat), (∀ r ∈ rs, rowC r ≤ room) → ∃ k, runsF room n left rs = some k ∧ k ≤ n + rs.length
 | [], n, left, _ => ⟨n, rfl, by simp⟩
 | r :: rs, n, left, h => by
  have hr := h r (by simp)
  rw [runsF, if_neg (by omega)]
  split
  ·obtain ⟨k, h1, h2⟩ := runs_some rs (n + 1) (room - rowC r) fun x hx => h x (by simp [hx])
   exact ⟨k, h1, by rw [List.length_cons]; omega⟩
  ·obtain ⟨k, h1, h2⟩ := runs_some rs n (left - rowC r) fun x hx => h x (by simp [hx])
   exact ⟨k, h1, by rw [List.length_cons]; omega⟩
theorem Few18.fineR {xs : List RowM} (h : Few18 xs) (hok : ∀ r ∈ xs, ∀ v ∈ r, v.ok) {g : Nat} (hg : ∀ r ∈ xs, rowC r ≤ g) : ∀ r ∈ xs, FineR g r := fun r hr =>
 ⟨⟨h.may r hr, hok r hr⟩, hok r hr, hg r hr, by have := (h.row r hr).2; omega⟩
theorem rneed18_any (n : Nat) (w : World) (h : n ≤ 9223372036854775807) :
  Calls Tryz.prog 18 #[.int .i64 (n : Int)] w fun e w' => e = .returned (.int .i64 (Pg.need n : Nat)) ∧ w = w' := by
 by_cases hn : n < 1
 ·have hp : Hid ((if n < 1 then 0 else (n - 1) / 56 + 1) = 0) := if_pos hn
  go_enter Tryz.func18, Tryz.ntmps18
  go_wp2
  go_ret
  exact ⟨by rw [Pg.need, hp.out]; rfl, rfl⟩
 ·have hp : Hid ((if n < 1 then 0 else (n - 1) / 56 + 1) = (n - 1) / 56 + 1) := if_neg hn
  go_enter Tryz.func18, Tryz.ntmps18
  go_wp2
  go_ret
  refine ⟨?_, rfl⟩
  rw [Pg.need, hp.out]
  have e : (((n - 1) / 56 + 1 : Nat) : Int) = ((n : Int) - 1) / 56 + 1 := by omega
  rw [e]
  rfl
theorem Sto.lower {w : World} {B B' bs : Nat} {s : Pg.St} (h : Sto w B bs s) (hB : B' ≤ B) : Sto w B' bs s := by
 obtain ⟨bp, qs, h⟩ := h
 exact ⟨bp, qs, Nat.le_trans hB h.hs, Nat.le_trans hB h.hp, h.st, h.row, h.len, h.most, fun i l hi => by
  obtain ⟨g, h1, h2, h3⟩ := h.some_ i l hi
  exact ⟨g, h1, Nat.le_trans hB h2, h3⟩, h.none_, h.inj⟩
namespace Pg
theorem ids_nodup (s : St) (n : Nat) : (ids s n).Nodup := by
 unfold ids
 exact ((List.take_sublist _ _).trans List.filter_sublist).nodup List.nodup_range
theorem ids_lt {s : St} {n i : Nat} (h : i ∈ ids s n) : i < s.length := by
 unfold ids at h
 have h2 := (List.mem_filter.1 (List.mem_of_mem_take h)).1
 exact List.mem_range.1 h2
theorem alloc_has {n k : Nat} (h : k ≤ n) : allocE (List.replicate n none) (k : Nat) = 0 ∧ Has (allocS (List.replicate n none) (k : Nat)) (allocL (List.replicate n none) (k : Nat)) ∧ (allocL (List.replicate n none) (k : Nat)).length = k ∧ (allocS (List.replicate n none) (k : Nat)).length = n := by
 have hu : used (List.replicate n (none : Option (List UInt8))) = 0 := used_none n
 have hl : (List.replicate n (none : Option (List UInt8))).length = n := List.length_replicate
 have he : allocE (List.replicate n none) (k : Nat) = 0 := by
  unfold allocE
  rw [hu, hl, if_neg (by omega), if_neg (by omega)]
 have hil : (ids (List.replicate n none) k).length = k := length_ids (by rw [hu, hl]; omega)
 refine ⟨he, ?_, ?_, by rw [length_allocS, hl]⟩
 ·unfold allocS allocL
  rw [if_pos he, if_pos he, Int.toNat_natCast]
  refine ⟨ids_nodup _ _, fun i hi => ⟨_, fill_at _ _ i hi (ids_lt hi)⟩, ?_⟩
  rw [used_fill (by rw [hu, hl]; omega), hu, hil, Nat.zero_add]
 ·unfold allocL
  rw [if_pos he, Int.toNat_natCast, hil]
end Pg
theorem AllEnd.parts {B : Nat} {ks : List Ky} {N : List Nat} {s0 : Pg.St} {room fan g : Nat} {rs : List RowM} {e : Ending} {w : World} (h : AllEnd B ks N s0 room fan g rs e w) :
  ∃ (A : Option Addr) (n c : Nat) (er : Int), e = .returned (.tuple #[.slice A n c, .int .i64 er]) ∧ ((er = 0 ∧ Told w B A n c (sortR ks rs) ∧ ∃ k, runsN room rs = some k) ∨ ((er = 5 ∨ er = 4) ∧ A = none ∧ n = 0 ∧ ∀ k, runsN room rs = some k → 2 ≤ k)) := by
 rcases h with ⟨A, c, h1, h2, h3⟩ | ⟨h1, _, h2⟩ | ⟨h1, _, h2⟩
 ·exact ⟨A, _, c, 0, h1, .inl ⟨rfl, h2, h3⟩⟩
 ·exact ⟨none, 0, 0, 5, h1, .inr ⟨.inl rfl, rfl, rfl, h2⟩⟩
 ·exact ⟨none, 0, 0, 4, h1, .inr ⟨.inr rfl, rfl, rfl, fun k hk => (h2 k hk).1⟩⟩
theorem hc_below {w w' : World} {B : Nat} {ks : List Ky} {room : Nat} {rs : List RowM} {A : Option Addr} {n c : Nat} {er : Int} (h : (er = 0 ∧ Told w B A n c (sortR ks rs) ∧ ∃ k, runsN room rs = some k) ∨ ((er = 5 ∨ er = 4) ∧ A = none ∧ n = 0 ∧ ∀ k, runsN room rs = some k → 2 ≤ k)) (hb : Below w.heap.size w w') :
  (er = 0 ∧ Told w' B A n c (sortR ks rs) ∧ ∃ k, runsN room rs = some k) ∨ ((er = 5 ∨ er = 4) ∧ A = none ∧ n = 0 ∧ ∀ k, runsN room rs = some k → 2 ≤ k) :=
 h.imp_left fun h => ⟨h.1, h.2.1.below hb, h.2.2⟩
theorem drewB (w : World) (q : Nat) : Below w.heap.size w (w.drewN q) := ⟨rfl, rfl, rfl, Nat.le_refl _, fun _ _ => rfl⟩
end Go.Proofs.YtcadjekcdokkjaaGreat
