/- Strings made of bytes, and bytes made of strings. Walks: the reference's reader of bytes (warpref01.Reader): fail, Num, Text. -/
import Derived.Test.YtojppmnmhdgnnaaGreatMBaCr
import Derived.Laws.IdiomStrings
import Derived.Test.YtojppmnmhdgnnaaGreatMDiMO
import Derived.Test.YtojppmnmhdgnnaaGreatMOwXC
import Derived.Test.YtojppmnmhdgnnaaGreatMOcPT
import Derived.Laws.BitsAllLaws
namespace Go.Proofs.YtojppmnmhdgnnaaGreat
set_option linter.unusedVariables false
set_option linter.unusedSimpArgs false
open Go.RowKit

theorem run_str (w : World) (A : Option Addr) (l : List UInt8) (n c : Nat) (hn : l.length = n) (hr : Rd w A (Bs l)) :
    (convert 22 9 (.slice A n c)).run Tryz.prog w = .ok (.string (St8 l)) w := by
  subst hn
  have hs : Tryz.prog.underlying 22 = some (.slice 5) := by kernel_rfl
  have he : Tryz.prog.underlying 5 = some (.int .u8) := by kernel_rfl
  have hd : Tryz.prog.underlying 9 = some .string := by kernel_rfl
  cases l with
  | nil =>
    cases A with
    | none =>
      rw [run_convert_bytes_string w _ _ _ none _ c hs he hd]
      simp [Conv.bytesToString]
      rfl
    | some a => exact run_convert_bytes_back w _ _ _ a c [] hs he hd (by simp)
  | cons x l =>
    obtain ⟨b, o, rfl, h⟩ := hr (by simp)
    refine run_convert_bytes_back w _ _ _ ⟨b, o, none⟩ c (x :: l) hs he hd fun j hj => ?_
    have := h j (B ((x :: l)[j])) (by rw [List.getElem?_map, List.getElem?_eq_getElem hj]; rfl)
    rw [Addr.add_mid]
    exact this
/-- What a comparison of two strings comes to. -/
theorem St8_take (l : List UInt8) (n : Nat) : (St8 l).extract 0 n = St8 (l.take n) := by
  unfold St8
  ext1
  simp [ByteArray.data_extract]
theorem St8_append (l m : List UInt8) : St8 l ++ St8 m = St8 (l ++ m) := by
  unfold St8
  ext1
  simp

/-- Bytes made of a string: a row of the call's own. -/
theorem run_byt (w : World) (l : List UInt8) :
    ∃ c w', (convert 9 22 (.string (St8 l))).run Tryz.prog w = .ok (.slice (some ⟨w.heap.size, 0, none⟩) l.length c) w' ∧ w'.rangeAt w.heap.size 0 (Bs l) ∧ Below w.heap.size w w' ∧
      (∀ j, j < l.length → w'.frozen? ⟨w.heap.size, j, none⟩ = false) := by
  have hs : Tryz.prog.underlying 22 = some (.slice 5) := by kernel_rfl
  have he : Tryz.prog.underlying 5 = some (.int .u8) := by kernel_rfl
  have hd : Tryz.prog.underlying 9 = some .string := by kernel_rfl
  have h := run_bytes_of_string w 9 22 5 (St8 l) hd hs he
  rw [St8_size] at h
  have hh := heap_alloc_new w.drew (.cells (bytesRow (St8 l) (grownCap w l.length 0 5)) 5 ((bytesRow (St8 l) (grownCap w l.length 0 5)).size, (bytesRow (St8 l) (grownCap w l.length 0 5)).size + 1))
  have hrow : ∀ (j : Nat) (v : Value), (Bs l)[j]? = some v → (bytesRow (St8 l) (grownCap w l.length 0 5))[j]? = some v := by
    intro j v hj
    have hlt := (List.getElem?_eq_some_iff.1 hj).1
    rw [List.length_map] at hlt
    unfold bytesRow St8
    rw [Array.getElem?_append_left (by simpa using hlt)]
    rw [List.getElem?_map, List.getElem?_eq_getElem hlt] at hj
    simpa [hlt] using hj
  have hsz : l.length ≤ (bytesRow (St8 l) (grownCap w l.length 0 5)).size := by
    unfold bytesRow
    rw [Array.size_append, Array.size_map]
    have : (St8 l).data.size = l.length := St8_size l
    omega
  refine ⟨_, _, h, ?_, ?_, ?_⟩
  · intro j v hj
    rw [Nat.zero_add]
    exact (cell_of_row _ w.heap.size j _ _ _ hh).trans (hrow j v hj)
  · exact (Below.refl w.heap.size w).drew.alloc (Nat.le_refl _) _
  · intro j hj
    have hh' : (w.drew.alloc (.cells (bytesRow (St8 l) (grownCap w l.length 0 5)) 5 ((bytesRow (St8 l) (grownCap w l.length 0 5)).size, (bytesRow (St8 l) (grownCap w l.length 0 5)).size + 1))).heap[w.heap.size]? = _ := hh
    unfold World.frozen?
    rw [hh']
    simp
    omega
theorem range_set {w : World} {g : Nat} {l : List UInt8} (h : w.rangeAt g 0 (Bs l)) {j : Nat} (_hj : j < l.length) (c : UInt8) : (w.setCell ⟨g, j, none⟩ (B c)).rangeAt g 0 (Bs (l.set j c)) := by
  intro k v hk
  rw [Nat.zero_add]
  rw [List.getElem?_map, List.getElem?_set] at hk
  have hlt : ∀ m, m < l.length → ∃ u, w.cell? ⟨g, m, none⟩ = some u ∧ some u = (Bs l)[m]? := by
    intro m hm
    have hm' : (Bs l)[m]? = some (B l[m]) := by rw [List.getElem?_map, List.getElem?_eq_getElem hm]; rfl
    have := h m _ hm'
    rw [Nat.zero_add] at this
    exact ⟨_, this, hm'.symm⟩
  by_cases e : j = k
  · subst e
    rw [if_pos rfl, if_pos _hj] at hk
    obtain ⟨u, hu, _⟩ := hlt j _hj
    rw [World.cell?_setCell_same' _ _ _ (by rw [hu]; rfl)]
    exact hk
  · rw [if_neg e] at hk
    rw [World.cell?_setCell_other _ _ _ _ (by intro e'; injection e' with _ e' _; exact e e')]
    have hm : (Bs l)[k]? = some v := by rw [List.getElem?_map]; exact hk
    have := h k v hm
    rwa [Nat.zero_add] at this
end Go.Proofs.YtojppmnmhdgnnaaGreat
namespace Go.Proofs.YtojppmnmhdgnnaaGreat
set_option linter.unusedVariables false
set_option linter.unusedSimpArgs false
open Go.RowKit

attribute [local go_sem ↓] Go.wp_at_zero Go.wp_at_succ

/-- The block of the reference's reader. -/
abbrev RRdT : List TypeId := [51]
/-- The reader at block p has the bytes l ahead of it; whether it is bad. -/
def RRdr (w : World) (p : Nat) (l : List UInt8) (bad : Bool) : Prop :=
  ∃ A n c, Blk w p 51 [.slice A n c, .bool bad] ∧ OwnX w 0 5 A n c (Bs l) ∧ l.length = n ∧ n ≤ c ∧ c ≤ 9223372036854775807 ∧ ((A = none ∧ c = 0) ∨ ∃ b o, A = some ⟨b, o, none⟩)
/-- The reader is bad, and has nothing. -/
abbrev RRdrBad (w : World) (p : Nat) : Prop := Blk w p 51 [.slice none 0 0, .bool true]
theorem RRdrBad.rdr {w : World} {p : Nat} (h : RRdrBad w p) : RRdr w p [] true := ⟨none, 0, 0, h, OwnX.nil _ _ _, rfl, Nat.le_refl _, by omega, .inl ⟨rfl, rfl⟩⟩
theorem RRdr.below {w w' : World} {p : Nat} {l : List UInt8} {bad : Bool} (h : RRdr w p l bad) (hb : Below w.heap.size w w') : RRdr w' p l bad := by
  obtain ⟨A, n, c, h1, h2, h3⟩ := h
  exact ⟨A, n, c, h1.below hb, h2.below hb, h3⟩
theorem rrdr_fail (p : Nat) (l : List UInt8) (bad : Bool) (w : World) (h : RRdr w p l bad) : Calls Tryz.prog 45 #[.pointer (some ⟨p, 0, none⟩)] w fun e w' => e = .returned (.int .u64 0) ∧ RRdrBad w' p ∧ Keeps RRdT p w w' := by
  obtain ⟨A, n, c, h1, _⟩ := h
  have k0 := h1.cell 0
  have k1 := h1.cell 1
  have f0 := h1.frozen 0
  have f1 := h1.frozen 1
  simp only [List.getElem?_cons_zero, List.getElem?_cons_succ] at k0 k1
  have h2 := h1.set_ 1 (.bool true)
  have h3 := h2.set_ 0 (.slice none 0 0)
  simp only [List.set_cons_zero, List.set_cons_succ] at h2 h3
  have hk2 : Keeps RRdT p w (w.setCell ⟨p, 1, none⟩ (.bool true)) := (Keeps.refl _ _ _).setCell h1 (by simp) (Nat.le_refl _) _
  have hk3 : Keeps RRdT p w ((w.setCell ⟨p, 1, none⟩ (.bool true)).setCell ⟨p, 0, none⟩ (.slice none 0 0)) := hk2.setCell h2 (by simp) (Nat.le_refl _) _
  have H3 := Lib.hid h3
  have Hk3 := Lib.hid hk3
  clear h1 h2 h3 hk2 hk3
  go_enter Tryz.func45, Tryz.ntmps45
  go_wp2_with fail
  go_ret
  exact ⟨rfl, H3.out, Hk3.out⟩

/-- The reader goes on by k bytes. -/
theorem RRdr.skip {w : World} {p b o n c : Nat} {l : List UInt8} {bad : Bool} (h1 : Blk w p 51 [.slice (some ⟨b, o, none⟩) n c, .bool bad]) (h2 : OwnX w 0 5 (some ⟨b, o, none⟩) n c (Bs l)) (hl : l.length = n) (hnc : n ≤ c) (hc : c ≤ 9223372036854775807) {k : Nat} (hk : k ≤ n) (q : Option Addr) (hq : if k = c then q = some ⟨b, o, none⟩ else q = some ⟨b, o + k, none⟩) :
    RRdr (w.setCell ⟨p, 0, none⟩ (.slice q (n - k) (c - k))) p (l.drop k) bad ∧ Keeps RRdT p w (w.setCell ⟨p, 0, none⟩ (.slice q (n - k) (c - k))) := by
  have h3 := h1.set_ 0 (.slice q (n - k) (c - k))
  simp only [List.set_cons_zero] at h3
  have hk2 : Keeps RRdT p w (w.setCell ⟨p, 0, none⟩ (.slice q (n - k) (c - k))) := (Keeps.refl _ _ _).setCell h1 (by simp) (Nat.le_refl _) _
  refine ⟨⟨q, n - k, c - k, h3, ?_, by rw [List.length_drop, hl], by omega, by omega, .inr (by split at hq <;> exact ⟨_, _, hq⟩)⟩, hk2⟩
  split at hq
  · rename_i hkc
    have hn : n = k := by omega
    subst hq
    have : l.drop k = [] := List.drop_eq_nil_of_le (by omega)
    have h4 := h2.dropAll.keeps (T := RRdT) (B := p) (by decide) hk2
    have e1 : n - k = 0 := by omega
    have e2 : c - k = 0 := by omega
    rw [e1, e2] at h4
    rw [this, e1, e2]
    exact h4
  · subst hq
    have := (h2.drop hk).keeps (by decide) hk2
    rw [← List.map_drop] at this
    exact this


/-- How Num ends. -/
def RNumOK (p : Nat) (l : List UInt8) (bad : Bool) (w : World) (e : Ending) (w' : World) : Prop :=
  ((takeNum l = none ∧ e = .returned (.int .u64 0) ∧ RRdrBad w' p) ∨ ∃ m u, takeNum l = some (m, u) ∧ e = .returned (.int .u64 (m : Nat)) ∧ RRdr w' p u bad) ∧ Keeps RRdT p w w'

theorem rnum_nil (p : Nat) (bad : Bool) (w : World) (h : RRdr w p [] bad) : Calls Tryz.prog 21 #[.pointer (some ⟨p, 0, none⟩)] w fun e w' => RNumOK p [] bad w e w' := by
  have hf := Lib.hid (rrdr_fail p [] bad w h)
  obtain ⟨A, n, c, h1, _, hl, _⟩ := h
  obtain rfl : 0 = n := hl
  have k0 := h1.cell 0
  simp only [List.getElem?_cons_zero, List.getElem?_cons_succ] at k0
  clear h1
  go_enter Tryz.func21, Tryz.ntmps21
  go_wp2_with fail
  refine hf.out.mono ?_
  rintro e w1 ⟨rfl, hr1, hk1⟩
  go_wp2_with fail
  go_ret
  exact ⟨.inl ⟨rfl, rfl, hr1⟩, hk1⟩

set_option maxHeartbeats 4000000 in
set_option maxRecDepth 100000 in
theorem rnum_small (p : Nat) (f : UInt8) (t : List UInt8) (bad : Bool) (w : World) (h : RRdr w p (f :: t) bad) (h248 : f.toNat < 248) : Calls Tryz.prog 21 #[.pointer (some ⟨p, 0, none⟩)] w fun e w' => RNumOK p (f :: t) bad w e w' := by
  have htn : Hid (takeNum (f :: t) = some (f.toNat, t)) := by show _ = _; rw [takeNum, if_pos h248]
  have hnb : numB f.toNat = [f] := by unfold numB; rw [if_pos h248, byteN_of]
  obtain ⟨A, n, c, h1, h2, hl, hnc, hc, _⟩ := h
  obtain ⟨b, o, rfl, hblt, hrr, c0⟩ := h2.rd.get (k := 0) (by simp)
  simp only [List.map_cons, List.getElem_cons_zero, Nat.add_zero, B] at c0
  have hn : 0 < n := by rw [← hl]; simp
  have k0 := h1.cell 0
  simp only [List.getElem?_cons_zero, List.getElem?_cons_succ] at k0
  have hnum := Lib.hid (rnum_any [] 0 0 f.toNat none w.drew rfl (Rd.nil _ _) (by omega) (by omega))
  rw [hnb] at hnum
  have hpart := Lib.hid (show Rd w (some ⟨b, o, none⟩) (Bs [f]) from fun _ => ⟨b, o, rfl, by
    have := Rd.part hrr 0 1
    rw [List.drop_zero, Nat.add_zero, ← List.map_take] at this
    exact this⟩)
  have hcv := run_str w.drew (some ⟨b, o, none⟩) [f] 1 c rfl hpart.out
  have hst := Lib.hid (fun (w' : World) (hb : Below w.heap.size w w') (q : Option Addr) (hq : if 1 = c then q = some ⟨b, o, none⟩ else q = some ⟨b, o + 1, none⟩) => RRdr.skip (h1.below hb) (h2.below hb) hl hnc hc (k := 1) (by omega) q hq)
  have hcl := Lib.hid (fun (w' : World) (hb : Below w.heap.size w w') => And.intro ((h1.below hb).cell 0) ((h1.below hb).frozen 0))
  simp only [List.drop_one, List.tail_cons, List.getElem?_cons_zero] at hst hcl
  generalize f.toNat = F at *
  have hseq : (St8 [f] == St8 [f]) = true := by rw [St8_eq]; exact decide_eq_true rfl
  have hF0 : ¬ (248 : Int) ≤ (F : Int) := by omega
  clear h1 h2 hl hnb hrr hblt
  go_enter Tryz.func21, Tryz.ntmps21
  go_wp2_with fail
  go_loop [4, 5] (fun v i => v = .int .u64 (F : Nat) ∧ i = .int .i64 1) (fun _ i => 0)
  case atStart => exact ⟨rfl, rfl⟩
  case round =>
    obtain ⟨rfl, rfl⟩ := hrel
    have hw1 : IntKind.i64.wrap 1 = 1 := by decide +kernel
    have h1c : (1 : Int) ≤ (c : Int) := by omega
    go_wp2_with fail
    refine wp_region_held_drew (S := fun w' => w'.cell? ⟨p, 0, none⟩ = some (.slice (some ⟨b, o, none⟩) n c) ∧ (convert 22 9 (.slice (some ⟨b, o, none⟩) 1 c)).run Tryz.prog w' = .ok (.string (St8 [f])) w') (by kernel_rfl) ⟨k0, hcv⟩ (fun hHeld => ?_)
    (refine wpAnyH_take (i := 0) (oi := ?oi0_1) (v := ?vv0_1) ?hi0_1 (by kernel_rfl) (by kernel_rfl) (by kernel_rfl) ?hQ0_1 ?hy0_1 (by assumption) ?rest0_1; (case hi0_1 => ((simp only [List.getElem?_toArray, List.getElem?_cons_zero]); rfl)); (case hQ0_1 => exact (fun _ _ _ h => h)); (case hy0_1 => (refine Or.inl ⟨by rfl, ?_⟩; intro w hSw; (try dsimp only at hSw); go_simp; try (with_reducible rfl))); (try simp only [Act.put, List.setIfInBounds_toArray, List.set_cons_zero, List.set_cons_succ]))
    (refine wpAnyH_take (i := 3) (oi := ?oi3_2) (v := ?vv3_2) ?hi3_2 (by kernel_rfl) (by kernel_rfl) (by kernel_rfl) ?hQ3_2 ?hy3_2 (by assumption) ?rest3_2; (case hi3_2 => ((simp only [List.getElem?_toArray, List.getElem?_cons_succ, List.getElem?_cons_zero]); rfl)); (case hQ3_2 => exact (fun _ _ _ h => h)); (case hy3_2 => (refine Or.inl ⟨by rfl, ?_⟩; intro w hSw; (try dsimp only at hSw); go_simp; try (with_reducible rfl))); (try simp only [Act.put, List.setIfInBounds_toArray, List.set_cons_zero, List.set_cons_succ]))
    (refine wpAnyH_take (i := 4) (oi := ?oi4_3) (v := ?vv4_3) ?hi4_3 (by kernel_rfl) (by kernel_rfl) (by kernel_rfl) ?hQ4_3 ?hy4_3 (by assumption) ?rest4_3; (case hi4_3 => ((simp only [List.getElem?_toArray, List.getElem?_cons_succ, List.getElem?_cons_zero]); rfl)); (case hQ4_3 => exact (fun _ _ _ h => h)); (case hy4_3 => (refine Or.inl ⟨by rfl, ?_⟩; intro w hSw; (try dsimp only at hSw); go_simp; try (with_reducible rfl))); (try simp only [Act.put, List.setIfInBounds_toArray, List.set_cons_zero, List.set_cons_succ]))
    (refine wpAnyH_take (i := 5) (oi := ?oi5_4) (v := ?vv5_4) ?hi5_4 (by kernel_rfl) (by kernel_rfl) (by kernel_rfl) ?hQ5_4 ?hy5_4 (by assumption) ?rest5_4; (case hi5_4 => ((simp only [List.getElem?_toArray, List.getElem?_cons_succ, List.getElem?_cons_zero]); rfl)); (case hQ5_4 => exact (fun _ _ _ h => h)); (case hy5_4 => (refine Or.inl ⟨by rfl, ?_⟩; intro w hSw; (try dsimp only at hSw); go_simp; try (with_reducible rfl))); (try simp only [Act.put, List.setIfInBounds_toArray, List.set_cons_zero, List.set_cons_succ]))
    (refine wpAnyH_take (i := 6) (oi := ?oi6_5) (v := ?vv6_5) ?hi6_5 (by kernel_rfl) (by kernel_rfl) (by kernel_rfl) ?hQ6_5 ?hy6_5 (by assumption) ?rest6_5; (case hi6_5 => ((simp only [List.getElem?_toArray, List.getElem?_cons_succ, List.getElem?_cons_zero]); rfl)); (case hQ6_5 => exact (fun _ _ _ h => h)); (case hy6_5 => (refine Or.inl ⟨by rfl, ?_⟩; intro w hSw; (try dsimp only at hSw); go_simp; try (with_reducible rfl))); (try simp only [Act.put, List.setIfInBounds_toArray, List.set_cons_zero, List.set_cons_succ]))
    (refine wpAnyH_take (i := 7) (oi := ?oi7_6) (v := ?vv7_6) ?hi7_6 (by kernel_rfl) (by kernel_rfl) (by kernel_rfl) ?hQ7_6 ?hy7_6 (by assumption) ?rest7_6; (case hi7_6 => ((simp only [List.getElem?_toArray, List.getElem?_cons_succ, List.getElem?_cons_zero]); rfl)); (case hQ7_6 => exact (fun _ _ _ h => h)); (case hy7_6 => (refine Or.inl ⟨by rfl, ?_⟩; intro w hSw; (try dsimp only at hSw); go_simp; try (with_reducible rfl))); (try simp only [Act.put, List.setIfInBounds_toArray, List.set_cons_zero, List.set_cons_succ]))
    (refine wpAnyH_take (i := 8) (oi := ?oi8_7) (v := ?vv8_7) ?hi8_7 (by kernel_rfl) (by kernel_rfl) (by kernel_rfl) ?hQ8_7 ?hy8_7 (by assumption) ?rest8_7; (case hi8_7 => ((simp only [List.getElem?_toArray, List.getElem?_cons_succ, List.getElem?_cons_zero]); rfl)); (case hQ8_7 => exact (fun _ _ _ h => h)); (case hy8_7 => (refine Or.inl ⟨by rfl, ?_⟩; intro w hSw; (try dsimp only at hSw); go_simp; try (with_reducible rfl))); (try simp only [Act.put, List.setIfInBounds_toArray, List.set_cons_zero, List.set_cons_succ]))
    (refine wpAnyH_take (i := 9) (oi := ?oi9_8) (v := ?vv9_8) ?hi9_8 (by kernel_rfl) (by kernel_rfl) (by kernel_rfl) ?hQ9_8 ?hy9_8 (by assumption) ?rest9_8; (case hi9_8 => ((simp only [List.getElem?_toArray, List.getElem?_cons_succ, List.getElem?_cons_zero]); rfl)); (case hQ9_8 => exact (fun _ _ _ h => h)); (case hy9_8 => (refine Or.inl ⟨by rfl, ?_⟩; intro w hSw; (try dsimp only at hSw); go_simp; try (with_reducible rfl))); (try simp only [Act.put, List.setIfInBounds_toArray, List.set_cons_zero, List.set_cons_succ]))
    (refine wpAnyH_take (i := 10) (oi := ?oi10_9) (v := ?vv10_9) ?hi10_9 (by kernel_rfl) (by kernel_rfl) (by kernel_rfl) ?hQ10_9 ?hy10_9 (by assumption) ?rest10_9; (case hi10_9 => ((simp only [List.getElem?_toArray, List.getElem?_cons_succ, List.getElem?_cons_zero]); rfl)); (case hQ10_9 => exact (fun _ _ _ h => h)); (case hy10_9 => (refine Or.inl ⟨by rfl, ?_⟩; intro w hSw; (try dsimp only at hSw); go_simp; try (with_reducible rfl))); (try simp only [Act.put, List.setIfInBounds_toArray, List.set_cons_zero, List.set_cons_succ]))
    (refine wpAnyH_ready (rs := [1]) (by kernel_rfl) (by simp) ?_; refine AllReadyH.cons (o := ?oc1_10) ?ho1_10 (fun K hK => ?_) AllReadyH.nil; (case ho1_10 => ((simp only [List.getElem?_toArray, List.getElem?_cons_succ, List.getElem?_cons_zero]); rfl)); go_simp)
    refine hnum.out.mono ?_
    rintro e w3 ⟨A3, c3, rfl, ho3, hb3⟩
    have hb03 : Below w.heap.size w w3 := (Below.refl w.heap.size w).drew.trans hb3
    have hcv3 := run_str w3 (some ⟨b, o, none⟩) [f] 1 c rfl (hpart.out.below hb03)
    have hcn := run_str w3 A3 [f] 1 c3 rfl ho3.rd
    have hk3 := (hcl.out w3 hb03).1
    go_wp2_with fail
    refine hK.out _ _ ⟨hk3, hcv3⟩ (fun hHeld2 => ?_)
    clear hK
    (try simp only [Act.put, List.setIfInBounds_toArray, List.set_cons_zero, List.set_cons_succ])
    (refine wpAnyH_ready (rs := [2]) (by kernel_rfl) (by simp) ?_; refine AllReadyH.cons (o := ?oc2_11) ?ho2_11 (fun K hK => ?_) AllReadyH.nil; (case ho2_11 => ((simp only [List.getElem?_toArray, List.getElem?_cons_succ, List.getElem?_cons_zero]); rfl)); go_simp)
    refine hK.out _ _ ⟨hk3, hcv3⟩ (fun hHeld3 => ?_)
    clear hK
    (try simp only [Act.put, List.setIfInBounds_toArray, List.set_cons_zero, List.set_cons_succ])
    (refine wpAnyH_take (i := 11) (oi := ?oi11_12) (v := ?vv11_12) ?hi11_12 (by kernel_rfl) (by kernel_rfl) (by kernel_rfl) ?hQ11_12 ?hy11_12 (by assumption) ?rest11_12; (case hi11_12 => ((simp only [List.getElem?_toArray, List.getElem?_cons_succ, List.getElem?_cons_zero]); rfl)); (case hQ11_12 => exact (fun _ _ _ h => h)); (case hy11_12 => (refine Or.inl ⟨by rfl, ?_⟩; intro w hSw; (try dsimp only at hSw); go_simp; try (with_reducible rfl))); (try simp only [Act.put, List.setIfInBounds_toArray, List.set_cons_zero, List.set_cons_succ]))
    refine wpAnyH_done (by kernel_rfl) ?_ _
    clear hHeld hHeld2 hHeld3 hcv hcv3 hcn
    obtain ⟨d0, f0⟩ := hcl.out w3 hb03
    have hkp : Keeps RRdT p w w3 := Keeps.of_below hb03
    by_cases hc1 : c = 1
    · subst hc1
      obtain rfl : n = 1 := by omega
      have Hs := Lib.hid (hst.out w3 hb03 (some ⟨b, o, none⟩) (by rw [if_pos rfl]))
      clear hst hcl hnum hpart ho3
      go_wp2_with fail
      go_ret
      exact ⟨.inr ⟨F, t, htn.out, rfl, Hs.out.1⟩, hkp.trans Hs.out.2⟩
    · have Hs := Lib.hid (hst.out w3 hb03 (some ⟨b, o + 1, none⟩) (by rw [if_neg (fun e => hc1 e.symm)]))
      clear hst hcl hnum hpart ho3
      go_wp2_with fail
      go_ret
      exact ⟨.inr ⟨F, t, htn.out, rfl, Hs.out.1⟩, hkp.trans Hs.out.2⟩

set_option maxHeartbeats 4000000 in
set_option maxRecDepth 100000 in
theorem rnum_great (p : Nat) (f : UInt8) (t : List UInt8) (bad : Bool) (w : World) (h : RRdr w p (f :: t) bad) (h248 : ¬ f.toNat < 248) : Calls Tryz.prog 21 #[.pointer (some ⟨p, 0, none⟩)] w fun e w' => RNumOK p (f :: t) bad w e w' := by
  have hf8 := f.toNat_lt
  obtain ⟨k, hk, hk1, hk8⟩ : ∃ k : Nat, f.toNat = k + 247 ∧ 1 ≤ k ∧ k ≤ 8 := ⟨f.toNat - 247, by omega, by omega, by omega⟩
  have htn : Hid (takeNum (f :: t) = if t.length < k then none else if valB (t.take k) < 248 ∨ Lib.bitLen (valB (t.take k)) ≤ 8 * (k - 1) then none else some (valB (t.take k), t.drop k)) := by
    show _ = _
    rw [takeNum, if_neg h248, show f.toNat - 247 = k from by omega, show f.toNat - 248 = k - 1 from by omega]
  have hcan := Lib.hid (fun hl => numB_canon (f := f) (t := t) (k := k) h248 hk hl)
  have hf := Lib.hid (fun w' (h' : RRdr w' p (f :: t) bad) => rrdr_fail p (f :: t) bad w' h')
  have Hr := Lib.hid h
  obtain ⟨A, n, c, h1, h2, hl, hnc, hc, _⟩ := h
  obtain ⟨b, o, rfl, _, hrr, c0⟩ := h2.rd.get (k := 0) (by simp)
  simp only [List.map_cons, List.getElem_cons_zero, Nat.add_zero, B] at c0
  rw [hk] at c0
  have hn : t.length + 1 = n := by rw [← hl]; simp
  have Hn := Lib.hid hn
  have k0 := h1.cell 0
  simp only [List.getElem?_cons_zero, List.getElem?_cons_succ] at k0
  have hst := Lib.hid (fun (w' : World) (hb : Below w.heap.size w w') (q : Option Addr) (hk' : k + 1 ≤ n) (hq : if k + 1 = c then q = some ⟨b, o, none⟩ else q = some ⟨b, o + (k + 1), none⟩) => RRdr.skip (h1.below hb) (h2.below hb) hl hnc hc (k := k + 1) hk' q hq)
  have hcl := Lib.hid (fun (w' : World) (hb : Below w.heap.size w w') => And.intro ((h1.below hb).cell 0) ((h1.below hb).frozen 0))
  simp only [List.drop_succ_cons, List.getElem?_cons_zero] at hst hcl
  have hcell : Hid (∀ j (hj : j < t.length), w.cell? ⟨b, o + (j + 1), none⟩ = some (.int .u8 (t[j].toNat : Int))) := fun j hj => hrr (j + 1) (B t[j]) (by
      show ((f :: t).map B)[j + 1]? = _
      rw [List.getElem?_map, List.getElem?_cons_succ, List.getElem?_eq_getElem hj]
      rfl)
  have hpart := Lib.hid (show Rd w (some ⟨b, o, none⟩) (Bs (f :: t.take k)) from fun _ => ⟨b, o, rfl, by
    have := Rd.part hrr 0 (k + 1)
    rw [List.drop_zero, Nat.add_zero, ← List.map_take] at this
    exact this⟩)
  have z1 : (k : Int) + 247 - 247 = (k : Int) := by omega
  have z2 : (248 : Int) ≤ (k : Int) + 247 := by omega
  have z4 : IntKind.i64.wrap (1 + (k : Int)) = 1 + (k : Int) := by rw [IntKind.wrap_i64]; omega
  have z5 : (0 : Int) < (k : Int) := by omega
  have c0 : w.cell? ⟨b, o, none⟩ = some (.int .u8 ((k : Int) + 247)) := by rw [c0]; congr 2
  clear h1 h2 hl hrr h248 hf8 hk hn
  have hnp : 0 < n := by have := Hn.out; omega
  have z3 : ((n : Int) == 0) = false := by rw [beq_eq_false_iff_ne]; omega
  by_cases hlen : n ≤ k
  · have hno : Hid (takeNum (f :: t) = none) := by show _ = _; rw [htn.out, if_pos (by have := Hn.out; omega)]
    have hlenI : (n : Int) < 1 + (k : Int) := by omega
    have hfw := Lib.hid (hf.out w Hr.out)
    clear hf hst hcl hcell hcan hpart
    go_enter Tryz.func21, Tryz.ntmps21
    go_wp2_with fail
    refine hfw.out.mono ?_
    rintro e w1 ⟨rfl, hr1, hk1⟩
    go_wp2_with fail
    go_ret
    exact ⟨.inl ⟨hno.out, rfl, hr1⟩, hk1⟩
  · have hv8 := valB_small8 (t := t) hk8
    have htn2 : Hid (takeNum (f :: t) = if valB (t.take k) < 248 ∨ Lib.bitLen (valB (t.take k)) ≤ 8 * (k - 1) then none else some (valB (t.take k), t.drop k)) := by show _ = _; rw [htn.out, if_neg (by have := Hn.out; omega)]
    have hcan2 := Lib.hid (hcan.out (by have := Hn.out; omega))
    have hc2 : 1 < c := by omega
    have hlenI : ¬ (n : Int) < 1 + (k : Int) := by omega
    have hkn : k + 1 ≤ n := by omega
    have hpl : (f :: t.take k).length = k + 1 := by rw [List.length_cons, List.length_take]; have := Hn.out; omega
    clear htn hcan
    go_enter Tryz.func21, Tryz.ntmps21
    go_wp2_with fail
    go_loop [4, 5] (fun v i => ∃ j : Nat, j ≤ k ∧ i = .int .i64 ((j + 1 : Nat) : Int) ∧ v = .int .u64 (valB (t.take j) : Nat)) (fun _ i => k + 1 - (intOf i).toNat)
    case atStart => exact ⟨0, by omega, rfl, rfl⟩
    case round =>
      obtain ⟨j, hj, rfl, rfl⟩ := hrel
      by_cases hlt : j < k
      · have hjt : j < t.length := by have := Hn.out; omega
        have cj := hcell.out j hjt
        have hv := valB_take hjt
        have hs := valB_small (t := t) (j := j) (by omega)
        have h8 := t[j].toNat_lt
        generalize t[j].toNat = C at *
        generalize hV : valB (t.take j) = V at *
        have Hv := Lib.hid hv
        have o1 : IntKind.u64.wrap ((V : Int) * 256) = (V : Int) * 256 := by rw [IntKind.wrap_u64]; omega
        have o2 : IntKind.u64.wrap ((V : Int) * 256 + (C : Int)) = (V : Int) * 256 + (C : Int) := by rw [IntKind.wrap_u64]; omega
        have o3 : ((j + 1 : Nat) : Int) ≤ (k : Int) := by omega
        have o4 : ((j + 1 : Nat) : Int) < (n : Int) := by omega
        have o5 : (0 : Int) ≤ ((j + 1 : Nat) : Int) := by omega
        clear hv hV
        go_wp2_with fail
        go_round
        case rel => exact ⟨j + 1, by omega, by go_num, by rw [Hv.out]; go_num⟩
        case measure => simp [intOf]; omega
      · obtain rfl : j = k := by omega
        generalize hV : valB (t.take j) = V at *
        have HV := Lib.hid hV
        clear hV
        have o3 : ¬ ((j + 1 : Nat) : Int) ≤ (j : Int) := by omega
        have o6 : ((j + 1 : Nat) : Int) ≤ (c : Int) := by omega
        have o7 : (0 : Int) ≤ ((j + 1 : Nat) : Int) := by omega
        have hnum := Lib.hid (rnum_any [] 0 0 V none w.drew rfl (Rd.nil _ _) (by omega) (by omega))
        simp only [Nat.zero_add, List.nil_append] at hnum
        have hcv : (convert 22 9 (.slice (some ⟨b, o, none⟩) (1 + j) c)).run Tryz.prog w.drew = .ok (.string (St8 (f :: t.take j))) w.drew := run_str w.drew (some ⟨b, o, none⟩) (f :: t.take j) (1 + j) c (by rw [hpl]; omega) hpart.out
        have z6 : (1 : Int) + (j : Int) ≤ (c : Int) := by omega
        have z7 : (0 : Int) ≤ 1 + (j : Int) := by omega
        have z8 : ((1 : Int) + (j : Int)).toNat = 1 + j := by omega
        by_cases hbad : V < 248 ∨ Lib.bitLen V ≤ 8 * (j - 1)
        · have hno : Hid (takeNum (f :: t) = none) := by show _ = _; rw [htn2.out, if_pos hbad]
          have hsq : ((St8 (numB V)).toList == (St8 (f :: t.take j)).toList) = false := by
            rw [St8_cmp]
            refine decide_eq_false fun e => ?_
            exact (hcan2.out.1 e) hbad
          clear htn2 hcan2 hbad
          go_wp2_with fail
          refine wp_region_held_drew (S := fun w' => w'.cell? ⟨p, 0, none⟩ = some (.slice (some ⟨b, o, none⟩) n c) ∧ (convert 22 9 (.slice (some ⟨b, o, none⟩) (1 + j) c)).run Tryz.prog w' = .ok (.string (St8 (f :: t.take j))) w') (by kernel_rfl) ⟨k0, hcv⟩ (fun hHeld => ?_)
          (refine wpAnyH_take (i := 0) (oi := ?oi0_13) (v := ?vv0_13) ?hi0_13 (by kernel_rfl) (by kernel_rfl) (by kernel_rfl) ?hQ0_13 ?hy0_13 (by assumption) ?rest0_13; (case hi0_13 => ((simp only [List.getElem?_toArray, List.getElem?_cons_zero]); rfl)); (case hQ0_13 => exact (fun _ _ _ h => h)); (case hy0_13 => (refine Or.inl ⟨by rfl, ?_⟩; intro w hSw; (try dsimp only at hSw); go_simp; try (with_reducible rfl))); (try simp only [Act.put, List.setIfInBounds_toArray, List.set_cons_zero, List.set_cons_succ]))
          (refine wpAnyH_take (i := 3) (oi := ?oi3_14) (v := ?vv3_14) ?hi3_14 (by kernel_rfl) (by kernel_rfl) (by kernel_rfl) ?hQ3_14 ?hy3_14 (by assumption) ?rest3_14; (case hi3_14 => ((simp only [List.getElem?_toArray, List.getElem?_cons_succ, List.getElem?_cons_zero]); rfl)); (case hQ3_14 => exact (fun _ _ _ h => h)); (case hy3_14 => (refine Or.inl ⟨by rfl, ?_⟩; intro w hSw; (try dsimp only at hSw); go_simp; try (with_reducible rfl))); (try simp only [Act.put, List.setIfInBounds_toArray, List.set_cons_zero, List.set_cons_succ]))
          (refine wpAnyH_take (i := 4) (oi := ?oi4_15) (v := ?vv4_15) ?hi4_15 (by kernel_rfl) (by kernel_rfl) (by kernel_rfl) ?hQ4_15 ?hy4_15 (by assumption) ?rest4_15; (case hi4_15 => ((simp only [List.getElem?_toArray, List.getElem?_cons_succ, List.getElem?_cons_zero]); rfl)); (case hQ4_15 => exact (fun _ _ _ h => h)); (case hy4_15 => (refine Or.inl ⟨by rfl, ?_⟩; intro w hSw; (try dsimp only at hSw); go_simp; try (with_reducible rfl))); (try simp only [Act.put, List.setIfInBounds_toArray, List.set_cons_zero, List.set_cons_succ]))
          (refine wpAnyH_take (i := 5) (oi := ?oi5_16) (v := ?vv5_16) ?hi5_16 (by kernel_rfl) (by kernel_rfl) (by kernel_rfl) ?hQ5_16 ?hy5_16 (by assumption) ?rest5_16; (case hi5_16 => ((simp only [List.getElem?_toArray, List.getElem?_cons_succ, List.getElem?_cons_zero]); rfl)); (case hQ5_16 => exact (fun _ _ _ h => h)); (case hy5_16 => (refine Or.inl ⟨by rfl, ?_⟩; intro w hSw; (try dsimp only at hSw); go_simp; try (with_reducible rfl))); (try simp only [Act.put, List.setIfInBounds_toArray, List.set_cons_zero, List.set_cons_succ]))
          (refine wpAnyH_take (i := 6) (oi := ?oi6_17) (v := ?vv6_17) ?hi6_17 (by kernel_rfl) (by kernel_rfl) (by kernel_rfl) ?hQ6_17 ?hy6_17 (by assumption) ?rest6_17; (case hi6_17 => ((simp only [List.getElem?_toArray, List.getElem?_cons_succ, List.getElem?_cons_zero]); rfl)); (case hQ6_17 => exact (fun _ _ _ h => h)); (case hy6_17 => (refine Or.inl ⟨by rfl, ?_⟩; intro w hSw; (try dsimp only at hSw); go_simp; try (with_reducible rfl))); (try simp only [Act.put, List.setIfInBounds_toArray, List.set_cons_zero, List.set_cons_succ]))
          (refine wpAnyH_take (i := 7) (oi := ?oi7_18) (v := ?vv7_18) ?hi7_18 (by kernel_rfl) (by kernel_rfl) (by kernel_rfl) ?hQ7_18 ?hy7_18 (by assumption) ?rest7_18; (case hi7_18 => ((simp only [List.getElem?_toArray, List.getElem?_cons_succ, List.getElem?_cons_zero]); rfl)); (case hQ7_18 => exact (fun _ _ _ h => h)); (case hy7_18 => (refine Or.inl ⟨by rfl, ?_⟩; intro w hSw; (try dsimp only at hSw); go_simp; try (with_reducible rfl))); (try simp only [Act.put, List.setIfInBounds_toArray, List.set_cons_zero, List.set_cons_succ]))
          (refine wpAnyH_take (i := 8) (oi := ?oi8_19) (v := ?vv8_19) ?hi8_19 (by kernel_rfl) (by kernel_rfl) (by kernel_rfl) ?hQ8_19 ?hy8_19 (by assumption) ?rest8_19; (case hi8_19 => ((simp only [List.getElem?_toArray, List.getElem?_cons_succ, List.getElem?_cons_zero]); rfl)); (case hQ8_19 => exact (fun _ _ _ h => h)); (case hy8_19 => (refine Or.inl ⟨by rfl, ?_⟩; intro w hSw; (try dsimp only at hSw); go_simp; try (with_reducible rfl))); (try simp only [Act.put, List.setIfInBounds_toArray, List.set_cons_zero, List.set_cons_succ]))
          (refine wpAnyH_take (i := 9) (oi := ?oi9_20) (v := ?vv9_20) ?hi9_20 (by kernel_rfl) (by kernel_rfl) (by kernel_rfl) ?hQ9_20 ?hy9_20 (by assumption) ?rest9_20; (case hi9_20 => ((simp only [List.getElem?_toArray, List.getElem?_cons_succ, List.getElem?_cons_zero]); rfl)); (case hQ9_20 => exact (fun _ _ _ h => h)); (case hy9_20 => (refine Or.inl ⟨by rfl, ?_⟩; intro w hSw; (try dsimp only at hSw); go_simp; try (with_reducible rfl))); (try simp only [Act.put, List.setIfInBounds_toArray, List.set_cons_zero, List.set_cons_succ]))
          (refine wpAnyH_take (i := 10) (oi := ?oi10_21) (v := ?vv10_21) ?hi10_21 (by kernel_rfl) (by kernel_rfl) (by kernel_rfl) ?hQ10_21 ?hy10_21 (by assumption) ?rest10_21; (case hi10_21 => ((simp only [List.getElem?_toArray, List.getElem?_cons_succ, List.getElem?_cons_zero]); rfl)); (case hQ10_21 => exact (fun _ _ _ h => h)); (case hy10_21 => (refine Or.inl ⟨by rfl, ?_⟩; intro w hSw; (try dsimp only at hSw); go_simp; try (with_reducible rfl))); (try simp only [Act.put, List.setIfInBounds_toArray, List.set_cons_zero, List.set_cons_succ]))
          (refine wpAnyH_ready (rs := [1]) (by kernel_rfl) (by simp) ?_; refine AllReadyH.cons (o := ?oc1_22) ?ho1_22 (fun K hK => ?_) AllReadyH.nil; (case ho1_22 => ((simp only [List.getElem?_toArray, List.getElem?_cons_succ, List.getElem?_cons_zero]); rfl)); go_simp)
          refine hnum.out.mono ?_
          rintro e w3 ⟨A3, c3, rfl, ho3, hb3⟩
          have hb03 : Below w.heap.size w w3 := (Below.refl w.heap.size w).drew.trans hb3
          have hcv3 := run_str w3 (some ⟨b, o, none⟩) (f :: t.take j) (1 + j) c (by rw [hpl]; omega) (hpart.out.below hb03)
          have hcn := run_str w3 A3 (numB V) (numB V).length c3 rfl ho3.rd
          have hk3 := (hcl.out w3 hb03).1
          go_wp2_with fail
          refine hK.out _ _ ⟨hk3, hcv3⟩ (fun hHeld2 => ?_)
          clear hK
          (try simp only [Act.put, List.setIfInBounds_toArray, List.set_cons_zero, List.set_cons_succ])
          (refine wpAnyH_ready (rs := [2]) (by kernel_rfl) (by simp) ?_; refine AllReadyH.cons (o := ?oc2_23) ?ho2_23 (fun K hK => ?_) AllReadyH.nil; (case ho2_23 => ((simp only [List.getElem?_toArray, List.getElem?_cons_succ, List.getElem?_cons_zero]); rfl)); go_simp)
          refine hK.out _ _ ⟨hk3, hcv3⟩ (fun hHeld3 => ?_)
          clear hK
          (try simp only [Act.put, List.setIfInBounds_toArray, List.set_cons_zero, List.set_cons_succ])
          (refine wpAnyH_take (i := 11) (oi := ?oi11_24) (v := ?vv11_24) ?hi11_24 (by kernel_rfl) (by kernel_rfl) (by kernel_rfl) ?hQ11_24 ?hy11_24 (by assumption) ?rest11_24; (case hi11_24 => ((simp only [List.getElem?_toArray, List.getElem?_cons_succ, List.getElem?_cons_zero]); rfl)); (case hQ11_24 => exact (fun _ _ _ h => h)); (case hy11_24 => (refine Or.inl ⟨by rfl, ?_⟩; intro w hSw; (try dsimp only at hSw); go_simp; try (with_reducible rfl))); (try simp only [Act.put, List.setIfInBounds_toArray, List.set_cons_zero, List.set_cons_succ]))
          refine wpAnyH_done (by kernel_rfl) ?_ _
          clear hHeld hHeld2 hHeld3 hcv hcv3 hcn
          go_wp2_with fail
          refine (hf.out w3 (Hr.out.below hb03)).mono ?_
          rintro e w4 ⟨rfl, hr4, hk4⟩
          go_wp2_with fail
          go_ret
          exact ⟨.inl ⟨hno.out, rfl, hr4⟩, (Keeps.of_below hb03).trans hk4⟩
        · have hyes : Hid (takeNum (f :: t) = some (V, t.drop j)) := by show _ = _; rw [htn2.out, if_neg hbad]
          have hsq : ((St8 (numB V)).toList == (St8 (f :: t.take j)).toList) = true := by
            rw [St8_cmp]
            refine decide_eq_true ?_
            exact hcan2.out.2 hbad
          clear htn2 hcan2 hbad
          go_wp2_with fail
          refine wp_region_held_drew (S := fun w' => w'.cell? ⟨p, 0, none⟩ = some (.slice (some ⟨b, o, none⟩) n c) ∧ (convert 22 9 (.slice (some ⟨b, o, none⟩) (1 + j) c)).run Tryz.prog w' = .ok (.string (St8 (f :: t.take j))) w') (by kernel_rfl) ⟨k0, hcv⟩ (fun hHeld => ?_)
          (refine wpAnyH_take (i := 0) (oi := ?oi0_25) (v := ?vv0_25) ?hi0_25 (by kernel_rfl) (by kernel_rfl) (by kernel_rfl) ?hQ0_25 ?hy0_25 (by assumption) ?rest0_25; (case hi0_25 => ((simp only [List.getElem?_toArray, List.getElem?_cons_zero]); rfl)); (case hQ0_25 => exact (fun _ _ _ h => h)); (case hy0_25 => (refine Or.inl ⟨by rfl, ?_⟩; intro w hSw; (try dsimp only at hSw); go_simp; try (with_reducible rfl))); (try simp only [Act.put, List.setIfInBounds_toArray, List.set_cons_zero, List.set_cons_succ]))
          (refine wpAnyH_take (i := 3) (oi := ?oi3_26) (v := ?vv3_26) ?hi3_26 (by kernel_rfl) (by kernel_rfl) (by kernel_rfl) ?hQ3_26 ?hy3_26 (by assumption) ?rest3_26; (case hi3_26 => ((simp only [List.getElem?_toArray, List.getElem?_cons_succ, List.getElem?_cons_zero]); rfl)); (case hQ3_26 => exact (fun _ _ _ h => h)); (case hy3_26 => (refine Or.inl ⟨by rfl, ?_⟩; intro w hSw; (try dsimp only at hSw); go_simp; try (with_reducible rfl))); (try simp only [Act.put, List.setIfInBounds_toArray, List.set_cons_zero, List.set_cons_succ]))
          (refine wpAnyH_take (i := 4) (oi := ?oi4_27) (v := ?vv4_27) ?hi4_27 (by kernel_rfl) (by kernel_rfl) (by kernel_rfl) ?hQ4_27 ?hy4_27 (by assumption) ?rest4_27; (case hi4_27 => ((simp only [List.getElem?_toArray, List.getElem?_cons_succ, List.getElem?_cons_zero]); rfl)); (case hQ4_27 => exact (fun _ _ _ h => h)); (case hy4_27 => (refine Or.inl ⟨by rfl, ?_⟩; intro w hSw; (try dsimp only at hSw); go_simp; try (with_reducible rfl))); (try simp only [Act.put, List.setIfInBounds_toArray, List.set_cons_zero, List.set_cons_succ]))
          (refine wpAnyH_take (i := 5) (oi := ?oi5_28) (v := ?vv5_28) ?hi5_28 (by kernel_rfl) (by kernel_rfl) (by kernel_rfl) ?hQ5_28 ?hy5_28 (by assumption) ?rest5_28; (case hi5_28 => ((simp only [List.getElem?_toArray, List.getElem?_cons_succ, List.getElem?_cons_zero]); rfl)); (case hQ5_28 => exact (fun _ _ _ h => h)); (case hy5_28 => (refine Or.inl ⟨by rfl, ?_⟩; intro w hSw; (try dsimp only at hSw); go_simp; try (with_reducible rfl))); (try simp only [Act.put, List.setIfInBounds_toArray, List.set_cons_zero, List.set_cons_succ]))
          (refine wpAnyH_take (i := 6) (oi := ?oi6_29) (v := ?vv6_29) ?hi6_29 (by kernel_rfl) (by kernel_rfl) (by kernel_rfl) ?hQ6_29 ?hy6_29 (by assumption) ?rest6_29; (case hi6_29 => ((simp only [List.getElem?_toArray, List.getElem?_cons_succ, List.getElem?_cons_zero]); rfl)); (case hQ6_29 => exact (fun _ _ _ h => h)); (case hy6_29 => (refine Or.inl ⟨by rfl, ?_⟩; intro w hSw; (try dsimp only at hSw); go_simp; try (with_reducible rfl))); (try simp only [Act.put, List.setIfInBounds_toArray, List.set_cons_zero, List.set_cons_succ]))
          (refine wpAnyH_take (i := 7) (oi := ?oi7_30) (v := ?vv7_30) ?hi7_30 (by kernel_rfl) (by kernel_rfl) (by kernel_rfl) ?hQ7_30 ?hy7_30 (by assumption) ?rest7_30; (case hi7_30 => ((simp only [List.getElem?_toArray, List.getElem?_cons_succ, List.getElem?_cons_zero]); rfl)); (case hQ7_30 => exact (fun _ _ _ h => h)); (case hy7_30 => (refine Or.inl ⟨by rfl, ?_⟩; intro w hSw; (try dsimp only at hSw); go_simp; try (with_reducible rfl))); (try simp only [Act.put, List.setIfInBounds_toArray, List.set_cons_zero, List.set_cons_succ]))
          (refine wpAnyH_take (i := 8) (oi := ?oi8_31) (v := ?vv8_31) ?hi8_31 (by kernel_rfl) (by kernel_rfl) (by kernel_rfl) ?hQ8_31 ?hy8_31 (by assumption) ?rest8_31; (case hi8_31 => ((simp only [List.getElem?_toArray, List.getElem?_cons_succ, List.getElem?_cons_zero]); rfl)); (case hQ8_31 => exact (fun _ _ _ h => h)); (case hy8_31 => (refine Or.inl ⟨by rfl, ?_⟩; intro w hSw; (try dsimp only at hSw); go_simp; try (with_reducible rfl))); (try simp only [Act.put, List.setIfInBounds_toArray, List.set_cons_zero, List.set_cons_succ]))
          (refine wpAnyH_take (i := 9) (oi := ?oi9_32) (v := ?vv9_32) ?hi9_32 (by kernel_rfl) (by kernel_rfl) (by kernel_rfl) ?hQ9_32 ?hy9_32 (by assumption) ?rest9_32; (case hi9_32 => ((simp only [List.getElem?_toArray, List.getElem?_cons_succ, List.getElem?_cons_zero]); rfl)); (case hQ9_32 => exact (fun _ _ _ h => h)); (case hy9_32 => (refine Or.inl ⟨by rfl, ?_⟩; intro w hSw; (try dsimp only at hSw); go_simp; try (with_reducible rfl))); (try simp only [Act.put, List.setIfInBounds_toArray, List.set_cons_zero, List.set_cons_succ]))
          (refine wpAnyH_take (i := 10) (oi := ?oi10_33) (v := ?vv10_33) ?hi10_33 (by kernel_rfl) (by kernel_rfl) (by kernel_rfl) ?hQ10_33 ?hy10_33 (by assumption) ?rest10_33; (case hi10_33 => ((simp only [List.getElem?_toArray, List.getElem?_cons_succ, List.getElem?_cons_zero]); rfl)); (case hQ10_33 => exact (fun _ _ _ h => h)); (case hy10_33 => (refine Or.inl ⟨by rfl, ?_⟩; intro w hSw; (try dsimp only at hSw); go_simp; try (with_reducible rfl))); (try simp only [Act.put, List.setIfInBounds_toArray, List.set_cons_zero, List.set_cons_succ]))
          (refine wpAnyH_ready (rs := [1]) (by kernel_rfl) (by simp) ?_; refine AllReadyH.cons (o := ?oc1_34) ?ho1_34 (fun K hK => ?_) AllReadyH.nil; (case ho1_34 => ((simp only [List.getElem?_toArray, List.getElem?_cons_succ, List.getElem?_cons_zero]); rfl)); go_simp)
          refine hnum.out.mono ?_
          rintro e w3 ⟨A3, c3, rfl, ho3, hb3⟩
          have hb03 : Below w.heap.size w w3 := (Below.refl w.heap.size w).drew.trans hb3
          have hcv3 := run_str w3 (some ⟨b, o, none⟩) (f :: t.take j) (1 + j) c (by rw [hpl]; omega) (hpart.out.below hb03)
          have hcn := run_str w3 A3 (numB V) (numB V).length c3 rfl ho3.rd
          have hk3 := (hcl.out w3 hb03).1
          go_wp2_with fail
          refine hK.out _ _ ⟨hk3, hcv3⟩ (fun hHeld2 => ?_)
          clear hK
          (try simp only [Act.put, List.setIfInBounds_toArray, List.set_cons_zero, List.set_cons_succ])
          (refine wpAnyH_ready (rs := [2]) (by kernel_rfl) (by simp) ?_; refine AllReadyH.cons (o := ?oc2_35) ?ho2_35 (fun K hK => ?_) AllReadyH.nil; (case ho2_35 => ((simp only [List.getElem?_toArray, List.getElem?_cons_succ, List.getElem?_cons_zero]); rfl)); go_simp)
          refine hK.out _ _ ⟨hk3, hcv3⟩ (fun hHeld3 => ?_)
          clear hK
          (try simp only [Act.put, List.setIfInBounds_toArray, List.set_cons_zero, List.set_cons_succ])
          (refine wpAnyH_take (i := 11) (oi := ?oi11_36) (v := ?vv11_36) ?hi11_36 (by kernel_rfl) (by kernel_rfl) (by kernel_rfl) ?hQ11_36 ?hy11_36 (by assumption) ?rest11_36; (case hi11_36 => ((simp only [List.getElem?_toArray, List.getElem?_cons_succ, List.getElem?_cons_zero]); rfl)); (case hQ11_36 => exact (fun _ _ _ h => h)); (case hy11_36 => (refine Or.inl ⟨by rfl, ?_⟩; intro w hSw; (try dsimp only at hSw); go_simp; try (with_reducible rfl))); (try simp only [Act.put, List.setIfInBounds_toArray, List.set_cons_zero, List.set_cons_succ]))
          refine wpAnyH_done (by kernel_rfl) ?_ _
          clear hHeld hHeld2 hHeld3 hcv hcv3 hcn
          obtain ⟨d0, f0⟩ := hcl.out w3 hb03
          have hkp : Keeps RRdT p w w3 := Keeps.of_below hb03
          have hst3 := hst.out w3 hb03
          rw [Nat.add_comm j 1] at hst3
          have z9 : (1 : Int) + (j : Int) ≤ (n : Int) := by omega
          by_cases hcj : c = 1 + j
          · have hs3 := hst3 (some ⟨b, o, none⟩) (by omega) (by rw [if_pos hcj.symm])
            rw [show c - (1 + j) = 0 from by omega] at hs3
            have Hs := Lib.hid hs3
            clear hst hcl hnum hpart ho3 hst3 hs3
            go_wp2_with fail
            go_ret
            exact ⟨.inr ⟨V, _, hyes.out, rfl, Hs.out.1⟩, hkp.trans Hs.out.2⟩
          · have Hs := Lib.hid (hst3 (some ⟨b, o + (1 + j), none⟩) (by omega) (by rw [if_neg (fun e => hcj e.symm)]))
            clear hst hcl hnum hpart ho3 hst3
            go_wp2_with fail
            go_ret
            exact ⟨.inr ⟨V, _, hyes.out, rfl, Hs.out.1⟩, hkp.trans Hs.out.2⟩

theorem rrdr_num (p : Nat) (l : List UInt8) (bad : Bool) (w : World) (h : RRdr w p l bad) : Calls Tryz.prog 21 #[.pointer (some ⟨p, 0, none⟩)] w fun e w' => RNumOK p l bad w e w' := by
  cases l with
  | nil => exact rnum_nil p bad w h
  | cons f t =>
    by_cases hf : f.toNat < 248
    · exact rnum_small p f t bad w h hf
    · exact rnum_great p f t bad w h hf

theorem rdTake8' {w : World} {A : Option Addr} {u : List UInt8} (h : Rd w A (Bs u)) (m : Nat) : Rd w A (Bs (u.take m)) := by
  intro hn
  obtain ⟨b, o, e, hr⟩ := h (fun h0 => hn (by have e : u = [] := (by simpa using h0); rw [e]; simp))
  have := Rd.part hr 0 m
  rw [List.drop_zero, Nat.add_zero, ← List.map_take] at this
  exact ⟨b, o, e, this⟩
/-- How Text ends. -/
def RTextOK (p : Nat) (l : List UInt8) (bad : Bool) (w : World) (e : Ending) (w' : World) : Prop :=
  ((takeText l = none ∧ e = .returned (.string (St8 [])) ∧ RRdrBad w' p) ∨ ∃ s u, takeText l = some (s, u) ∧ e = .returned (.string (St8 s)) ∧ RRdr w' p u bad) ∧ Keeps RRdT p w w'
set_option maxHeartbeats 4000000 in
set_option maxRecDepth 100000 in
theorem rrdr_text (p : Nat) (l : List UInt8) (bad : Bool) (w : World) (h : RRdr w p l bad) : Calls Tryz.prog 53 #[.pointer (some ⟨p, 0, none⟩)] w fun e w' => RTextOK p l bad w e w' := by
  have hn := Lib.hid (rrdr_num p l bad w h)
  clear h
  have htt : Hid (takeText l = match takeNum l with | none => none | some (m, u) => if 1024 < m ∨ u.length < m then none else some (u.take m, u.drop m)) := rfl
  go_enter Tryz.func53, Tryz.ntmps53
  go_wp2_with fail
  refine hn.out.mono ?_
  rintro e w1 ⟨⟨ht, rfl, hr⟩ | ⟨m, u, ht, rfl, hr⟩, hk⟩
  · have Ht : Hid (takeText l = none) := by show _ = _; rw [htt.out, ht]
    have k0 := hr.cell 0
    have f0 := hr.frozen 0
    have h2 := hr.set_ 0 (.slice none 0 0)
    simp only [List.getElem?_cons_zero, List.set_cons_zero] at k0 h2
    have hk2 := hk.setCell hr (i := 0) (by simp) (Nat.le_refl _) (.slice none 0 0)
    have hcv := run_str w1 none [] 0 0 rfl (Rd.nil _ _)
    have H2 := Lib.hid h2
    have Hk2 := Lib.hid hk2
    clear ht hr h2 hk hk2 htt
    go_wp2_with fail
    go_ret
    exact ⟨.inl ⟨Ht.out, rfl, H2.out⟩, Hk2.out⟩
  · have hm := (takeNum_lt ht).1
    have Hr := Lib.hid hr
    have Hk := Lib.hid hk
    obtain ⟨A, n, c, h1, h2, hl, hnc, hc, hA⟩ := hr
    have k0 := h1.cell 0
    have f0 := h1.frozen 0
    simp only [List.getElem?_cons_zero] at k0
    have hw : IntKind.u64.wrap (n : Int) = (n : Int) := by rw [IntKind.wrap_u64]; omega
    by_cases hbad : 1024 < m ∨ n < m
    · have Ht : Hid (takeText l = none) := by show _ = _; rw [htt.out, ht]; dsimp only; rw [if_pos (by rw [hl]; exact hbad)]
      have hf := Lib.hid (rrdr_fail p u bad w1 Hr.out)
      clear ht htt h1 h2 hl hk
      by_cases h10 : 1024 < m
      · go_wp2_with fail
        refine hf.out.mono ?_
        rintro e w2 ⟨rfl, hr2, hk2⟩
        go_wp2_with fail
        go_ret
        exact ⟨.inl ⟨Ht.out, rfl, hr2⟩, Hk.out.trans hk2⟩
      · have hnm : n < m := by omega
        clear hbad
        go_wp2_with fail
        refine hf.out.mono ?_
        rintro e w2 ⟨rfl, hr2, hk2⟩
        go_wp2_with fail
        go_ret
        exact ⟨.inl ⟨Ht.out, rfl, hr2⟩, Hk.out.trans hk2⟩
    · have Ht : Hid (takeText l = some (u.take m, u.drop m)) := by show _ = _; rw [htt.out, ht]; dsimp only; rw [if_neg (by rw [hl]; exact hbad)]
      have hm1 : ¬ 1024 < m := by omega
      have hm2 : ¬ n < m := by omega
      have hmn : m ≤ n := by omega
      have hmc : m ≤ c := by omega
      have hml : (u.take m).length = m := by rw [List.length_take]; omega
      clear ht htt hbad
      rcases hA with ⟨rfl, rfl⟩ | ⟨b, o, rfl⟩
      · obtain rfl : n = 0 := by omega
        obtain rfl : m = 0 := by omega
        have hu0 : u = [] := List.eq_nil_of_length_eq_zero hl
        subst hu0
        have hcv := run_str w1 none [] 0 0 rfl (Rd.nil _ _)
        have h3 := h1.set_ 0 (.slice none 0 0)
        simp only [List.set_cons_zero] at h3
        have hk3 := hk.setCell h1 (i := 0) (by simp) (Nat.le_refl _) (.slice none 0 0)
        have H3 := Lib.hid h3
        have Hk3 := Lib.hid hk3
        clear h1 h2 h3 hk hk3 hl
        go_wp2_with fail
        go_ret
        exact ⟨.inr ⟨[], [], Ht.out, rfl, ⟨none, 0, 0, H3.out, OwnX.nil _ _ _, rfl, Nat.le_refl _, by omega, .inl ⟨rfl, rfl⟩⟩⟩, Hk3.out⟩
      · have hcv := run_str w1 (some ⟨b, o, none⟩) (u.take m) m c hml (by have := rdTake8' h2.rd m; exact this)
        by_cases hcm : m = c
        · have hs := RRdr.skip h1 h2 hl hnc hc (k := m) hmn (some ⟨b, o, none⟩) (by rw [if_pos hcm])
          subst hcm
          obtain rfl : n = m := by omega
          rw [Nat.sub_self] at hs
          have Hs := Lib.hid hs
          clear h1 h2 hl hs hk
          go_wp2_with fail
          go_ret
          exact ⟨.inr ⟨_, _, Ht.out, rfl, Hs.out.1⟩, Hk.out.trans Hs.out.2⟩
        · have hs := RRdr.skip h1 h2 hl hnc hc (k := m) hmn (some ⟨b, o + m, none⟩) (by rw [if_neg hcm])
          have Hs := Lib.hid hs
          clear h1 h2 hl hs hk
          go_wp2_with fail
          go_ret
          exact ⟨.inr ⟨_, _, Ht.out, rfl, Hs.out.1⟩, Hk.out.trans Hs.out.2⟩

end Go.Proofs.YtojppmnmhdgnnaaGreat
