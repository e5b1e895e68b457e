/- Walks: a builder of texts that a call has made (strings.Builder), turned to this form of the program out of the library's own walks. Strings made of bytes, and bytes made of strings. Walks: what all texts begin with that are like a pattern: the program's and the reference's (Fixed). -/
import Derived.Test.YtipnglidepfkbaaDoorMGrA
import Derived.Test.YtipnglidepfkbaaDoorMShelf
import Derived.Shelf.Strings.Builder1
import Derived.Lib.Builder
import Derived.Lib.AppendStr
import Derived.Laws.EntriesVeiled
import Derived.Laws.IdiomStrings
import Derived.Test.YtipnglidepfkbaaDoorMGrQ
import Derived.Test.YtipnglidepfkbaaDoorMGrD
import Derived.Test.YtipnglidepfkbaaDoorMGrP
namespace Go.Proofs.YtipnglidepfkbaaDoor
set_option linter.unusedVariables false
set_option linter.unusedSimpArgs false
open Go.RowKit

attribute [local go_sem ↓] Go.wp_at_zero Go.wp_at_succ

theorem builder_size : ∃ j, Tryd.prog.info? 131 = some j ∧ j.size ≠ 0 := by
  cases h : Tryd.prog.info? 131 with
  | none =>
    have e : (Tryd.prog.info? 131).isSome = true := by kernel_rfl
    rw [h] at e
    cases e
  | some j =>
    refine ⟨j, rfl, ?_⟩
    have e : ((Tryd.prog.info? 131).map fun i => decide (i.size ≠ 0)) = some true := by kernel_rfl
    rw [h] at e
    simpa using e

set_option maxHeartbeats 4000000 in
set_option maxRecDepth 100000 in
theorem bcheck_used (b : Nat) (w : World) (h0 : w.cell? ⟨b, 0, none⟩ = some (.pointer (some ⟨b, 0, none⟩))) :
    Calls Tryd.prog 120 #[.pointer (some ⟨b, 0, none⟩)] w fun e w' => e = .returned (.tuple #[]) ∧ w' = w := by
  obtain ⟨j, hj, hj0⟩ := builder_size
  go_enter Tryd.func120, Tryd.ntmps120
  go_wp2_with fail
  rw [Lib.run_neq_ptr_same w _ Tryd.underlying129 hj]
  go_wp2_with fail
  go_end0
  exact ⟨rfl, rfl⟩

set_option maxHeartbeats 4000000 in
set_option maxRecDepth 100000 in
theorem bcheck_fresh (b : Nat) (w : World) (h0 : w.cell? ⟨b, 0, none⟩ = some (.pointer none)) (hsh : w.shape? b = some (131, 2)) (hfz : w.frozen? ⟨b, 0, none⟩ = false) :
    Calls Tryd.prog 120 #[.pointer (some ⟨b, 0, none⟩)] w fun e w' => e = .returned (.tuple #[]) ∧ w' = w.setCell ⟨b, 0, none⟩ (.pointer (some ⟨b, 0, none⟩)) := by
  obtain ⟨j, hj, hj0⟩ := builder_size
  go_enter Tryd.func120, Tryd.ntmps120
  go_wp2_with fail
  rw [Lib.run_to_unsafe w ⟨b, 0, none⟩ Tryd.underlying129 Tryd.underlying153 hj hj0 hsh (Nat.zero_lt_succ 1)]
  simp only [Result.andThen]
  rw [Oper.upon_value]
  go_wp2_with fail
  rw [run_callFunc_extern Tryd.func122 (by kernel_rfl) (by kernel_rfl) (by kernel_rfl) (e := Extern.AbiNoEscape.same) (by kernel_rfl)]
  rw [Lib.run_noEscape]
  simp only [Result.andThen]
  rw [Oper.upon_value]
  go_wp2_with fail
  rw [Lib.run_from_unsafe w ⟨b, 0, none⟩ Tryd.underlying153 Tryd.underlying129 hj hsh (by kernel_rfl)]
  simp only [Result.andThen]
  rw [Oper.upon_value]
  go_wp2_with fail
  go_end0
  exact ⟨rfl, rfl⟩

theorem bcheck (B b : Nat) (bs : List Value) (w : World) (h : Lib.IsBuilder 131 5 B b bs w) :
    Calls Tryd.prog 120 #[.pointer (some ⟨b, 0, none⟩)] w fun e w' => e = .returned (.tuple #[]) ∧ (Lib.BuilderAt 131 5 B b (.pointer (some ⟨b, 0, none⟩)) bs w' ∧ Below B w w') := by
  rcases h with h | h
  · refine (bcheck_fresh b w h.cell0 h.shape h.frozen0).mono ?_
    rintro e w' ⟨rfl, rfl⟩
    exact ⟨rfl, h.used _, (Below.refl B w).setCell (p := ⟨b, 0, none⟩) h.1 _⟩
  · refine (bcheck_used b w h.cell0).mono ?_
    rintro e w' ⟨rfl, rfl⟩
    exact ⟨rfl, h, Below.refl B _⟩

set_option maxHeartbeats 8000000 in
set_option maxRecDepth 100000 in
theorem bwrite (B b : Nat) (bs : List Value) (s : ByteArray) (w : World) (h : Lib.IsBuilder 131 5 B b bs w) (hlen : bs.length + s.size ≤ 140737488355328) (hBw : B ≤ w.heap.size) :
    Calls Tryd.prog 109 #[.pointer (some ⟨b, 0, none⟩), .string s] w fun e w' => e = .returned (.tuple #[.int .i64 s.size, .nilIface]) ∧ (Lib.BuilderAt 131 5 B b (.pointer (some ⟨b, 0, none⟩)) (bs ++ Lib.strCells s) w' ∧ Below B w w') := by
  obtain ⟨i0, hi, hz0, hz1, hz2⟩ := info_parts (P := Tryd.prog) (e := 5) (z := .int .u8 0) (size := 1) (bytes := 1) (by kernel_rfl)
  have hch := Lib.hid (bcheck B b bs w h)
  clear h
  go_enter Tryd.func109, Tryd.ntmps109
  go_wp2_with fail
  refine hch.out.mono ?_
  rintro e w1 ⟨rfl, h1, hb1⟩
  obtain ⟨hB, v, hbk, hown, hne⟩ := h1
  have c0 : w1.cell? ⟨b, 0, none⟩ = some (.pointer (some ⟨b, 0, none⟩)) := by rw [Lib.cell_of_heap hbk]; rfl
  have c1 : w1.cell? ⟨b, 1, none⟩ = some v := by rw [Lib.cell_of_heap hbk]; rfl
  have hz1' := hb1.size
  have Hbk := Lib.hid hbk
  have Hown := Lib.hid hown
  have Hne := Lib.hid hne
  have Hb1 := Lib.hid hb1
  clear hbk hown hne hb1 hch
  go_wp2_with (first | (at_builtin; refine hold ?_) | (at_make; refine hold ?_))
  (with_reducible refine unhold ?_)
  refine Lib.wpList_append_own_string _ rfl _ _ 22 9 rfl B 5 i0 Tryd.underlying22 Tryd.underlying9 hi hz0 hz1 hz2 _ _ _ rfl Hown.out s rfl (by unfold maxLen; omega) (by omega) (by omega) ?_
  intro v' w2 hown' hgrow _
  have hlt : b < w1.heap.size := by
    rcases Nat.lt_or_ge b w1.heap.size with h' | h'
    · exact h'
    · have := Hbk.out
      simp [Array.getElem?_eq_none h'] at this
  have hb2 : w2.heap[b]? = some (.cells #[.pointer (some ⟨b, 0, none⟩), v] 131 (0, 0)) := by
    rw [hgrow.block b hlt (fun e => Hne.out e.symm)]
    exact Hbk.out
  have d0 : w2.cell? ⟨b, 0, none⟩ = some (.pointer (some ⟨b, 0, none⟩)) := by rw [Lib.cell_of_heap hb2]; rfl
  have d1 : w2.cell? ⟨b, 1, none⟩ = some v := by rw [Lib.cell_of_heap hb2]; rfl
  have f1 : w2.frozen? ⟨b, 1, none⟩ = false := Lib.frozen_of_heap hb2 1
  have Hb2 := Lib.hid hb2
  have Hown2 := Lib.hid hown'
  have Hg := Lib.hid hgrow
  obtain ⟨ao, n', cap, rfl⟩ : ∃ ao n' cap, v' = .slice ao n' cap := by
    rcases hown'.2 with ⟨hv, _⟩ | ⟨g, cap, cur, hv, _⟩
    · exact ⟨_, _, _, hv⟩
    · exact ⟨_, _, _, hv⟩
  clear hb2 hown' hgrow hi hz0 hz1 hz2 c0 c1
  go_wp2_with fail
  go_ret2
  refine ⟨rfl, ?_, ?_⟩
  · exact Lib.BuilderAt.put (T := 131) (e := 5) hB Hb2.out (bs' := bs ++ Lib.strCells s) (by simpa [Lib.strCells_length] using Hown2.out) (by decide)
  · exact (Hb1.out.grown Hg.out (by omega) (fun k hk => (Hown.out.lt k hk).1)).setCell (p := ⟨b, 1, none⟩) hB _
end Go.Proofs.YtipnglidepfkbaaDoor
namespace Go.Proofs.YtipnglidepfkbaaDoor
set_option linter.unusedVariables false
set_option linter.unusedSimpArgs false
open Go.RowKit

theorem run_str (w : World) (A : Option Addr) (l : List UInt8) (n c : Nat) (hn : l.length = n) (hr : Rd w A (Bs l)) :
    (convert 22 9 (.slice A n c)).run Tryd.prog w = .ok (.string (St8 l)) w := by
  subst hn
  have hs : Tryd.prog.underlying 22 = some (.slice 5) := by kernel_rfl
  have he : Tryd.prog.underlying 5 = some (.int .u8) := by kernel_rfl
  have hd : Tryd.prog.underlying 9 = some .string := by kernel_rfl
  cases l with
  | nil =>
    cases A with
    | none =>
      rw [run_convert_bytes_string w _ _ _ none _ c hs he hd]
      simp [Conv.bytesToString]
      rfl
    | some a => exact run_convert_bytes_back w _ _ _ a c [] hs he hd (by simp)
  | cons x l =>
    obtain ⟨b, o, rfl, h⟩ := hr (by simp)
    refine run_convert_bytes_back w _ _ _ ⟨b, o, none⟩ c (x :: l) hs he hd fun j hj => ?_
    have := h j (B ((x :: l)[j])) (by rw [List.getElem?_map, List.getElem?_eq_getElem hj]; rfl)
    rw [Addr.add_mid]
    exact this
/-- What a comparison of two strings comes to. -/
theorem St8_take (l : List UInt8) (n : Nat) : (St8 l).extract 0 n = St8 (l.take n) := by
  unfold St8
  ext1
  simp [ByteArray.data_extract]
theorem St8_append (l m : List UInt8) : St8 l ++ St8 m = St8 (l ++ m) := by
  unfold St8
  ext1
  simp

/-- Bytes made of a string: a row of the call's own. -/
theorem run_byt (w : World) (l : List UInt8) :
    ∃ c w', (convert 9 22 (.string (St8 l))).run Tryd.prog w = .ok (.slice (some ⟨w.heap.size, 0, none⟩) l.length c) w' ∧ w'.rangeAt w.heap.size 0 (Bs l) ∧ Below w.heap.size w w' ∧
      (∀ j, j < l.length → w'.frozen? ⟨w.heap.size, j, none⟩ = false) := by
  have hs : Tryd.prog.underlying 22 = some (.slice 5) := by kernel_rfl
  have he : Tryd.prog.underlying 5 = some (.int .u8) := by kernel_rfl
  have hd : Tryd.prog.underlying 9 = some .string := by kernel_rfl
  have h := run_bytes_of_string w 9 22 5 (St8 l) hd hs he
  rw [St8_size] at h
  have hh := heap_alloc_new w.drew (.cells (bytesRow (St8 l) (grownCap w l.length 0 5)) 5 ((bytesRow (St8 l) (grownCap w l.length 0 5)).size, (bytesRow (St8 l) (grownCap w l.length 0 5)).size + 1))
  have hrow : ∀ (j : Nat) (v : Value), (Bs l)[j]? = some v → (bytesRow (St8 l) (grownCap w l.length 0 5))[j]? = some v := by
    intro j v hj
    have hlt := (List.getElem?_eq_some_iff.1 hj).1
    rw [List.length_map] at hlt
    unfold bytesRow St8
    rw [Array.getElem?_append_left (by simpa using hlt)]
    rw [List.getElem?_map, List.getElem?_eq_getElem hlt] at hj
    simpa [hlt] using hj
  have hsz : l.length ≤ (bytesRow (St8 l) (grownCap w l.length 0 5)).size := by
    unfold bytesRow
    rw [Array.size_append, Array.size_map]
    have : (St8 l).data.size = l.length := St8_size l
    omega
  refine ⟨_, _, h, ?_, ?_, ?_⟩
  · intro j v hj
    rw [Nat.zero_add]
    exact (cell_of_row _ w.heap.size j _ _ _ hh).trans (hrow j v hj)
  · exact (Below.refl w.heap.size w).drew.alloc (Nat.le_refl _) _
  · intro j hj
    have hh' : (w.drew.alloc (.cells (bytesRow (St8 l) (grownCap w l.length 0 5)) 5 ((bytesRow (St8 l) (grownCap w l.length 0 5)).size, (bytesRow (St8 l) (grownCap w l.length 0 5)).size + 1))).heap[w.heap.size]? = _ := hh
    unfold World.frozen?
    rw [hh']
    simp
    omega
theorem range_set {w : World} {g : Nat} {l : List UInt8} (h : w.rangeAt g 0 (Bs l)) {j : Nat} (_hj : j < l.length) (c : UInt8) : (w.setCell ⟨g, j, none⟩ (B c)).rangeAt g 0 (Bs (l.set j c)) := by
  intro k v hk
  rw [Nat.zero_add]
  rw [List.getElem?_map, List.getElem?_set] at hk
  have hlt : ∀ m, m < l.length → ∃ u, w.cell? ⟨g, m, none⟩ = some u ∧ some u = (Bs l)[m]? := by
    intro m hm
    have hm' : (Bs l)[m]? = some (B l[m]) := by rw [List.getElem?_map, List.getElem?_eq_getElem hm]; rfl
    have := h m _ hm'
    rw [Nat.zero_add] at this
    exact ⟨_, this, hm'.symm⟩
  by_cases e : j = k
  · subst e
    rw [if_pos rfl, if_pos _hj] at hk
    obtain ⟨u, hu, _⟩ := hlt j _hj
    rw [World.cell?_setCell_same' _ _ _ (by rw [hu]; rfl)]
    exact hk
  · rw [if_neg e] at hk
    rw [World.cell?_setCell_other _ _ _ _ (by intro e'; injection e' with _ e' _; exact e e')]
    have hm : (Bs l)[k]? = some v := by rw [List.getElem?_map]; exact hk
    have := h k v hm
    rwa [Nat.zero_add] at this
end Go.Proofs.YtipnglidepfkbaaDoor
namespace Go.Proofs.YtipnglidepfkbaaDoor
set_option linter.unusedVariables false
set_option linter.unusedSimpArgs false
open Go.RowKit

attribute [local go_sem ↓] Go.wp_at_zero Go.wp_at_succ

/-- What all begin with is told, and whether there is but that one. -/
def FixE (e : Ending) (f : List UInt8) : Prop := ∃ b : Bool, e = .returned (.tuple #[.string (St8 f), .bool b, .int .i64 0])
theorem partsF_letters : ∀ (l : List (Nat × List UInt8)) (e : Bool), (∀ x ∈ l, x.2.length ≤ 4) → ∀ p ∈ (partsF e l).1, p.letter.length ≤ 4
  | [], e, _, p, hp => by rw [partsF] at hp; simp at hp
  | x :: t, e, h, p, hp => by
    have hx := h x (List.mem_cons_self ..)
    have ht := partsF_letters t (stepP e x).1 (fun y hy => h y (List.mem_cons_of_mem _ hy)) p
    rw [partsF] at hp
    rcases List.mem_append.1 hp with hp | hp
    · unfold stepP at hp
      split at hp
      · rw [List.mem_singleton.1 hp]; exact hx
      · split at hp
        · simp at hp
        · split at hp
          · rw [List.mem_singleton.1 hp]; simp
          · rw [List.mem_singleton.1 hp]; exact hx
    · exact ht hp
theorem partsM_letters (p : List UInt8) : ∀ x ∈ (partsM p).1, x.letter.length ≤ 4 := partsF_letters _ _ (fun x hx => (lets_mem _ p (Nat.le_refl _) x hx).1)
theorem fixF_len : ∀ q : List Pt, (∀ x ∈ q, x.letter.length ≤ 4) → (fixF q).length ≤ q.length * 4
  | [], _ => by simp [fixF]
  | x :: q, h => by
    have h1 := h x (List.mem_cons_self ..)
    have h2 := fixF_len q (fun y hy => h y (List.mem_cons_of_mem _ hy))
    rw [fixF]
    split
    · rw [List.length_append, List.length_cons]; omega
    · simp
theorem strCells_St8 (s : List UInt8) : Lib.strCells (St8 s) = Lib.byteCells s := rfl
theorem byteCells_append (a b : List UInt8) : Lib.byteCells (a ++ b) = Lib.byteCells a ++ Lib.byteCells b := by unfold Lib.byteCells; rw [List.map_append]
theorem byteCells_len (a : List UInt8) : (Lib.byteCells a).length = a.length := by unfold Lib.byteCells; rw [List.length_map]
/-- A builder stands where only new blocks come. -/
theorem isBuilder_below {T e : TypeId} {B b : Nat} {bs : List Value} {w w' : World} (h : Lib.IsBuilder T e B b bs w) (hb : Below w.heap.size w w') : Lib.IsBuilder T e B b bs w' := by
  have go : ∀ p, Lib.BuilderAt T e B b p bs w → Lib.BuilderAt T e B b p bs w' := fun p h => by
    have hlt := h.lt
    obtain ⟨h0, v, h1, h2, h3⟩ := h
    refine ⟨h0, v, (hb.block b hlt).trans h1, ?_, h3⟩
    obtain ⟨hl, h2⟩ := h2
    rcases h2 with h2 | ⟨g, cap, cur, e1, e2, e3, e4⟩
    · exact ⟨hl, .inl h2⟩
    · exact ⟨hl, .inr ⟨g, cap, cur, e1, e2, (hb.block g (Array.getElem?_eq_some_iff.1 e3).1).trans e3, e4⟩⟩
  rcases h with h | h
  · exact .inl (go _ h)
  · exact .inr (go _ h)

set_option maxHeartbeats 8000000 in
set_option maxRecDepth 100000 in
theorem lfixed_c (p : List UInt8) (w : World) (hp : p.length ≤ 1000000) (hok : (partsM p).2 = true) :
    Calls Tryd.prog 87 #[.string (St8 p)] w fun e w' => FixE e (fixedM p) ∧ Below w.heap.size w w' := by
  have hpw := Lib.hid (parts_any p w hp)
  have hlen := Nat.le_trans (partsM_len p) hp
  have hlet := partsM_letters p
  rw [hok] at hpw
  have hF : Hid (fixedM p = fixF (partsM p).1) := rfl
  generalize fixedM p = F at *
  generalize (partsM p).1 = q at *
  have hfl := fixF_len q hlet
  obtain ⟨n, hn⟩ : ∃ n, q.length = n := ⟨_, rfl⟩
  rw [hn] at hpw hlen hfl
  have Hn := Lib.hid hn
  have Hlet := Lib.hid hlet
  rw [← hF.out] at hfl
  have Hfl := Lib.hid hfl
  clear hn hlet hok hfl
  go_enter Tryd.func87, Tryd.ntmps87
  go_wp2_with fail
  refine hpw.out.mono ?_
  rintro e w1 ⟨A, c, rfl, ho, hb1⟩
  have Ho := Lib.hid ho.rd
  have hcm := ho.cap
  have Hb1 := Lib.hid hb1
  have Hb0 := Lib.hid ((Below.refl w1.heap.size w1).alloc (Nat.le_refl _) (.cells #[.pointer none, .slice none 0 0] 131))
  have Hbu := Lib.hid (Lib.fresh_isBuilder 131 5 w1)
  clear ho hb1 hpw
  go_wp2_with fail
  go_loopw [19] (fun v19 wr => ∃ (j : Nat) (acc : List UInt8), v19 = .int .i64 (j : Int) ∧ j ≤ n ∧ Hid (F = acc ++ fixF (q.drop j)) ∧ Hid (Lib.IsBuilder 131 5 w1.heap.size w1.heap.size (Lib.byteCells acc) wr) ∧ Hid (Below w1.heap.size w1 wr)) (fun v19 _ => n - (intOf v19).toNat)
  case atStart => exact ⟨0, [], rfl, by omega, (by show _ = _; rw [hF.out]; rfl), Hbu, Hb0⟩
  case round =>
    clear Hbu Hb0
    obtain ⟨j, acc, rfl, hj, Hacc, Hbu, Hb⟩ := hrel
    have hzb := Hb.out.size
    by_cases hjn : j < n
    · have hjl : j < q.length := by rw [Hn.out]; exact hjn
      have hjI : (j : Int) < (n : Int) := by omega
      have hjI0 : (0 : Int) ≤ (j : Int) := by omega
      have hg := List.getElem?_eq_getElem hjl
      have hfx := Hacc.out
      rw [List.drop_eq_getElem_cons hjl, fixF] at hfx
      obtain ⟨pb, po, rfl, hpr⟩ := (Ho.out.below Hb.out) (by intro e; have := congrArg List.length e; rw [pcells_len, List.length_nil, Hn.out] at this; omega)
      have c0 := hpr _ _ (pcell0 hg)
      have c1 := hpr _ _ (pcell1 hg)
      rw [← Nat.add_assoc] at c1
      have hll := Hlet.out q[j] (List.getElem_mem hjl)
      generalize q[j] = x at *
      obtain ⟨kd, le⟩ := x
      dsimp only at c0 c1 hfx hll
      have hal : acc.length ≤ n * 4 := by
        have h1 := Hfl.out
        rw [Hacc.out, List.length_append] at h1
        omega
      have hbA : Below wr.heap.size wr (wr.alloc (.cells #[.int .i32 kd, .string (St8 le)] 101)) := (Below.refl _ _).alloc (Nat.le_refl _) _
      have HbA := Lib.hid (Hb.out.trans (hbA.mono hzb))
      have HbuA := Lib.hid (isBuilder_below Hbu.out hbA)
      have hzA : w1.heap.size ≤ (wr.alloc (.cells #[.int .i32 kd, .string (St8 le)] 101)).heap.size := HbA.out.size
      have HzA := Lib.hid hzA
      clear hbA hpr hg hjl hzA
      by_cases hk : kd = 0
      · subst hk
        rw [if_pos rfl] at hfx
        have hw := bwrite w1.heap.size w1.heap.size (Lib.byteCells acc) (St8 le) _ HbuA.out (by rw [byteCells_len, St8_size]; omega) HzA.out
        rw [strCells_St8, ← byteCells_append] at hw
        have Hw := Lib.hid hw
        have Hfx : Hid (F = (acc ++ le) ++ fixF (q.drop (j + 1))) := by
          show _ = _
          rw [hfx, List.append_assoc]
        clear hw hfx
        go_wp2_with fail
        refine Hw.out.mono ?_
        rintro e w3 ⟨rfl, hb3, hb4⟩
        have Hb4 := Lib.hid (HbA.out.trans hb4)
        have Hbu3 : Hid (Lib.IsBuilder 131 5 w1.heap.size w1.heap.size (Lib.byteCells (acc ++ le)) w3) := .inr hb3
        clear hb3 hb4
        go_wp2_with fail
        go_roundw
        case rel => exact ⟨j + 1, acc ++ le, by go_num, by omega, Hfx, Hbu3, Hb4⟩
        case measure => simp [intOf]; omega
      · rw [if_neg hk, List.append_nil] at hfx
        subst hfx
        have hkb : (kd != 0) = true := by rw [bne_iff_ne]; exact hk
        have hs := Lib.hid (Tryd.Builder_String_any w1.heap.size w1.heap.size F _ HbuA.out HzA.out)
        go_wp2_with fail
        refine hs.out.mono ?_
        rintro e w3 ⟨rfl, hb3⟩
        have Hb3 := Lib.hid (Hb1.out.trans ((HbA.out.trans hb3).mono Hb1.out.size))
        go_wp2_with fail
        go_ret3
        exact ⟨⟨false, rfl⟩, Hb3.out⟩
    · obtain rfl : j = n := by omega
      have hfx := Hacc.out
      rw [List.drop_eq_nil_of_le (by rw [Hn.out]; omega), fixF, List.append_nil] at hfx
      subst hfx
      have hs := Lib.hid (Tryd.Builder_String_any w1.heap.size w1.heap.size F _ Hbu.out hzb)
      go_wp2_with fail
      refine hs.out.mono ?_
      rintro e w3 ⟨rfl, hb3⟩
      have Hb3 := Lib.hid (Hb1.out.trans ((Hb.out.trans hb3).mono Hb1.out.size))
      go_wp2_with fail
      go_ret3
      exact ⟨⟨true, rfl⟩, Hb3.out⟩

set_option maxHeartbeats 8000000 in
set_option maxRecDepth 100000 in
theorem rfixed_c (p : List UInt8) (w : World) (hp : p.length ≤ 1000000) (hok : (partsM p).2 = true) (hT : Lib.Utf8Tabs 0 1 w) :
    Calls Tryd.prog 90 #[.string (St8 p)] w fun e w' => FixE e (fixedM p) ∧ Below w.heap.size w w' := by
  have hpw := Lib.hid (rparts_c p w hp hT)
  have hiso : rparts p = some (partsM p).1 := by
    unfold rparts
    rw [partsR_letters p, if_pos hok]
  rw [hiso] at hpw
  have hlen := Nat.le_trans (partsM_len p) hp
  have Hkd : Hid (∀ x ∈ (partsM p).1, x.kind = 0 ∨ x.kind = 37 ∨ x.kind = 95) := partsM_kind p
  have hlet := partsM_letters p
  have hF : Hid (fixedM p = fixF (partsM p).1) := rfl
  generalize fixedM p = F at *
  generalize (partsM p).1 = q at *
  have hfl := fixF_len q hlet
  obtain ⟨n, hn⟩ : ∃ n, q.length = n := ⟨_, rfl⟩
  rw [hn] at hlen hfl
  rw [← hF.out] at hfl
  have Hfl := Lib.hid hfl
  have Hlet := Lib.hid hlet
  clear hlet hfl
  have Hn := Lib.hid hn
  clear hn hok hT hiso
  go_enter Tryd.func90, Tryd.ntmps90
  go_wp2_with fail
  refine hpw.out.mono ?_
  rintro e w1 ⟨⟨A, n', c, q', rfl, hq1, hq2, ho⟩, hb1⟩
  obtain rfl : q' = q := hq2 q rfl
  obtain rfl : n' = n := by rw [← hq1, Hn.out]
  have Ho := Lib.hid ho.rd
  have hcm := ho.cap
  have Hb1 := Lib.hid hb1
  clear ho hb1 hpw hq1 hq2
  go_wp2_with fail
  go_loopw [7, 8] (fun v7 v8 wr => ∃ (j : Nat) (acc : List UInt8), v7 = .string (St8 acc) ∧ v8 = .int .i64 (j : Int) ∧ j ≤ n' ∧ Hid (F = acc ++ fixF (q'.drop j)) ∧ Hid (Below w1.heap.size w1 wr)) (fun _ v8 _ => n' - (intOf v8).toNat)
  case atStart => exact ⟨0, [], rfl, rfl, by omega, (by show _ = _; rw [hF.out]; rfl), Below.refl _ _⟩
  case round =>
    obtain ⟨j, acc, rfl, rfl, hj, Hacc, Hb⟩ := hrel
    by_cases hjn : j < n'
    · have hjl : j < q'.length := by rw [Hn.out]; exact hjn
      have hjI : (j : Int) < (n' : Int) := by omega
      have hjI0 : (0 : Int) ≤ (j : Int) := by omega
      have hg := List.getElem?_eq_getElem hjl
      have hfx := Hacc.out
      rw [List.drop_eq_getElem_cons hjl, fixF] at hfx
      obtain ⟨pb, po, rfl, hpr⟩ := (Ho.out.below Hb.out) (by intro e; have := congrArg List.length e; rw [rpcells_len, List.length_nil, Hn.out] at this; omega)
      have c0 := hpr _ _ (rpcells_get q' j _ 0 hg (by omega))
      have c1 := hpr _ _ (rpcells_get q' j _ 1 hg (by omega))
      have c2 := hpr _ _ (rpcells_get q' j _ 2 hg (by omega))
      rw [Nat.add_zero] at c0
      rw [← Nat.add_assoc] at c1 c2
      have hkd := Hkd.out q'[j] (List.getElem_mem hjl)
      have Hlel : Hid (q'[j].letter.length ≤ 4) := Hlet.out q'[j] (List.getElem_mem hjl)
      generalize q'[j] = x at *
      obtain ⟨kd, le⟩ := x
      simp only [rpcell, List.getElem?_cons_zero, List.getElem?_cons_succ] at c0 c1 c2 hfx hkd
      clear hpr hg hjl
      rcases hkd with rfl | rfl | rfl
      · rw [if_pos rfl] at hfx
        have Hfx : Hid (F = (acc ++ le) ++ fixF (q'.drop (j + 1))) := by
          show _ = _
          rw [hfx, List.append_assoc]
        clear hfx
        have hal : acc.length ≤ n' * 4 := by
          have h1 := Hfl.out
          rw [Hacc.out, List.length_append] at h1
          omega
        have hll := Hlel.out
        have hz1 : (St8 acc).size ≤ 4000000 := by rw [St8_size]; omega
        have hz2 : (St8 le).size ≤ 4 := by rw [St8_size]; exact hll
        have hadd := fun w' => run_string_add_sum (P := Tryd.prog) (w := w') (St8 acc) (St8 le) (by omega)
        rw [St8_append] at hadd
        go_wp2_with fail
        go_roundw
        case rel => exact ⟨j + 1, acc ++ le, rfl, by go_num, by omega, Hfx, Hb⟩
        case measure => simp [intOf]; omega
      · rw [if_neg (by decide), List.append_nil] at hfx
        subst hfx
        go_wp2_with fail
        go_ret3
        exact ⟨⟨false, rfl⟩, Hb1.out.trans (Hb.out.mono Hb1.out.size)⟩
      · rw [if_neg (by decide), List.append_nil] at hfx
        subst hfx
        go_wp2_with fail
        go_ret3
        exact ⟨⟨false, rfl⟩, Hb1.out.trans (Hb.out.mono Hb1.out.size)⟩
    · obtain rfl : j = n' := by omega
      have hfx := Hacc.out
      rw [List.drop_eq_nil_of_le (by rw [Hn.out]; omega), fixF, List.append_nil] at hfx
      subst hfx
      go_wp2_with fail
      go_ret3
      exact ⟨⟨true, rfl⟩, Hb1.out.trans (Hb.out.mono Hb1.out.size)⟩
end Go.Proofs.YtipnglidepfkbaaDoor
