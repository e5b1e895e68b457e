/- The walk of a reader's Num. The walks of a reader's Int and Text, and of cell.Take. -/
import Derived.Test.YtojppmnmhdgnnaaGreatMOwXC
import Derived.Test.YtojppmnmhdgnnaaGreatMOcLW
import Derived.Test.YtojppmnmhdgnnaaGreatMOcPT
import Derived.Test.YtojppmnmhdgnnaaGreatMStRd
import Derived.Laws.DeepNot64
namespace Go.Proofs.YtojppmnmhdgnnaaGreat
set_option linter.unusedVariables false
set_option linter.unusedSimpArgs false
open Go.RowKit

attribute [local go_sem ↓] Go.wp_at_zero Go.wp_at_succ

/-- How Num ends. -/
def NumOK (p : Nat) (l : List UInt8) (bad : Bool) (w : World) (e : Ending) (w' : World) : Prop :=
  ((takeNum l = none ∧ e = .returned (.int .u64 0) ∧ RdrBad w' p) ∨ ∃ m u, takeNum l = some (m, u) ∧ e = .returned (.int .u64 (m : Nat)) ∧ Rdr w' p u bad) ∧ Keeps RdT p w w'

theorem num_nil (p : Nat) (bad : Bool) (w : World) (h : Rdr w p [] bad) : Calls Tryz.prog 30 #[.pointer (some ⟨p, 0, none⟩)] w fun e w' => NumOK p [] bad w e w' := by
  have hf := Lib.hid (rdr_fail p [] bad w h)
  obtain ⟨A, n, c, h1, _, hl, _⟩ := h
  obtain rfl : 0 = n := hl
  have k0 := h1.cell 0
  simp only [List.getElem?_cons_zero, List.getElem?_cons_succ] at k0
  clear h1
  go_enter Tryz.func30, Tryz.ntmps30
  go_wp2_with fail
  refine hf.out.mono ?_
  rintro e w1 ⟨rfl, hr1, hk1⟩
  go_wp2_with fail
  go_ret
  exact ⟨.inl ⟨rfl, rfl, hr1⟩, hk1⟩

set_option maxRecDepth 100000 in
theorem num_small (p : Nat) (f : UInt8) (t : List UInt8) (bad : Bool) (w : World) (h : Rdr w p (f :: t) bad) (h248 : f.toNat < 248) : Calls Tryz.prog 30 #[.pointer (some ⟨p, 0, none⟩)] w fun e w' => NumOK p (f :: t) bad w e w' := by
  have htn : Hid (takeNum (f :: t) = some (f.toNat, t)) := by show _ = _; rw [takeNum, if_pos h248]
  obtain ⟨A, n, c, h1, h2, hl, hnc, hc, _⟩ := h
  obtain ⟨b, o, rfl, _, _, c0⟩ := h2.rd.get (k := 0) (by simp)
  simp only [List.map_cons, List.getElem_cons_zero, Nat.add_zero, B] at c0
  have hn : 0 < n := by rw [← hl]; simp
  have k0 := h1.cell 0
  have f0 := h1.frozen 0
  simp only [List.getElem?_cons_zero, List.getElem?_cons_succ] at k0
  have hsk := Lib.hid (fun q hq => Rdr.skip h1 h2 hl hnc hc (k := 1) (by omega) q hq)
  rw [List.drop_one, List.tail_cons] at hsk
  generalize f.toNat = F at *
  clear h1 h2 hl
  by_cases hc1 : c = 1
  · subst hc1
    obtain rfl : n = 1 := by omega
    have hs := hsk.out (some ⟨b, o, none⟩) (by rw [if_pos rfl])
    have Hs := Lib.hid hs
    clear hs hsk
    go_enter Tryz.func30, Tryz.ntmps30
    go_wp2_with fail
    go_ret
    exact ⟨.inr ⟨F, t, htn.out, rfl, Hs.out.1⟩, Hs.out.2⟩
  · have hs := hsk.out (some ⟨b, o + 1, none⟩) (by rw [if_neg (fun e => hc1 e.symm)])
    have Hs := Lib.hid hs
    clear hs hsk
    go_enter Tryz.func30, Tryz.ntmps30
    go_wp2_with fail
    go_ret
    exact ⟨.inr ⟨F, t, htn.out, rfl, Hs.out.1⟩, Hs.out.2⟩

set_option maxHeartbeats 4000000 in
set_option maxRecDepth 100000 in
theorem num_great (p : Nat) (f : UInt8) (t : List UInt8) (bad : Bool) (w : World) (h : Rdr w p (f :: t) bad) (h248 : ¬ f.toNat < 248) : Calls Tryz.prog 30 #[.pointer (some ⟨p, 0, none⟩)] w fun e w' => NumOK p (f :: t) bad w e w' := by
  have hf8 := f.toNat_lt
  obtain ⟨k, hk, hk1, hk8⟩ : ∃ k : Nat, f.toNat = k + 247 ∧ 1 ≤ k ∧ k ≤ 8 := ⟨f.toNat - 247, by omega, by omega, by omega⟩
  have htn : Hid (takeNum (f :: t) = if t.length < k then none else if valB (t.take k) < 248 ∨ Lib.bitLen (valB (t.take k)) ≤ 8 * (k - 1) then none else some (valB (t.take k), t.drop k)) := by
    show _ = _
    rw [takeNum, if_neg h248, show f.toNat - 247 = k from by omega, show f.toNat - 248 = k - 1 from by omega]
  have hf := Lib.hid (fun w' (h' : Rdr w' p (f :: t) bad) => rdr_fail p (f :: t) bad w' h')
  have Hr := Lib.hid h
  obtain ⟨A, n, c, h1, h2, hl, hnc, hc, _⟩ := h
  obtain ⟨b, o, rfl, _, hrr, c0⟩ := h2.rd.get (k := 0) (by simp)
  simp only [List.map_cons, List.getElem_cons_zero, Nat.add_zero, B] at c0
  rw [hk] at c0
  have hn : t.length + 1 = n := by rw [← hl]; simp
  have Hn := Lib.hid hn
  have k0 := h1.cell 0
  have f0 := h1.frozen 0
  simp only [List.getElem?_cons_zero, List.getElem?_cons_succ] at k0
  have hsk := Lib.hid (fun q (hk' : k + 1 ≤ n) hq => Rdr.skip h1 h2 hl hnc hc (k := k + 1) hk' q hq)
  rw [List.drop_succ_cons] at hsk
  have hcell : Hid (∀ j (hj : j < t.length), w.cell? ⟨b, o + 1 + j, none⟩ = some (.int .u8 (t[j].toNat : Int))) := fun j hj => by
    have := hrr (j + 1) (B t[j]) (by
      show ((f :: t).map B)[j + 1]? = _
      rw [List.getElem?_map, List.getElem?_cons_succ, List.getElem?_eq_getElem hj]
      rfl)
    rw [show o + 1 + j = o + (j + 1) from by omega]
    exact this
  have z1 : (k : Int) + 247 - 248 + 1 = (k : Int) := by omega
  have z2 : ¬ (k : Int) + 247 < 248 := by omega
  have c0 : w.cell? ⟨b, o, none⟩ = some (.int .u8 ((k : Int) + 247)) := by rw [c0]; congr 2
  clear h1 h2 hl hrr h248 hf8 hk hn
  have hnp : 0 < n := by have := Hn.out; omega
  have z3 : ((n : Int) == 0) = false := by rw [beq_eq_false_iff_ne]; omega
  by_cases hlen : n ≤ k
  · have hno : Hid (takeNum (f :: t) = none) := by show _ = _; rw [htn.out, if_pos (by have := Hn.out; omega)]
    have hlenI : (n : Int) ≤ (k : Int) := by omega
    have hfw := Lib.hid (hf.out w Hr.out)
    clear hf hsk hcell
    go_enter Tryz.func30, Tryz.ntmps30
    go_wp2_with fail
    refine hfw.out.mono ?_
    rintro e w1 ⟨rfl, hr1, hk1⟩
    go_wp2_with fail
    go_ret
    exact ⟨.inl ⟨hno.out, rfl, hr1⟩, hk1⟩
  · have hv8 := valB_small8 (t := t) hk8
    have htn2 : Hid (takeNum (f :: t) = if valB (t.take k) < 248 ∨ Lib.bitLen (valB (t.take k)) ≤ 8 * (k - 1) then none else some (valB (t.take k), t.drop k)) := by show _ = _; rw [htn.out, if_neg (by have := Hn.out; omega)]
    have hfw := Lib.hid (hf.out w Hr.out)
    have hc2 : 1 < c := by omega
    have hlenI : ¬ (n : Int) ≤ (k : Int) := by omega
    have hkn : k + 1 ≤ n := by omega
    clear htn hf
    go_enter Tryz.func30, Tryz.ntmps30
    go_wp2_with fail
    go_loop [5, 57] (fun v i => ∃ j : Nat, j ≤ k ∧ i = .int .i64 j ∧ v = .int .u64 (valB (t.take j) : Nat)) (fun _ i => k - (intOf i).toNat)
    case atStart => exact ⟨0, by omega, rfl, rfl⟩
    case round =>
      obtain ⟨j, hj, rfl, rfl⟩ := hrel
      by_cases hlt : j < k
      · have hjt : j < t.length := by have := Hn.out; omega
        have cj := hcell.out j hjt
        have hv := valB_take hjt
        have hs := valB_small (t := t) (j := j) (by omega)
        have h8 := t[j].toNat_lt
        generalize t[j].toNat = C at *
        generalize hV : valB (t.take j) = V at *
        have Hv := Lib.hid hv
        have o1 : bits .or .u64 ((V : Int) * 256) (C : Int) = ((V * 256 + C : Nat) : Int) := by
          have := or_byte hs (show C < 256 by omega)
          rwa [show ((V * 256 : Nat) : Int) = (V : Int) * 256 from by omega] at this
        have o2 : IntKind.u64.wrap ((V : Int) * 256) = (V : Int) * 256 := by rw [IntKind.wrap_u64]; omega
        have o3 : ((V : Int) * 256) % 18446744073709551616 = (V : Int) * 256 := by omega
        clear hv hV
        go_wp2_with fail
        go_round
        case rel => exact ⟨j + 1, by omega, by go_num, by rw [Hv.out]; congr 1⟩
        case measure => simp [intOf]; omega
      · obtain rfl : j = k := by omega
        have hbit := Lib.bitLen_le (valB (t.take j)) 64 (Nat.le_refl _) hv8
        generalize hV : valB (t.take j) = V at *
        have HV := Lib.hid hV
        clear hV
        by_cases h2 : V < 248
        · have hno : Hid (takeNum (f :: t) = none) := by show _ = _; rw [htn2.out, if_pos (.inl h2)]
          clear hsk hcell htn2
          go_wp2_with fail
          refine hfw.out.mono ?_
          rintro e w1 ⟨rfl, hr1, hk1⟩
          go_wp2_with fail
          go_ret
          exact ⟨.inl ⟨hno.out, rfl, hr1⟩, hk1⟩
        · have hlen64 := Lib.hid (len64_any (V : Int) w (by omega) (by omega))
          by_cases h3 : Lib.bitLen V ≤ 8 * (j - 1)
          · have hno : Hid (takeNum (f :: t) = none) := by show _ = _; rw [htn2.out, if_pos (.inr h3)]
            have h3' : (Lib.bitLen V : Int) ≤ 8 * ((j : Int) - 1) := by omega
            have hlv := hlen64.out
            rw [Int.toNat_natCast] at hlv
            have hlv := Lib.hid hlv
            generalize Lib.bitLen V = BL at *
            clear hsk hcell htn2 hlen64
            go_wp2_with fail
            refine hlv.out.mono ?_
            rintro e w' ⟨rfl, rfl⟩
            go_wp2_with fail
            refine hfw.out.mono ?_
            rintro e w1 ⟨rfl, hr1, hk1⟩
            go_wp2_with fail
            go_ret
            exact ⟨.inl ⟨hno.out, rfl, hr1⟩, hk1⟩
          · have hyes : Hid (takeNum (f :: t) = some (V, t.drop j)) := by show _ = _; rw [htn2.out, if_neg (by omega)]
            have h3' : ¬ (Lib.bitLen V : Int) ≤ 8 * ((j : Int) - 1) := by omega
            have hlv := hlen64.out
            rw [Int.toNat_natCast] at hlv
            have hlv := Lib.hid hlv
            generalize Lib.bitLen V = BL at *
            by_cases hcj : c = j + 1
            · subst hcj
              obtain rfl : n = j + 1 := by omega
              have hs := hsk.out (some ⟨b, o, none⟩) (by omega) (by rw [if_pos rfl])
              rw [Nat.sub_self] at hs
              have Hs := Lib.hid hs
              clear hs hsk hcell htn2 hlen64 hfw
              go_wp2_with fail
              refine hlv.out.mono ?_
              rintro e w' ⟨rfl, rfl⟩
              go_wp2_with fail
              go_ret
              exact ⟨.inr ⟨V, _, hyes.out, rfl, Hs.out.1⟩, Hs.out.2⟩
            · have hs := hsk.out (some ⟨b, o + (j + 1), none⟩) (by omega) (by rw [if_neg (fun e => hcj e.symm)])
              have Hs := Lib.hid hs
              clear hs hsk hcell htn2 hlen64 hfw
              go_wp2_with fail
              refine hlv.out.mono ?_
              rintro e w' ⟨rfl, rfl⟩
              go_wp2_with fail
              go_ret
              exact ⟨.inr ⟨V, _, hyes.out, rfl, Hs.out.1⟩, Hs.out.2⟩

theorem rdr_num (p : Nat) (l : List UInt8) (bad : Bool) (w : World) (h : Rdr w p l bad) : Calls Tryz.prog 30 #[.pointer (some ⟨p, 0, none⟩)] w fun e w' => NumOK p l bad w e w' := by
  cases l with
  | nil => exact num_nil p bad w h
  | cons f t =>
    by_cases hf : f.toNat < 248
    · exact num_small p f t bad w h hf
    · exact num_great p f t bad w h hf
end Go.Proofs.YtojppmnmhdgnnaaGreat
namespace Go.Proofs.YtojppmnmhdgnnaaGreat
set_option linter.unusedVariables false
set_option linter.unusedSimpArgs false
open Go.RowKit

attribute [local go_sem ↓] Go.wp_at_zero Go.wp_at_succ

theorem i64_xor_not (a : Nat) (ha : a < 9223372036854775808) : bits .xor .i64 (a : Int) (-1) = -1 - (a : Int) := by
  have h := i64_not a ha
  change IntKind.i64.wrap ((BitVec.ofInt 64 (-1) ^^^ BitVec.ofInt 64 (a : Int)).toNat : Int) = _ at h
  show IntKind.i64.wrap ((BitVec.ofInt 64 (a : Int) ^^^ BitVec.ofInt 64 (-1)).toNat : Int) = _
  rw [BitVec.xor_comm]
  exact h
theorem i64_xor_zero (a : Nat) (ha : a < 9223372036854775808) : bits .xor .i64 (a : Int) 0 = (a : Int) := by
  show IntKind.i64.wrap ((BitVec.ofInt 64 (a : Int) ^^^ BitVec.ofInt 64 0).toNat : Int) = _
  have h1 : BitVec.ofInt 64 0 = 0#64 := by decide
  rw [h1, BitVec.xor_zero, ofInt_u64 a (by omega), IntKind.wrap_i64]
  omega

/-- How Int ends. -/
def IntOK (p : Nat) (l : List UInt8) (bad : Bool) (w : World) (e : Ending) (w' : World) : Prop :=
  ((takeNum l = none ∧ e = .returned (.int .i64 0) ∧ RdrBad w' p) ∨ ∃ m u, takeNum l = some (m, u) ∧ e = .returned (.int .i64 (unzig m)) ∧ Rdr w' p u bad) ∧ Keeps RdT p w w'
theorem rdr_int (p : Nat) (l : List UInt8) (bad : Bool) (w : World) (h : Rdr w p l bad) : Calls Tryz.prog 34 #[.pointer (some ⟨p, 0, none⟩)] w fun e w' => IntOK p l bad w e w' := by
  have hn := Lib.hid (rdr_num p l bad w h)
  clear h
  go_enter Tryz.func34, Tryz.ntmps34
  go_wp2_with fail
  refine hn.out.mono ?_
  rintro e w1 ⟨⟨ht, rfl, hr⟩ | ⟨m, u, ht, rfl, hr⟩, hk⟩
  · have Ht := Lib.hid ht
    have a1 : bits .and .u64 (0 : Int) 1 = 0 := by decide
    have a2 : bits .xor .i64 (0 : Int) 0 = 0 := by decide
    clear ht
    go_wp2_with fail
    go_ret
    exact ⟨.inl ⟨Ht.out, rfl, hr⟩, hk⟩
  · have hm := (takeNum_lt ht).1
    have Ht := Lib.hid ht
    have a1 : bits .and .u64 ((m : Nat) : Int) 1 = ((m % 2 : Nat) : Int) := by
      have := bits_and_u64_nat m 1 hm (by omega)
      rw [Nat.and_one_is_mod] at this
      exact this
    have hu : Hid (unzig m = if m % 2 = 0 then ((m / 2 : Nat) : Int) else -((m / 2 : Nat) : Int) - 1) := rfl
    have d1 : (m : Int) / 2 = ((m / 2 : Nat) : Int) := by omega
    have d2 : IntKind.i64.wrap ((m / 2 : Nat) : Int) = ((m / 2 : Nat) : Int) := by rw [IntKind.wrap_i64]; omega
    by_cases h2 : m % 2 = 0
    · have a3 : bits .xor .i64 ((m / 2 : Nat) : Int) 0 = ((m / 2 : Nat) : Int) := i64_xor_zero (m / 2) (by omega)
      have hu2 : Hid (unzig m = ((m / 2 : Nat) : Int)) := by show _ = _; rw [hu.out, if_pos h2]
      rw [h2] at a1
      generalize m / 2 = H at *
      clear ht hu h2
      go_wp2_with fail
      go_ret
      exact ⟨.inr ⟨m, u, Ht.out, by rw [hu2.out]; rfl, hr⟩, hk⟩
    · have h1 : m % 2 = 1 := by omega
      have a3 : bits .xor .i64 ((m / 2 : Nat) : Int) (-1) = -1 - ((m / 2 : Nat) : Int) := i64_xor_not (m / 2) (by omega)
      have hu2 : Hid (unzig m = -1 - ((m / 2 : Nat) : Int)) := by show _ = _; rw [hu.out, if_neg h2]; omega
      rw [h1] at a1
      generalize m / 2 = H at *
      clear ht hu h2 h1
      go_wp2_with fail
      go_ret
      exact ⟨.inr ⟨m, u, Ht.out, by rw [hu2.out]; rfl, hr⟩, hk⟩

theorem rdTake8 {w : World} {A : Option Addr} {u : List UInt8} (h : Rd w A (Bs u)) (m : Nat) : Rd w A (Bs (u.take m)) := by
  intro hn
  obtain ⟨b, o, e, hr⟩ := h (fun h0 => hn (by have e : u = [] := (by simpa using h0); rw [e]; simp))
  have := Rd.part hr 0 m
  rw [List.drop_zero, Nat.add_zero, ← List.map_take] at this
  exact ⟨b, o, e, this⟩
/-- How Text ends. -/
def TextOK (p : Nat) (l : List UInt8) (bad : Bool) (w : World) (e : Ending) (w' : World) : Prop :=
  ((takeText l = none ∧ e = .returned (.string (St8 [])) ∧ RdrBad w' p) ∨ ∃ s u, takeText l = some (s, u) ∧ e = .returned (.string (St8 s)) ∧ Rdr w' p u bad) ∧ Keeps RdT p w w'
set_option maxHeartbeats 4000000 in
set_option maxRecDepth 100000 in
theorem rdr_text (p : Nat) (l : List UInt8) (bad : Bool) (w : World) (h : Rdr w p l bad) : Calls Tryz.prog 33 #[.pointer (some ⟨p, 0, none⟩)] w fun e w' => TextOK p l bad w e w' := by
  have hn := Lib.hid (rdr_num p l bad w h)
  clear h
  have htt : Hid (takeText l = match takeNum l with | none => none | some (m, u) => if 1024 < m ∨ u.length < m then none else some (u.take m, u.drop m)) := rfl
  go_enter Tryz.func33, Tryz.ntmps33
  go_wp2_with fail
  refine hn.out.mono ?_
  rintro e w1 ⟨⟨ht, rfl, hr⟩ | ⟨m, u, ht, rfl, hr⟩, hk⟩
  · have Ht : Hid (takeText l = none) := by show _ = _; rw [htt.out, ht]
    have k0 := hr.cell 0
    have f0 := hr.frozen 0
    have h2 := hr.set_ 0 (.slice none 0 0)
    simp only [List.getElem?_cons_zero, List.set_cons_zero] at k0 h2
    have hk2 := hk.setCell hr (i := 0) (by simp) (Nat.le_refl _) (.slice none 0 0)
    have hcv := run_str w1 none [] 0 0 rfl (Rd.nil _ _)
    have H2 := Lib.hid h2
    have Hk2 := Lib.hid hk2
    clear ht hr h2 hk hk2 htt
    go_wp2_with fail
    go_ret
    exact ⟨.inl ⟨Ht.out, rfl, H2.out⟩, Hk2.out⟩
  · have hm := (takeNum_lt ht).1
    have Hr := Lib.hid hr
    have Hk := Lib.hid hk
    obtain ⟨A, n, c, h1, h2, hl, hnc, hc, hA⟩ := hr
    have k0 := h1.cell 0
    have f0 := h1.frozen 0
    simp only [List.getElem?_cons_zero] at k0
    have hw : IntKind.u64.wrap (n : Int) = (n : Int) := by rw [IntKind.wrap_u64]; omega
    by_cases hbad : 1024 < m ∨ n < m
    · have Ht : Hid (takeText l = none) := by show _ = _; rw [htt.out, ht]; dsimp only; rw [if_pos (by rw [hl]; exact hbad)]
      have hf := Lib.hid (rdr_fail p u bad w1 Hr.out)
      clear ht htt h1 h2 hl hk
      by_cases h10 : 1024 < m
      · go_wp2_with fail
        refine hf.out.mono ?_
        rintro e w2 ⟨rfl, hr2, hk2⟩
        go_wp2_with fail
        go_ret
        exact ⟨.inl ⟨Ht.out, rfl, hr2⟩, Hk.out.trans hk2⟩
      · have hnm : n < m := by omega
        clear hbad
        go_wp2_with fail
        refine hf.out.mono ?_
        rintro e w2 ⟨rfl, hr2, hk2⟩
        go_wp2_with fail
        go_ret
        exact ⟨.inl ⟨Ht.out, rfl, hr2⟩, Hk.out.trans hk2⟩
    · have Ht : Hid (takeText l = some (u.take m, u.drop m)) := by show _ = _; rw [htt.out, ht]; dsimp only; rw [if_neg (by rw [hl]; exact hbad)]
      have hm1 : ¬ 1024 < m := by omega
      have hm2 : ¬ n < m := by omega
      have hmn : m ≤ n := by omega
      have hmc : m ≤ c := by omega
      have hml : (u.take m).length = m := by rw [List.length_take]; omega
      clear ht htt hbad
      rcases hA with ⟨rfl, rfl⟩ | ⟨b, o, rfl⟩
      · obtain rfl : n = 0 := by omega
        obtain rfl : m = 0 := by omega
        have hu0 : u = [] := List.eq_nil_of_length_eq_zero hl
        subst hu0
        have hcv := run_str w1 none [] 0 0 rfl (Rd.nil _ _)
        have h3 := h1.set_ 0 (.slice none 0 0)
        simp only [List.set_cons_zero] at h3
        have hk3 := hk.setCell h1 (i := 0) (by simp) (Nat.le_refl _) (.slice none 0 0)
        have H3 := Lib.hid h3
        have Hk3 := Lib.hid hk3
        clear h1 h2 h3 hk hk3 hl
        go_wp2_with fail
        go_ret
        exact ⟨.inr ⟨[], [], Ht.out, rfl, ⟨none, 0, 0, H3.out, OwnX.nil _ _ _, rfl, Nat.le_refl _, by omega, .inl ⟨rfl, rfl⟩⟩⟩, Hk3.out⟩
      · have hcv := run_str w1 (some ⟨b, o, none⟩) (u.take m) m c hml (by have := rdTake8 h2.rd m; exact this)
        by_cases hcm : m = c
        · have hs := Rdr.skip h1 h2 hl hnc hc (k := m) hmn (some ⟨b, o, none⟩) (by rw [if_pos hcm])
          subst hcm
          obtain rfl : n = m := by omega
          rw [Nat.sub_self] at hs
          have Hs := Lib.hid hs
          clear h1 h2 hl hs hk
          go_wp2_with fail
          go_ret
          exact ⟨.inr ⟨_, _, Ht.out, rfl, Hs.out.1⟩, Hk.out.trans Hs.out.2⟩
        · have hs := Rdr.skip h1 h2 hl hnc hc (k := m) hmn (some ⟨b, o + m, none⟩) (by rw [if_neg hcm])
          have Hs := Lib.hid hs
          clear h1 h2 hl hs hk
          go_wp2_with fail
          go_ret
          exact ⟨.inr ⟨_, _, Ht.out, rfl, Hs.out.1⟩, Hk.out.trans Hs.out.2⟩
end Go.Proofs.YtojppmnmhdgnnaaGreat
