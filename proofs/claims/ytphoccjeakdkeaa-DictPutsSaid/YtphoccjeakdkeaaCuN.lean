/- The walk of a reader's Num. -/
import Derived.Test.YtphoccjeakdkeaaCuW
import Derived.Test.YtphoccjeakdkeaaOcL
namespace Go.Proofs.Ytphoccjeakdkeaa
open Go.RowKit

attribute [local go_sem ↓] Go.wp_at_zero Go.wp_at_succ

/-- How Num ends. -/
def NumOK (p : Nat) (l : List UInt8) (bad : Bool) (w : World) (e : Ending) (w' : World) : Prop :=
  ((takeNum l = none ∧ e = .returned (.int .u64 0) ∧ RdrBad w' p) ∨ ∃ m u, takeNum l = some (m, u) ∧ e = .returned (.int .u64 (m : Nat)) ∧ Rdr w' p u bad) ∧ Keeps RdT p w w'

theorem num_nil (p : Nat) (bad : Bool) (w : World) (h : Rdr w p [] bad) : Calls Try.prog 46 #[.pointer (some ⟨p, 0, none⟩)] w fun e w' => NumOK p [] bad w e w' := by
  have hf := Lib.hid (rdr_fail p [] bad w h)
  obtain ⟨A, n, c, h1, _, hl, _⟩ := h
  obtain rfl : 0 = n := hl
  have k0 := h1.cell 0
  simp only [List.getElem?_cons_zero, List.getElem?_cons_succ] at k0
  clear h1
  go_enter Try.func46, Try.ntmps46
  go_wp2_with fail
  refine hf.out.mono ?_
  rintro e w1 ⟨rfl, hr1, hk1⟩
  go_wp2_with fail
  go_ret
  exact ⟨.inl ⟨rfl, rfl, hr1⟩, hk1⟩

set_option maxRecDepth 100000 in
theorem num_small (p : Nat) (f : UInt8) (t : List UInt8) (bad : Bool) (w : World) (h : Rdr w p (f :: t) bad) (h248 : f.toNat < 248) : Calls Try.prog 46 #[.pointer (some ⟨p, 0, none⟩)] w fun e w' => NumOK p (f :: t) bad w e w' := by
  have htn : Hid (takeNum (f :: t) = some (f.toNat, t)) := by show _ = _; rw [takeNum, if_pos h248]
  obtain ⟨A, n, c, h1, h2, hl, hnc, hc, _⟩ := h
  obtain ⟨b, o, rfl, _, _, c0⟩ := h2.rd.get (k := 0) (by simp)
  simp only [List.map_cons, List.getElem_cons_zero, Nat.add_zero, B] at c0
  have hn : 0 < n := by rw [← hl]; simp
  have k0 := h1.cell 0
  have f0 := h1.frozen 0
  simp only [List.getElem?_cons_zero, List.getElem?_cons_succ] at k0
  have hsk := Lib.hid (fun q hq => Rdr.skip h1 h2 hl hnc hc (k := 1) (by omega) q hq)
  rw [List.drop_one, List.tail_cons] at hsk
  generalize f.toNat = F at *
  clear h1 h2 hl
  by_cases hc1 : c = 1
  · subst hc1
    obtain rfl : n = 1 := by omega
    have hs := hsk.out (some ⟨b, o, none⟩) (by rw [if_pos rfl])
    have Hs := Lib.hid hs
    clear hs hsk
    go_enter Try.func46, Try.ntmps46
    go_wp2_with fail
    go_ret
    exact ⟨.inr ⟨F, t, htn.out, rfl, Hs.out.1⟩, Hs.out.2⟩
  · have hs := hsk.out (some ⟨b, o + 1, none⟩) (by rw [if_neg (fun e => hc1 e.symm)])
    have Hs := Lib.hid hs
    clear hs hsk
    go_enter Try.func46, Try.ntmps46
    go_wp2_with fail
    go_ret
    exact ⟨.inr ⟨F, t, htn.out, rfl, Hs.out.1⟩, Hs.out.2⟩

set_option maxHeartbeats 4000000 in
set_option maxRecDepth 100000 in
theorem num_great (p : Nat) (f : UInt8) (t : List UInt8) (bad : Bool) (w : World) (h : Rdr w p (f :: t) bad) (h248 : ¬ f.toNat < 248) : Calls Try.prog 46 #[.pointer (some ⟨p, 0, none⟩)] w fun e w' => NumOK p (f :: t) bad w e w' := by
  have hf8 := f.toNat_lt
  obtain ⟨k, hk, hk1, hk8⟩ : ∃ k : Nat, f.toNat = k + 247 ∧ 1 ≤ k ∧ k ≤ 8 := ⟨f.toNat - 247, by omega, by omega, by omega⟩
  have htn : Hid (takeNum (f :: t) = if t.length < k then none else if valB (t.take k) < 248 ∨ Lib.bitLen (valB (t.take k)) ≤ 8 * (k - 1) then none else some (valB (t.take k), t.drop k)) := by
    show _ = _
    rw [takeNum, if_neg h248, show f.toNat - 247 = k from by omega, show f.toNat - 248 = k - 1 from by omega]
  have hf := Lib.hid (fun w' (h' : Rdr w' p (f :: t) bad) => rdr_fail p (f :: t) bad w' h')
  have Hr := Lib.hid h
  obtain ⟨A, n, c, h1, h2, hl, hnc, hc, _⟩ := h
  obtain ⟨b, o, rfl, _, hrr, c0⟩ := h2.rd.get (k := 0) (by simp)
  simp only [List.map_cons, List.getElem_cons_zero, Nat.add_zero, B] at c0
  rw [hk] at c0
  have hn : t.length + 1 = n := by rw [← hl]; simp
  have Hn := Lib.hid hn
  have k0 := h1.cell 0
  have f0 := h1.frozen 0
  simp only [List.getElem?_cons_zero, List.getElem?_cons_succ] at k0
  have hsk := Lib.hid (fun q (hk' : k + 1 ≤ n) hq => Rdr.skip h1 h2 hl hnc hc (k := k + 1) hk' q hq)
  rw [List.drop_succ_cons] at hsk
  have hcell : Hid (∀ j (hj : j < t.length), w.cell? ⟨b, o + 1 + j, none⟩ = some (.int .u8 (t[j].toNat : Int))) := fun j hj => by
    have := hrr (j + 1) (B t[j]) (by
      show ((f :: t).map B)[j + 1]? = _
      rw [List.getElem?_map, List.getElem?_cons_succ, List.getElem?_eq_getElem hj]
      rfl)
    rw [show o + 1 + j = o + (j + 1) from by omega]
    exact this
  have z1 : (k : Int) + 247 - 248 + 1 = (k : Int) := by omega
  have z2 : ¬ (k : Int) + 247 < 248 := by omega
  have c0 : w.cell? ⟨b, o, none⟩ = some (.int .u8 ((k : Int) + 247)) := by rw [c0]; congr 2
  clear h1 h2 hl hrr h248 hf8 hk hn
  have hnp : 0 < n := by have := Hn.out; omega
  have z3 : ((n : Int) == 0) = false := by rw [beq_eq_false_iff_ne]; omega
  by_cases hlen : n ≤ k
  · have hno : Hid (takeNum (f :: t) = none) := by show _ = _; rw [htn.out, if_pos (by have := Hn.out; omega)]
    have hlenI : (n : Int) ≤ (k : Int) := by omega
    have hfw := Lib.hid (hf.out w Hr.out)
    clear hf hsk hcell
    go_enter Try.func46, Try.ntmps46
    go_wp2_with fail
    refine hfw.out.mono ?_
    rintro e w1 ⟨rfl, hr1, hk1⟩
    go_wp2_with fail
    go_ret
    exact ⟨.inl ⟨hno.out, rfl, hr1⟩, hk1⟩
  · have hv8 := valB_small8 (t := t) hk8
    have htn2 : Hid (takeNum (f :: t) = if valB (t.take k) < 248 ∨ Lib.bitLen (valB (t.take k)) ≤ 8 * (k - 1) then none else some (valB (t.take k), t.drop k)) := by show _ = _; rw [htn.out, if_neg (by have := Hn.out; omega)]
    have hfw := Lib.hid (hf.out w Hr.out)
    have hc2 : 1 < c := by omega
    have hlenI : ¬ (n : Int) ≤ (k : Int) := by omega
    have hkn : k + 1 ≤ n := by omega
    clear htn hf
    go_enter Try.func46, Try.ntmps46
    go_wp2_with fail
    go_loop [5, 57] (fun v i => ∃ j : Nat, j ≤ k ∧ i = .int .i64 j ∧ v = .int .u64 (valB (t.take j) : Nat)) (fun _ i => k - (intOf i).toNat)
    case atStart => exact ⟨0, by omega, rfl, rfl⟩
    case round =>
      obtain ⟨j, hj, rfl, rfl⟩ := hrel
      by_cases hlt : j < k
      · have hjt : j < t.length := by have := Hn.out; omega
        have cj := hcell.out j hjt
        have hv := valB_take hjt
        have hs := valB_small (t := t) (j := j) (by omega)
        have h8 := t[j].toNat_lt
        generalize t[j].toNat = C at *
        generalize hV : valB (t.take j) = V at *
        have Hv := Lib.hid hv
        have o1 : bits .or .u64 ((V : Int) * 256) (C : Int) = ((V * 256 + C : Nat) : Int) := by
          have := or_byte hs (show C < 256 by omega)
          rwa [show ((V * 256 : Nat) : Int) = (V : Int) * 256 from by omega] at this
        have o2 : IntKind.u64.wrap ((V : Int) * 256) = (V : Int) * 256 := by rw [IntKind.wrap_u64]; omega
        have o3 : ((V : Int) * 256) % 18446744073709551616 = (V : Int) * 256 := by omega
        clear hv hV
        go_wp2_with fail
        go_round
        case rel => exact ⟨j + 1, by omega, by go_num, by rw [Hv.out]; congr 1⟩
        case measure => simp [intOf]; omega
      · obtain rfl : j = k := by omega
        have hbit := Lib.bitLen_le (valB (t.take j)) 64 (Nat.le_refl _) hv8
        generalize hV : valB (t.take j) = V at *
        have HV := Lib.hid hV
        clear hV
        by_cases h2 : V < 248
        · have hno : Hid (takeNum (f :: t) = none) := by show _ = _; rw [htn2.out, if_pos (.inl h2)]
          clear hsk hcell htn2
          go_wp2_with fail
          refine hfw.out.mono ?_
          rintro e w1 ⟨rfl, hr1, hk1⟩
          go_wp2_with fail
          go_ret
          exact ⟨.inl ⟨hno.out, rfl, hr1⟩, hk1⟩
        · have hlen64 := Lib.hid (len64_any (V : Int) w (by omega) (by omega))
          by_cases h3 : Lib.bitLen V ≤ 8 * (j - 1)
          · have hno : Hid (takeNum (f :: t) = none) := by show _ = _; rw [htn2.out, if_pos (.inr h3)]
            have h3' : (Lib.bitLen V : Int) ≤ 8 * ((j : Int) - 1) := by omega
            have hlv := hlen64.out
            rw [Int.toNat_natCast] at hlv
            have hlv := Lib.hid hlv
            generalize Lib.bitLen V = BL at *
            clear hsk hcell htn2 hlen64
            go_wp2_with fail
            refine hlv.out.mono ?_
            rintro e w' ⟨rfl, rfl⟩
            go_wp2_with fail
            refine hfw.out.mono ?_
            rintro e w1 ⟨rfl, hr1, hk1⟩
            go_wp2_with fail
            go_ret
            exact ⟨.inl ⟨hno.out, rfl, hr1⟩, hk1⟩
          · have hyes : Hid (takeNum (f :: t) = some (V, t.drop j)) := by show _ = _; rw [htn2.out, if_neg (by omega)]
            have h3' : ¬ (Lib.bitLen V : Int) ≤ 8 * ((j : Int) - 1) := by omega
            have hlv := hlen64.out
            rw [Int.toNat_natCast] at hlv
            have hlv := Lib.hid hlv
            generalize Lib.bitLen V = BL at *
            by_cases hcj : c = j + 1
            · subst hcj
              obtain rfl : n = j + 1 := by omega
              have hs := hsk.out (some ⟨b, o, none⟩) (by omega) (by rw [if_pos rfl])
              rw [Nat.sub_self] at hs
              have Hs := Lib.hid hs
              clear hs hsk hcell htn2 hlen64 hfw
              go_wp2_with fail
              refine hlv.out.mono ?_
              rintro e w' ⟨rfl, rfl⟩
              go_wp2_with fail
              go_ret
              exact ⟨.inr ⟨V, _, hyes.out, rfl, Hs.out.1⟩, Hs.out.2⟩
            · have hs := hsk.out (some ⟨b, o + (j + 1), none⟩) (by omega) (by rw [if_neg (fun e => hcj e.symm)])
              have Hs := Lib.hid hs
              clear hs hsk hcell htn2 hlen64 hfw
              go_wp2_with fail
              refine hlv.out.mono ?_
              rintro e w' ⟨rfl, rfl⟩
              go_wp2_with fail
              go_ret
              exact ⟨.inr ⟨V, _, hyes.out, rfl, Hs.out.1⟩, Hs.out.2⟩

theorem rdr_num (p : Nat) (l : List UInt8) (bad : Bool) (w : World) (h : Rdr w p l bad) : Calls Try.prog 46 #[.pointer (some ⟨p, 0, none⟩)] w fun e w' => NumOK p l bad w e w' := by
  cases l with
  | nil => exact num_nil p bad w h
  | cons f t =>
    by_cases hf : f.toNat < 248
    · exact num_small p f t bad w h hf
    · exact num_great p f t bad w h hf
end Go.Proofs.Ytphoccjeakdkeaa
