/- The walks of the reference's store, on: write, flip. -/
import Derived.Test.YtjjmnjgkodiibaaRStV
namespace Go.Proofs.Ytjjmnjgkodiibaa
open Go.RowKit

attribute [local go_sem ↓] Go.wp_at_zero Go.wp_at_succ

set_option maxRecDepth 100000 in
theorem rwrite_c (B bs : Nat) (s : Pg.St) (i : Int) (A : Option Addr) (b : List UInt8) (n c : Nat) (w : World) (h : RSto w B bs s) (h1 : -9223372036854775808 ≤ i) (h2 : i ≤ 9223372036854775807) (hn : b.length = n) (hr : Rd w A (Bs b)) (hB : B ≤ w.heap.size) (hn9 : n ≤ 9223372036854775807) :
    Calls Try.prog 74 #[.pointer (some ⟨bs, 0, none⟩), .int .i64 i, .slice A n c] w fun e w' => e = .returned (.int .i64 (Pg.writeE s i b)) ∧ RSto w' B bs (Pg.writeS s i b) ∧ Keeps RefT B w w' := by
  obtain ⟨bp, h⟩ := h
  have hc := h.st.cell 0
  simp only [List.getElem?_cons_zero] at hc
  have hm := h.most
  have Hh := Lib.hid h
  have Hn := Lib.hid hn
  clear hn
  cases e : Pg.at_ s i with
  | none =>
    have hE : Hid (Pg.writeE s i b = 2) := by show _ = _; unfold Pg.writeE; rw [e]
    have hS : Hid (Pg.writeS s i b = s) := by show _ = _; unfold Pg.writeS; rw [e]
    have hs : Hid ((Pg.at_ s i).isSome = false) := by show _ = _; rw [e]; rfl
    clear h e
    go_enter Try.func74, Try.ntmps74
    go_wp2_with fail
    refine (rhas_any B bs s i w ⟨bp, Hh.out⟩ h1 h2).mono ?_
    rw [hs.out]
    rintro e w' ⟨rfl, rfl⟩
    go_wp2_with fail
    go_ret
    rw [hE.out, hS.out]
    exact ⟨rfl, ⟨bp, Hh.out⟩, Keeps.refl _ _ _⟩
  | some l =>
    have hs : Hid ((Pg.at_ s i).isSome = true) := by show _ = _; rw [e]; rfl
    obtain ⟨h0, hlt, hat⟩ := Pg.at_some e
    by_cases h56 : 56 < n
    · have hE : Hid (Pg.writeE s i b = 3) := by show _ = _; unfold Pg.writeE; rw [e, Hn.out]; exact if_pos h56
      have hS : Hid (Pg.writeS s i b = s) := by show _ = _; unfold Pg.writeS; rw [e, Hn.out]; exact if_pos h56
      clear h e hat
      go_enter Try.func74, Try.ntmps74
      go_wp2_with fail
      refine (rhas_any B bs s i w ⟨bp, Hh.out⟩ h1 h2).mono ?_
      rw [hs.out]
      rintro e w' ⟨rfl, rfl⟩
      go_wp2_with fail
      go_ret
      rw [hE.out, hS.out]
      exact ⟨rfl, ⟨bp, Hh.out⟩, Keeps.refl _ _ _⟩
    · have hE : Hid (Pg.writeE s i b = 0) := by show _ = _; unfold Pg.writeE; rw [e, Hn.out]; exact if_neg h56
      have hS : Hid (Pg.writeS s i b = s.set i.toNat (some (Pg.page i.toNat b))) := by show _ = _; unfold Pg.writeS; rw [e, Hn.out]; exact if_neg h56
      obtain ⟨k, rfl⟩ := Int.eq_ofNat_of_zero_le h0
      rw [Int.toNat_natCast] at hlt hat hS
      have ho2 := (h.on hat).2
      have hf2 := h.row.frozen (k * 2 + 1)
      have hkI : (k : Int) < (List.length s : Int) := by omega
      have hne := h.ne
      have Hat := Lib.hid hat
      clear h e hat
      go_enter Try.func74, Try.ntmps74
      go_wp2_with fail
      refine (rhas_any B bs s k w ⟨bp, Hh.out⟩ h1 h2).mono ?_
      rw [hs.out]
      rintro e w' ⟨rfl, rfl⟩
      go_wp2_with fail
      go_region_held3 (fun w' => w'.cell? ⟨bs, 0, none⟩ = some (.slice (some ⟨bp, 0, none⟩) (List.length s) (List.length s)))
        (first | assumption | exact (hbl.cell (p := ⟨bs, 0, none⟩) (Blk.lt Hh.out.st)).trans hc | exact (World.cell?_setCell_other _ _ _ _ (fun e => hne (congrArg Addr.block e).symm)).trans ((hbl.cell (p := ⟨bs, 0, none⟩) (Blk.lt Hh.out.st)).trans hc))
        ((go_at_call 50; refine (rlay_any k A b n c _ Hn.out (by exact hr) (by omega) (by omega)).mono ?_; rintro e w1 ⟨rfl, hbl⟩; have hp1 := (hbl.cell (p := ⟨bp, k * 2 + 1, none⟩) (Blk.lt Hh.out.row)).trans ho2; have hf1 := (hbl.frozen (p := ⟨bp, k * 2 + 1, none⟩) (Blk.lt Hh.out.row)).trans hf2))
      go_wp2_with fail
      go_ret
      rw [hE.out, hS.out]
      have hbw : Below w.heap.size w w1 := ⟨hbl.os, hbl.tape, hbl.output, hbl.size, hbl.block⟩
      have hlp := Pg.length_page k (l := b) (by rw [Hn.out]; omega)
      have hst := (Hh.out.below hbw).str Hat.out (Pg.page k b) hlp
      exact ⟨rfl, ⟨bp, hst⟩, ((Keeps.refl RefT B w).then_below hbw).setCell (Hh.out.below hbw).row (by simp) Hh.out.hp _⟩

end Go.Proofs.Ytjjmnjgkodiibaa
