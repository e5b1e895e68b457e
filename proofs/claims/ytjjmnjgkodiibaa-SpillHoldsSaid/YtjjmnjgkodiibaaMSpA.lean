/- The walk of a writer's Add. -/
import Derived.Test.YtjjmnjgkodiibaaMSpWP
namespace Go.Proofs.Ytjjmnjgkodiibaa
open Go.RowKit

attribute [local go_sem ↓] Go.wp_at_zero Go.wp_at_succ

theorem may_cases {r : RowM} {n : Nat} (hn : r.length = n) : (32 < n ∧ mayR r = 3) ∨ (n ≤ 32 ∧ r.all rightV = false ∧ mayR r = 7) ∨ (n ≤ 32 ∧ r.all rightV = true ∧ mayR r = 0) := by
  unfold mayR
  by_cases h : 32 < n
  · exact .inl ⟨h, by rw [if_pos (by omega)]⟩
  · cases h2 : r.all rightV
    · exact .inr (.inl ⟨by omega, rfl, by rw [if_neg (by omega)]; simp⟩)
    · exact .inr (.inr ⟨by omega, rfl, by rw [if_neg (by omega)]; simp⟩)

set_option maxRecDepth 100000 in
theorem add_bad (S : Nat → Prop) (bs bw : Nat) (l : List Nat) (k ic : Nat) (I : Option Addr) (rest : List UInt8) (n rc : Nat) (R : Option Addr) (many : Int) (r : RowM) (rl c : Nat) (X : Option Addr) (w : World) (h : WrAt w S bs bw l k ic I rest n rc R many false) (hn : r.length = rl) (hX : Rd w X (rcells r)) (hc : rl ≤ c) (hc9 : c ≤ 9223372036854775807) (hm : mayR r ≠ 0) :
    Calls Try.prog 12 #[.pointer (some ⟨bw, 0, none⟩), .slice X rl c] w fun e w' => e = .returned (.int .i64 (mayR r)) ∧ Below w.heap.size w w' := by
  have hcl := Lib.hid (closed_any S bs bw l k ic I rest n rc R many false w h)
  have hmc := may_cases hn
  have hbad := Lib.hid (fun (h : rl ≤ 1000000) => rowbad_any r rl c X w hn hX h)
  generalize hM : mayR r = M at *
  clear h hn hX
  rcases hmc with ⟨h32, rfl⟩ | ⟨h32, ha, rfl⟩ | ⟨_, _, h0⟩
  · clear hbad
    go_enter Try.func12, Try.ntmps12
    go_wp2_with fail
    refine hcl.out.mono ?_
    rintro e w1 ⟨rfl, rfl⟩
    go_wp2_with fail
    go_ret
    exact ⟨rfl, Below.refl _ _⟩
  · rw [ha] at hbad
    go_enter Try.func12, Try.ntmps12
    go_wp2_with fail
    refine hcl.out.mono ?_
    rintro e w1 ⟨rfl, rfl⟩
    go_wp2_with fail
    refine (hbad.out (by omega)).mono ?_
    rintro e w2 ⟨rfl, hb2⟩
    go_wp2_with fail
    go_ret
    exact ⟨rfl, hb2⟩
  · exact absurd h0 hm

theorem add_nil (A : Option Addr) (n c : Nat) (w : World) :
    Calls Try.prog 12 #[.pointer none, .slice A n c] w fun e w' => e = .returned (.int .i64 2) ∧ w = w' := by
  go_enter Try.func12, Try.ntmps12
  go_wp2_with fail
  refine (closed_nil w).mono ?_
  rintro e w1 ⟨rfl, rfl⟩
  go_wp2_with fail
  go_ret
  exact ⟨rfl, rfl⟩
theorem add_off (bw : Nat) (r1 r2 r3 r4 : Value) (A : Option Addr) (n c : Nat) (w : World) (h : Blk w bw 83 [.pointer none, r1, r2, r3, r4]) :
    Calls Try.prog 12 #[.pointer (some ⟨bw, 0, none⟩), .slice A n c] w fun e w' => e = .returned (.int .i64 2) ∧ w = w' := by
  have hc := Lib.hid (closed_off bw r1 r2 r3 r4 w h)
  clear h
  go_enter Try.func12, Try.ntmps12
  go_wp2_with fail
  refine hc.out.mono ?_
  rintro e w1 ⟨rfl, rfl⟩
  go_wp2_with fail
  go_ret
  exact ⟨rfl, rfl⟩
theorem add_ended (S : Nat → Prop) (bs bw : Nat) (l : List Nat) (k ic : Nat) (I : Option Addr) (rest : List UInt8) (n rc : Nat) (R : Option Addr) (many : Int) (A : Option Addr) (n' c' : Nat) (w : World) (h : WrAt w S bs bw l k ic I rest n rc R many true) :
    Calls Try.prog 12 #[.pointer (some ⟨bw, 0, none⟩), .slice A n' c'] w fun e w' => e = .returned (.int .i64 2) ∧ w = w' := by
  have hc := Lib.hid (closed_any S bs bw l k ic I rest n rc R many true w h)
  clear h
  go_enter Try.func12, Try.ntmps12
  go_wp2_with fail
  refine hc.out.mono ?_
  rintro e w1 ⟨rfl, rfl⟩
  go_wp2_with fail
  go_ret
  exact ⟨rfl, rfl⟩

/-- How long the bytes are that no page holds yet. -/
def restLen (w : World) (bw : Nat) : Nat := match w.cell? ⟨bw, 2, none⟩ with | some (.slice _ n _) => n | _ => 0
theorem WrAt.restLen {w : World} {S : Nat → Prop} {bs bw : Nat} {l : List Nat} {k ic : Nat} {I : Option Addr} {rest : List UInt8} {n rc : Nat} {R : Option Addr} {many : Int} {ended : Bool} (h : WrAt w S bs bw l k ic I rest n rc R many ended) : restLen w bw = n := by
  have := h.blk.cell 2
  simp only [List.getElem?_cons_zero, List.getElem?_cons_succ] at this
  unfold Go.Proofs.Ytjjmnjgkodiibaa.restLen
  rw [this]

set_option maxHeartbeats 4000000 in
set_option maxRecDepth 100000 in
theorem add_c (S : Nat → Prop) (B bs bw : Nat) (s s' : Pg.St) (l l' : List Nat) (k ic : Nat) (I : Option Addr) (rest b' : List UInt8) (n rc : Nat) (R : Option Addr) (many : Nat) (r : RowM) (rl c : Nat) (X : Option Addr) (w : World) (h : WrAt w S bs bw l k ic I rest n rc R many false) (hs : Sto w B bs s) (hB : B ≤ w.heap.size) (hmine : Pg.Mine s l) (hy : ∀ j, w.heap.size ≤ j → S j) (hrest : n ≤ 1000) (hmany : many ≤ 1000000) (hn : r.length = rl) (hX : Rd w X (rcells r)) (hok : ∀ v ∈ r, v.ok) (hm : mayR r = 0) (hlay : Pg.lay s l (rest ++ rowB r) = (s', l', b')) :
    Calls Try.prog 12 #[.pointer (some ⟨bw, 0, none⟩), .slice X rl c] w fun e w' => (∃ k' ic' I' n' rc' R', (b'.length < 56 ∧ e = .returned (.int .i64 0) ∧ Sto w' B bs s' ∧ WrAt w' S bs bw l' k' ic' I' b' n' rc' R' ((many + 1 : Nat) : Int) false) ∨
      (56 ≤ b'.length ∧ e = .returned (.int .i64 4) ∧ Sto w' B bs (Pg.dropS s' (l'.map Int.ofNat)) ∧ WrAt w' S bs bw l' k' ic' I' b' n' rc' R' ((many + 1 : Nat) : Int) true)) ∧ Turns S StT B w w' := by
  obtain ⟨h32, hall⟩ := may_right hm
  have hle := rowB_le hall hok h32
  rw [hn] at h32
  have hcl := Lib.hid (closed_any S bs bw l k ic I rest n rc R many false w h)
  have hbad := Lib.hid (rowbad_any r rl c X w hn hX (by omega))
  rw [List.all_eq_true.2 hall] at hbad
  have hby := Lib.hid (fun w' (h : Rd w' X (rcells r)) => bytes_any r rl c X w' hn h h32 hall hok)
  have hnl := h.nlen
  have H := Lib.hid h
  have Hs := Lib.hid hs
  have HX := Lib.hid hX
  have Hlay := Lib.hid hlay
  have Hmine := Lib.hid hmine
  generalize hL : (rowB r).length = L at hle
  have HL := Lib.hid hL
  clear h hn hX hok hm hlay hs hmine hall hL
  go_enter Try.func12, Try.ntmps12
  go_wp2_with fail
  refine hcl.out.mono ?_
  rintro e w1 ⟨rfl, rfl⟩
  go_wp2_with fail
  refine hbad.out.mono ?_
  rintro e w2 ⟨rfl, hb2⟩
  have h2 := H.out.below hb2
  have hs2 := Hs.out.below hb2
  have c2 := h2.blk.cell 2
  simp only [List.getElem?_cons_zero, List.getElem?_cons_succ] at c2
  have H2 := Lib.hid h2
  have Hs2 := Lib.hid hs2
  have HX2 := Lib.hid (HX.out.below hb2)
  have Ht2 := Lib.hid (Turns.of_below (S := S) (T := StT) (B := B) hb2)
  have hz2 := hb2.size
  clear h2 hs2 hb2 H Hs HX hcl hbad
  go_wp2_with fail
  go_region_law
    (first | (go_simp; go_at_call 44; refine (hby.out _ (by exact HX2.out.drewN 1)).mono ?_; rintro e w3 ⟨A3, L3, c3, rfl, hl3, ho3, hb3'⟩; have hb3 : Below w2.heap.size w2 w3 := ⟨hb3'.os, hb3'.tape, hb3'.output, hb3'.size, hb3'.block⟩; have h3 := H2.out.below hb3; have j2 := h3.blk.cell 2; simp only [List.getElem?_cons_zero, List.getElem?_cons_succ] at j2)
           | (refine step_apx rfl (.tmp 20) (.tmp 22) 58 rfl E8 0 R n rc (Bs rest) (by simp [Act.eval, Act.put]) h3.rst A3 L3 c3 (Bs (rowB r)) (by simp [Act.eval, Act.put]) (by rw [List.length_map]; exact hl3) ho3.rd (Bs_one _) (n + L3) rfl (Bs (rest ++ rowB r)) (by simp) (by have := HL.out; omega) (by omega) (Nat.zero_le _) ?_; intro A4 c4 w4 ho4 hg4 hat4; have j3 := (h3.blk.keeps (by decide) (h3.rst.apx_keeps hg4)).cell 2; have j3f := (h3.blk.keeps (by decide) (h3.rst.apx_keeps hg4)).frozen 2; simp only [List.getElem?_cons_zero, List.getElem?_cons_succ] at j3))
  · obtain ⟨w5, hw5⟩ : ∃ x, x = w4.setCell ⟨bw, 2, none⟩ (.slice A4 (n + L3) c4) := ⟨_, rfl⟩
    rw [← hw5]
    have hK4 := h3.rst.apx_keeps hg4
    have hB4 := h3.blk.keeps (by decide) hK4
    have hK5 : Keeps [83] 0 w4 w5 := by rw [hw5]; exact (Keeps.refl _ _ _).setCell hB4 (by simp) (Nat.zero_le _) _
    have hz3 := hb3.size
    have h5 : WrAt w5 S bs bw l k ic I (rest ++ rowB r) (n + L3) c4 A4 (many : Int) false :=
      ⟨h3.sw, by rw [hw5]; exact hB4.set_ 2 _, Own.keeps (Own.keeps h3.ids (by decide) hK4) (by decide) hK5, h3.inI, ho4.keeps (by decide) hK5, hat4.inS h3.inR (fun j hj => hy j (by omega))⟩
    have hs5 := ((Hs2.out.below hb3).keeps hK4 (by decide)).keeps hK5 (by decide)
    have ht5 : Turns S StT B w w5 := by
      refine (Ht2.out.trans (Turns.of_below hb3)).trans ((Turns.of_grown hg4 (fun x hx => ?_)).trans ?_)
      · obtain ⟨ad, ha, hx⟩ := Option.map_eq_some_iff.1 hx
        obtain ⟨g, off, rfl⟩ : ∃ g off, ad = ⟨g, off, none⟩ := by
          rcases h3.rst with ⟨h, _⟩ | ⟨g, off, ys, h, _⟩
          · rw [h] at ha; cases ha
          · rw [h] at ha; exact ⟨g, off, (Option.some.inj ha).symm⟩
        rw [← hx]
        exact h3.inR g off ha
      · rw [hw5]
        exact Turns.setCell w4 h3.sw _
    obtain rfl : L3 = L := hl3.symm.trans HL.out
    have H5 := Lib.hid h5
    have Hs5 := Lib.hid hs5
    have Ht5 := Lib.hid ht5
    have c3 := h5.blk.cell 3
    have f3 := h5.blk.frozen 3
    simp only [List.getElem?_cons_zero, List.getElem?_cons_succ] at c3
    clear h5 hs5 ht5 hK4 hB4 hK5 hat4 hg4 ho4 hw5 j2 j3 j3f h3 ho3 hb3 hb3' hl3 c2 H2 Hs2 HX2 Ht2 hby HL
    go_wp2_with fail
    have h6 := H5.out.more ((many + 1 : Nat) : Int)
    have hs6 := Hs5.out.keeps (H5.out.kw 3 (.int .i64 ((many + 1 : Nat) : Int))) (by decide)
    have ht6 := Ht5.out.trans (Turns.setCell (S := S) (T := StT) (B := B) w5 (i := 3) H5.out.sw (.int .i64 ((many + 1 : Nat) : Int)))
    rw [show ((many + 1 : Nat) : Int) = (many : Int) + 1 from by omega] at h6 hs6 ht6
    obtain ⟨w6, hw6⟩ : ∃ x, x = w5.setCell ⟨bw, 3, none⟩ (.int .i64 ((many : Int) + 1)) := ⟨_, rfl⟩
    rw [← hw6] at h6 hs6 ht6 ⊢
    clear hw6 c3 f3 H5 Hs5 Ht5
    go_loopw [5] (fun x wr => (x = undef ∨ x = .int .i64 0) ∧ ∃ (s1 : Pg.St) (l1 : List Nat) (b1 : List UInt8) (k1 ic1 n1 rc1 : Nat) (I1 R1 : Option Addr), WrAt wr S bs bw l1 k1 ic1 I1 b1 n1 rc1 R1 ((many : Int) + 1) false ∧ Sto wr B bs s1 ∧ Turns S StT B w wr ∧ Hid (Pg.lay s1 l1 b1 = (s', l', b')) ∧ Pg.Mine s1 l1 ∧ n1 ≤ 40000) (fun _ wr => restLen wr bw)
    case atStart => exact ⟨.inl rfl, s, l, _, k, ic, n + L3, c4, I, A4, h6, hs6, ht6, Hlay.out, Hmine.out, by omega⟩
    case round =>
      obtain ⟨_, s1, l1, b1, k1, ic1, n1, rc1, I1, R1, h1, hs1, ht1, hlay1, hmine1, hn1⟩ := hrel
      have q2 := h1.blk.cell 2
      simp only [List.getElem?_cons_zero, List.getElem?_cons_succ] at q2
      have hnl1 := h1.nlen
      have hrl1 := h1.restLen
      have hk1 : k1 ≤ 4096 := by have := h1.klen; have := hmine1.max; have := sto_len hs1; omega
      have hcap := h1.rst.cap
      have hzw := ht1.size
      by_cases h56 : 56 ≤ n1
      · obtain ⟨g, off, rfl, _, _⟩ := h1.rst.at_ (by omega)
        have hAt : OwnX wr 0 5 (some ⟨g, off, none⟩) 56 rc1 (Bs (b1.take 56)) := by
          have := h1.rst.take (k := 56) h56
          rwa [← List.map_take] at this
        cases hf : Pg.free1 s1 with
        | none =>
          have hp := Lib.hid (page_no S B bs bw s1 l1 k1 ic1 I1 b1 n1 rc1 _ ((many : Int) + 1) (some ⟨g, off, none⟩) 56 rc1 wr h1 hs1 (Nat.le_trans hB hzw) hmine1.in_ hk1 hf)
          have hend : Hid (Pg.lay s1 l1 b1 = (s1, l1, b1)) := Pg.lay_no hf
          have Ht1 := Lib.hid ht1
          clear h1 hs1 ht1 hAt hf hmine1
          go_wp2_with fail
          refine hp.out.mono ?_
          rintro e w7 ⟨rfl, hs7, h7, ht7⟩
          have Hs7 := Lib.hid hs7
          have H7 := Lib.hid h7
          have Ht7 := Lib.hid (Ht1.out.trans ht7)
          clear hs7 h7 ht7 hp
          go_wp2_with fail
          go_ret
          have e3 := hend.out.symm.trans hlay1.out
          injection e3 with e1 e3
          injection e3 with e2 e3
          subst e1; subst e2; subst e3
          exact ⟨⟨_, _, _, _, _, _, .inr ⟨by omega, rfl, Hs7.out, H7.out⟩⟩, Ht7.out⟩
        | some i =>
          have hp := Lib.hid (page_yes S B bs bw s1 l1 k1 ic1 I1 b1 n1 rc1 _ ((many : Int) + 1) (some ⟨g, off, none⟩) (b1.take 56) 56 rc1 i wr h1 hs1 (Nat.le_trans hB hzw) hAt (by omega) hk1 (fun j hj => hy j (by omega)) hf)
          have hnext : Hid (Pg.lay s1 l1 b1 = Pg.lay (s1.set i (some (Pg.page i (b1.take 56)))) (l1 ++ [i]) (b1.drop 56)) := Pg.lay_yes (by omega) hf
          have Hm2 := Lib.hid (hmine1.step hf (b1.take 56))
          have Ht1 := Lib.hid ht1
          clear h1 hs1 ht1 hAt hf hmine1
          go_wp2_with fail
          refine hp.out.mono ?_
          rintro e w7 ⟨rfl, hs7, ⟨I7, ic7, h7⟩, ht7⟩
          have j2 := h7.blk.cell 2
          have f2 := h7.blk.frozen 2
          simp only [List.getElem?_cons_zero, List.getElem?_cons_succ] at j2
          have Hs7 := Lib.hid hs7
          have H7 := Lib.hid h7
          have Ht7 := Lib.hid (Ht1.out.trans ht7)
          clear hs7 h7 ht7 hp q2
          by_cases hc : rc1 = 56
          · obtain rfl : n1 = 56 := by omega
            have hd := H7.out.putR (rest' := []) H7.out.rst.dropAll H7.out.inR
            have hnil : b1.drop 56 = [] := List.drop_eq_nil_of_le (by omega)
            have Hnil := Lib.hid hnil
            clear hnil
            subst hc
            go_wp2_with fail
            go_roundw
            case rel => exact ⟨.inr rfl, _, _, _, _, _, _, _, _, _, hd, Hs7.out.keeps (H7.out.kw 2 _) (by decide), Ht7.out.trans (Turns.setCell w7 (i := 2) H7.out.sw _), by show _ = _; rw [← Hnil.out, ← hnext.out]; exact hlay1.out, Hm2.out, by omega⟩
            case measure =>
              have hr := hd.restLen
              clear hd
              rw [hrl1]
              refine Nat.lt_of_le_of_lt (Nat.le_of_eq hr) ?_
              omega
          · have hd := H7.out.putR (rest' := b1.drop 56) (by have := H7.out.rst.drop (k := 56) h56; rwa [← List.map_drop] at this) (fun b o hb => by injection hb with hb; injection hb with hb; rw [← hb]; exact H7.out.inR g off rfl)
            go_wp2_with fail
            go_roundw
            case rel => exact ⟨.inr rfl, _, _, _, _, _, _, _, _, _, hd, Hs7.out.keeps (H7.out.kw 2 _) (by decide), Ht7.out.trans (Turns.setCell w7 (i := 2) H7.out.sw _), by show _ = _; rw [← hnext.out]; exact hlay1.out, Hm2.out, by omega⟩
            case measure =>
              have hr := hd.restLen
              clear hd
              rw [hrl1]
              refine Nat.lt_of_le_of_lt (Nat.le_of_eq hr) ?_
              omega
      · have hend : Hid (Pg.lay s1 l1 b1 = (s1, l1, b1)) := Pg.lay_end (by omega)
        have Ht1 := Lib.hid ht1
        have Hs1 := Lib.hid hs1
        have H1 := Lib.hid h1
        clear h1 hs1 ht1 hmine1
        go_wp2_with fail
        go_ret
        have e3 := hend.out.symm.trans hlay1.out
        injection e3 with e1 e3
        injection e3 with e2 e3
        subst e1; subst e2; subst e3
        exact ⟨⟨_, _, _, _, _, _, .inl ⟨by omega, rfl, Hs1.out, H1.out⟩⟩, Ht1.out⟩
  · obtain ⟨w5, hw5⟩ : ∃ x, x = w4.setCell ⟨bw, 2, none⟩ (.slice A4 (n + L3) c4) := ⟨_, rfl⟩
    rw [← hw5]
    have hK4 := h3.rst.apx_keeps hg4
    have hB4 := h3.blk.keeps (by decide) hK4
    have hK5 : Keeps [83] 0 w4 w5 := by rw [hw5]; exact (Keeps.refl _ _ _).setCell hB4 (by simp) (Nat.zero_le _) _
    have hz3 := hb3.size
    have h5 : WrAt w5 S bs bw l k ic I (rest ++ rowB r) (n + L3) c4 A4 (many : Int) false :=
      ⟨h3.sw, by rw [hw5]; exact hB4.set_ 2 _, Own.keeps (Own.keeps h3.ids (by decide) hK4) (by decide) hK5, h3.inI, ho4.keeps (by decide) hK5, hat4.inS h3.inR (fun j hj => hy j (by omega))⟩
    have hs5 := ((Hs2.out.below hb3).keeps hK4 (by decide)).keeps hK5 (by decide)
    have ht5 : Turns S StT B w w5 := by
      refine (Ht2.out.trans (Turns.of_below hb3)).trans ((Turns.of_grown hg4 (fun x hx => ?_)).trans ?_)
      · obtain ⟨ad, ha, hx⟩ := Option.map_eq_some_iff.1 hx
        obtain ⟨g, off, rfl⟩ : ∃ g off, ad = ⟨g, off, none⟩ := by
          rcases h3.rst with ⟨h, _⟩ | ⟨g, off, ys, h, _⟩
          · rw [h] at ha; cases ha
          · rw [h] at ha; exact ⟨g, off, (Option.some.inj ha).symm⟩
        rw [← hx]
        exact h3.inR g off ha
      · rw [hw5]
        exact Turns.setCell w4 h3.sw _
    obtain rfl : L3 = L := hl3.symm.trans HL.out
    have H5 := Lib.hid h5
    have Hs5 := Lib.hid hs5
    have Ht5 := Lib.hid ht5
    have c3 := h5.blk.cell 3
    have f3 := h5.blk.frozen 3
    simp only [List.getElem?_cons_zero, List.getElem?_cons_succ] at c3
    clear h5 hs5 ht5 hK4 hB4 hK5 hat4 hg4 ho4 hw5 j2 j3 j3f h3 ho3 hb3 hb3' hl3 c2 H2 Hs2 HX2 Ht2 hby HL
    go_wp2_with fail
    have h6 := H5.out.more ((many + 1 : Nat) : Int)
    have hs6 := Hs5.out.keeps (H5.out.kw 3 (.int .i64 ((many + 1 : Nat) : Int))) (by decide)
    have ht6 := Ht5.out.trans (Turns.setCell (S := S) (T := StT) (B := B) w5 (i := 3) H5.out.sw (.int .i64 ((many + 1 : Nat) : Int)))
    rw [show ((many + 1 : Nat) : Int) = (many : Int) + 1 from by omega] at h6 hs6 ht6
    obtain ⟨w6, hw6⟩ : ∃ x, x = w5.setCell ⟨bw, 3, none⟩ (.int .i64 ((many : Int) + 1)) := ⟨_, rfl⟩
    rw [← hw6] at h6 hs6 ht6 ⊢
    clear hw6 c3 f3 H5 Hs5 Ht5
    go_loopw [5] (fun x wr => (x = undef ∨ x = .int .i64 0) ∧ ∃ (s1 : Pg.St) (l1 : List Nat) (b1 : List UInt8) (k1 ic1 n1 rc1 : Nat) (I1 R1 : Option Addr), WrAt wr S bs bw l1 k1 ic1 I1 b1 n1 rc1 R1 ((many : Int) + 1) false ∧ Sto wr B bs s1 ∧ Turns S StT B w wr ∧ Hid (Pg.lay s1 l1 b1 = (s', l', b')) ∧ Pg.Mine s1 l1 ∧ n1 ≤ 40000) (fun _ wr => restLen wr bw)
    case atStart => exact ⟨.inl rfl, s, l, _, k, ic, n + L3, c4, I, A4, h6, hs6, ht6, Hlay.out, Hmine.out, by omega⟩
    case round =>
      obtain ⟨_, s1, l1, b1, k1, ic1, n1, rc1, I1, R1, h1, hs1, ht1, hlay1, hmine1, hn1⟩ := hrel
      have q2 := h1.blk.cell 2
      simp only [List.getElem?_cons_zero, List.getElem?_cons_succ] at q2
      have hnl1 := h1.nlen
      have hrl1 := h1.restLen
      have hk1 : k1 ≤ 4096 := by have := h1.klen; have := hmine1.max; have := sto_len hs1; omega
      have hcap := h1.rst.cap
      have hzw := ht1.size
      by_cases h56 : 56 ≤ n1
      · obtain ⟨g, off, rfl, _, _⟩ := h1.rst.at_ (by omega)
        have hAt : OwnX wr 0 5 (some ⟨g, off, none⟩) 56 rc1 (Bs (b1.take 56)) := by
          have := h1.rst.take (k := 56) h56
          rwa [← List.map_take] at this
        cases hf : Pg.free1 s1 with
        | none =>
          have hp := Lib.hid (page_no S B bs bw s1 l1 k1 ic1 I1 b1 n1 rc1 _ ((many : Int) + 1) (some ⟨g, off, none⟩) 56 rc1 wr h1 hs1 (Nat.le_trans hB hzw) hmine1.in_ hk1 hf)
          have hend : Hid (Pg.lay s1 l1 b1 = (s1, l1, b1)) := Pg.lay_no hf
          have Ht1 := Lib.hid ht1
          clear h1 hs1 ht1 hAt hf hmine1
          go_wp2_with fail
          refine hp.out.mono ?_
          rintro e w7 ⟨rfl, hs7, h7, ht7⟩
          have Hs7 := Lib.hid hs7
          have H7 := Lib.hid h7
          have Ht7 := Lib.hid (Ht1.out.trans ht7)
          clear hs7 h7 ht7 hp
          go_wp2_with fail
          go_ret
          have e3 := hend.out.symm.trans hlay1.out
          injection e3 with e1 e3
          injection e3 with e2 e3
          subst e1; subst e2; subst e3
          exact ⟨⟨_, _, _, _, _, _, .inr ⟨by omega, rfl, Hs7.out, H7.out⟩⟩, Ht7.out⟩
        | some i =>
          have hp := Lib.hid (page_yes S B bs bw s1 l1 k1 ic1 I1 b1 n1 rc1 _ ((many : Int) + 1) (some ⟨g, off, none⟩) (b1.take 56) 56 rc1 i wr h1 hs1 (Nat.le_trans hB hzw) hAt (by omega) hk1 (fun j hj => hy j (by omega)) hf)
          have hnext : Hid (Pg.lay s1 l1 b1 = Pg.lay (s1.set i (some (Pg.page i (b1.take 56)))) (l1 ++ [i]) (b1.drop 56)) := Pg.lay_yes (by omega) hf
          have Hm2 := Lib.hid (hmine1.step hf (b1.take 56))
          have Ht1 := Lib.hid ht1
          clear h1 hs1 ht1 hAt hf hmine1
          go_wp2_with fail
          refine hp.out.mono ?_
          rintro e w7 ⟨rfl, hs7, ⟨I7, ic7, h7⟩, ht7⟩
          have j2 := h7.blk.cell 2
          have f2 := h7.blk.frozen 2
          simp only [List.getElem?_cons_zero, List.getElem?_cons_succ] at j2
          have Hs7 := Lib.hid hs7
          have H7 := Lib.hid h7
          have Ht7 := Lib.hid (Ht1.out.trans ht7)
          clear hs7 h7 ht7 hp q2
          by_cases hc : rc1 = 56
          · obtain rfl : n1 = 56 := by omega
            have hd := H7.out.putR (rest' := []) H7.out.rst.dropAll H7.out.inR
            have hnil : b1.drop 56 = [] := List.drop_eq_nil_of_le (by omega)
            have Hnil := Lib.hid hnil
            clear hnil
            subst hc
            go_wp2_with fail
            go_roundw
            case rel => exact ⟨.inr rfl, _, _, _, _, _, _, _, _, _, hd, Hs7.out.keeps (H7.out.kw 2 _) (by decide), Ht7.out.trans (Turns.setCell w7 (i := 2) H7.out.sw _), by show _ = _; rw [← Hnil.out, ← hnext.out]; exact hlay1.out, Hm2.out, by omega⟩
            case measure =>
              have hr := hd.restLen
              clear hd
              rw [hrl1]
              refine Nat.lt_of_le_of_lt (Nat.le_of_eq hr) ?_
              omega
          · have hd := H7.out.putR (rest' := b1.drop 56) (by have := H7.out.rst.drop (k := 56) h56; rwa [← List.map_drop] at this) (fun b o hb => by injection hb with hb; injection hb with hb; rw [← hb]; exact H7.out.inR g off rfl)
            go_wp2_with fail
            go_roundw
            case rel => exact ⟨.inr rfl, _, _, _, _, _, _, _, _, _, hd, Hs7.out.keeps (H7.out.kw 2 _) (by decide), Ht7.out.trans (Turns.setCell w7 (i := 2) H7.out.sw _), by show _ = _; rw [← hnext.out]; exact hlay1.out, Hm2.out, by omega⟩
            case measure =>
              have hr := hd.restLen
              clear hd
              rw [hrl1]
              refine Nat.lt_of_le_of_lt (Nat.le_of_eq hr) ?_
              omega
      · have hend : Hid (Pg.lay s1 l1 b1 = (s1, l1, b1)) := Pg.lay_end (by omega)
        have Ht1 := Lib.hid ht1
        have Hs1 := Lib.hid hs1
        have H1 := Lib.hid h1
        clear h1 hs1 ht1 hmine1
        go_wp2_with fail
        go_ret
        have e3 := hend.out.symm.trans hlay1.out
        injection e3 with e1 e3
        injection e3 with e2 e3
        subst e1; subst e2; subst e3
        exact ⟨⟨_, _, _, _, _, _, .inl ⟨by omega, rfl, Hs1.out, H1.out⟩⟩, Ht1.out⟩
end Go.Proofs.Ytjjmnjgkodiibaa
