/- The walk of a cursor's Next. -/
import Derived.Test.YtjjmnjgkodiibaaMCuC
import Derived.Test.YtjjmnjgkodiibaaMCuL
namespace Go.Proofs.Ytjjmnjgkodiibaa
open Go.RowKit

attribute [local go_sem ↓] Go.wp_at_zero Go.wp_at_succ

/-- How many pages a cursor has not read. -/
def idsLen (w : World) (bc : Nat) : Nat := match w.cell? ⟨bc, 1, none⟩ with | some (.slice _ n _) => n | _ => 0
namespace CuAt
variable {w w5 : World} {S : Nat → Prop} {B bs bc : Nat} {s : Pg.St} {l l' : List Nat} {k ic k' ic' : Nat} {I I' : Option Addr} {p q : List UInt8} {n rc N c5 : Nat} {R R5 : Option Addr} {left err : Int}
theorem idsLen (h : CuAt w S bs bc l k ic I p n rc R left err) : Go.Proofs.Ytjjmnjgkodiibaa.idsLen w bc = k := by
  have := h.blk.cell 1
  simp only [List.getElem?_cons_zero, List.getElem?_cons_succ] at this
  unfold Go.Proofs.Ytjjmnjgkodiibaa.idsLen
  rw [this]
theorem grow_turns (h : CuAt w S bs bc l k ic I p n rc R left err) (hg : w.grownBy w5 (R.map (·.block))) : Turns S [] 0 w w5 := by
  refine Turns.of_grown hg (fun x hx => ?_)
  obtain ⟨ad, ha, hx⟩ := Option.map_eq_some_iff.1 hx
  obtain ⟨g, off, rfl⟩ : ∃ g off, ad = ⟨g, off, none⟩ := by
    rcases h.rst with ⟨h, _⟩ | ⟨g, off, ys, h, _⟩
    · rw [h] at ha; cases ha
    · rw [h] at ha; exact ⟨g, off, (Option.some.inj ha).symm⟩
  rw [← hx]
  exact h.inR g off ha
/-- The bytes have grown, and are told. -/
theorem endR (h : CuAt w S bs bc l k ic I p n rc R left err) (hs : Sto w B bs s) (hy : ∀ j, w.heap.size ≤ j → S j) (hg : w.grownBy w5 (R.map (·.block))) (ho : OwnX w5 0 5 R5 N c5 (Bs q)) (hat : LiesAt w R R5) :
    CuAt (w5.setCell ⟨bc, 2, none⟩ (.slice R5 N c5)) S bs bc l k ic I q N c5 R5 left err ∧ Sto (w5.setCell ⟨bc, 2, none⟩ (.slice R5 N c5)) B bs s ∧ Turns S [] 0 w (w5.setCell ⟨bc, 2, none⟩ (.slice R5 N c5)) := by
  have hk := h.rst.apx_keeps hg
  have hb := h.blk.keeps (by decide) hk
  have hw : Keeps [107] 0 w5 (w5.setCell ⟨bc, 2, none⟩ (.slice R5 N c5)) := (Keeps.refl _ _ _).setCell hb (by simp) (Nat.zero_le _) _
  exact ⟨⟨h.sc, hb.set_ 2 _, (h.ids.keeps (by decide) hk).keeps (by decide) hw, h.inI, ho.keeps (by decide) hw, hat.inS h.inR hy⟩, (hs.keeps hk (by decide)).keeps hw (by decide), (h.grow_turns hg).trans (Turns.setCell w5 (i := 2) h.sc _)⟩
theorem endA (h : CuAt w S bs bc l k ic I p n rc R left err) (hs : Sto w B bs s) (hy : ∀ j, w.heap.size ≤ j → S j) (hI : ∀ w', OwnX w' 0 3 I k ic (Is l) → OwnX w' 0 3 I' k' ic' (Is l')) (hin : InS S I') (hg : w.grownBy w5 (R.map (·.block))) (ho : OwnX w5 0 5 R5 N c5 (Bs q)) (hat : LiesAt w R R5) :
    CuAt ((w5.setCell ⟨bc, 2, none⟩ (.slice R5 N c5)).setCell ⟨bc, 1, none⟩ (.slice I' k' ic')) S bs bc l' k' ic' I' q N c5 R5 left err ∧ Sto ((w5.setCell ⟨bc, 2, none⟩ (.slice R5 N c5)).setCell ⟨bc, 1, none⟩ (.slice I' k' ic')) B bs s ∧ Turns S [] 0 w ((w5.setCell ⟨bc, 2, none⟩ (.slice R5 N c5)).setCell ⟨bc, 1, none⟩ (.slice I' k' ic')) := by
  obtain ⟨h1, h2, h3⟩ := h.endR hs hy hg ho hat
  exact ⟨h1.putI (hI _ h1.ids) hin, h2.keeps (h1.kw 1 _) (by decide), h3.trans (Turns.setCell _ (i := 1) h.sc _)⟩
theorem endB (h : CuAt w S bs bc l k ic I p n rc R left err) (hs : Sto w B bs s) (hy : ∀ j, w.heap.size ≤ j → S j) (hI : ∀ w', OwnX w' 0 3 I k ic (Is l) → OwnX w' 0 3 I' k' ic' (Is l')) (hin : InS S I') (hg : w.grownBy w5 (R.map (·.block))) (ho : OwnX w5 0 5 R5 N c5 (Bs q)) (hat : LiesAt w R R5) :
    CuAt ((w5.setCell ⟨bc, 1, none⟩ (.slice I' k' ic')).setCell ⟨bc, 2, none⟩ (.slice R5 N c5)) S bs bc l' k' ic' I' q N c5 R5 left err ∧ Sto ((w5.setCell ⟨bc, 1, none⟩ (.slice I' k' ic')).setCell ⟨bc, 2, none⟩ (.slice R5 N c5)) B bs s ∧ Turns S [] 0 w ((w5.setCell ⟨bc, 1, none⟩ (.slice I' k' ic')).setCell ⟨bc, 2, none⟩ (.slice R5 N c5)) := by
  have hk := h.rst.apx_keeps hg
  have hb := h.blk.keeps (by decide) hk
  have hw1 : Keeps [107] 0 w5 (w5.setCell ⟨bc, 1, none⟩ (.slice I' k' ic')) := (Keeps.refl _ _ _).setCell hb (by simp) (Nat.zero_le _) _
  have hb1 := hb.set_ 1 (.slice I' k' ic')
  have hw : Keeps [107] 0 w5 ((w5.setCell ⟨bc, 1, none⟩ (.slice I' k' ic')).setCell ⟨bc, 2, none⟩ (.slice R5 N c5)) := hw1.setCell hb1 (by simp) (Nat.zero_le _) _
  exact ⟨⟨h.sc, hb1.set_ 2 _, (hI _ (h.ids.keeps (by decide) hk)).keeps (by decide) hw, hin, ho.keeps (by decide) hw, hat.inS h.inR hy⟩, (hs.keeps hk (by decide)).keeps hw (by decide), ((h.grow_turns hg).trans (Turns.setCell w5 (i := 1) h.sc _)).trans (Turns.setCell _ (i := 2) h.sc _)⟩
theorem endC (h : CuAt w S bs bc l k ic I p n rc R left err) (hs : Sto w B bs s) (hy : ∀ j, w.heap.size ≤ j → S j) (hI : ∀ w', OwnX w' 0 3 I k ic (Is l) → OwnX w' 0 3 I' k' ic' (Is l')) (hin : InS S I') (hg : (w.setCell ⟨bc, 1, none⟩ (.slice I' k' ic')).grownBy w5 (R.map (·.block))) (ho : OwnX w5 0 5 R5 N c5 (Bs q)) (hat : LiesAt (w.setCell ⟨bc, 1, none⟩ (.slice I' k' ic')) R R5) :
    CuAt (w5.setCell ⟨bc, 2, none⟩ (.slice R5 N c5)) S bs bc l' k' ic' I' q N c5 R5 left err ∧ Sto (w5.setCell ⟨bc, 2, none⟩ (.slice R5 N c5)) B bs s ∧ Turns S [] 0 w (w5.setCell ⟨bc, 2, none⟩ (.slice R5 N c5)) := by
  have h1 := h.putI (hI _ h.ids) hin
  have hs1 := hs.keeps (h.kw 1 (.slice I' k' ic')) (by decide)
  obtain ⟨a, b, c⟩ := h1.endR hs1 (fun j hj => hy j (by simpa using hj)) hg ho hat
  exact ⟨a, b, (Turns.setCell w (i := 1) h.sc _).trans c⟩
end CuAt
theorem Pg.readB_le (s : Pg.St) (i : Int) : (Pg.readB s i).length ≤ 56 := by
  unfold Pg.readB
  split
  · simp
  · split
    · rw [List.length_take]; omega
    · simp

/-- How Next ends, where there are rows left. -/
def NextOK (S : Nat → Prop) (B bs bc : Nat) (s : Pg.St) (l : List Nat) (p : List UInt8) (left : Int) (w : World) (e : Ending) (w' : World) : Prop :=
  ((∃ er, Pg.nextR s l p = .inl er ∧ e = .returned (.tuple #[.slice none 0 0, .bool false, .int .i64 er]) ∧ ∃ l' k' ic' I' p' n' rc' R', CuAt w' S bs bc l' k' ic' I' p' n' rc' R' left er) ∨
    ∃ r u l' R rc k' ic' I' n' rc' R', Pg.nextR s l p = .inr (r, u, l') ∧ (∀ v ∈ r, v.ok) ∧ e = .returned (.tuple #[.slice R r.length rc, .bool true, .int .i64 0]) ∧ Own w' w.heap.size 37 3 R r.length rc (rcells r) ∧ CuAt w' S bs bc l' k' ic' I' u n' rc' R' (left - 1) 0) ∧
  Sto w' B bs s ∧ Turns S [] 0 w w'

set_option maxHeartbeats 8000000 in
set_option maxRecDepth 100000 in
theorem next_any (S : Nat → Prop) (B bs bc : Nat) (s : Pg.St) (l : List Nat) (k ic : Nat) (I : Option Addr) (p : List UInt8) (n rc : Nat) (R : Option Addr) (left : Int) (w : World) (h : CuAt w S bs bc l k ic I p n rc R left 0) (hs : Sto w B bs s) (hy : ∀ j, w.heap.size ≤ j → S j) (h0 : 0 < left) (hle : left ≤ 1000000) (hbd : n + 56 * k ≤ 100000) (hi : ∀ i ∈ l, i < 1000000) :
    Calls Try.prog 36 #[.pointer (some ⟨bc, 0, none⟩)] w fun e w' => NextOK S B bs bc s l p left w e w' := by
  have k3 := h.blk.cell 3
  have k4 := h.blk.cell 4
  simp only [List.getElem?_cons_zero, List.getElem?_cons_succ] at k3 k4
  have hne : (left == 0) = false := by rw [beq_eq_false_iff_ne]; omega
  have hw1 : IntKind.i64.wrap (left - 1) = left - 1 := by rw [IntKind.wrap_i64]; omega
  have Hh := Lib.hid h
  have Hs := Lib.hid hs
  have Hi := Lib.hid hi
  clear h hs hi
  go_enter Try.func36, Try.ntmps36
  go_wp2_with fail
  clear k3 k4 hne
  go_loopw [9] (fun x wr => (x = undef ∨ x = .int .i64 0) ∧ ∃ (l1 : List Nat) (k1 ic1 : Nat) (I1 : Option Addr) (p1 : List UInt8) (n1 rc1 : Nat) (R1 : Option Addr), CuAt wr S bs bc l1 k1 ic1 I1 p1 n1 rc1 R1 left 0 ∧ Sto wr B bs s ∧ Turns S [] 0 w wr ∧ Hid (Pg.nextR s l p = Pg.nextR s l1 p1) ∧ n1 + 56 * k1 ≤ 100000 ∧ Hid (∀ i ∈ l1, i < 1000000)) (fun _ wr => idsLen wr bc)
  case atStart => exact ⟨.inl rfl, l, k, ic, I, p, n, rc, R, Hh.out, Hs.out, Turns.refl _ _ _ _, rfl, hbd, Hi.out⟩
  case round =>
    obtain ⟨_, l1, k1, ic1, I1, p1, n1, rc1, R1, h1, hs1, ht1, hnx, hbd1, hi1⟩ := hrel
    have q2 := h1.blk.cell 2
    simp only [List.getElem?_cons_zero, List.getElem?_cons_succ] at q2
    have hzr := ht1.size
    have htk := Lib.hid (stake_tail p1 n1 rc1 R1 wr h1.plen h1.rst (by omega))
    have hil := Lib.hid h1.idsLen
    have H1 := Lib.hid h1
    have Hs1 := Lib.hid hs1
    have Ht1 := Lib.hid ht1
    clear h1 hs1 ht1
    go_wp2_with fail
    refine htk.out.mono ?_
    rintro e w3 ⟨⟨hno, rfl⟩ | ⟨r, u, Rr, rcr, A', c', hyes, hok, rfl, hoR, hoX, hin⟩, hb3⟩
    · have h3 := H1.out.below hb3
      have j1 := h3.blk.cell 1
      simp only [List.getElem?_cons_zero, List.getElem?_cons_succ] at j1
      have hz3 := hb3.size
      have hkl := h3.klen
      have Hno := Lib.hid hno
      have H3 := Lib.hid h3
      have Hs3 := Lib.hid (Hs1.out.below hb3)
      have Ht3 := Lib.hid (Ht1.out.trans (Turns.of_below hb3))
      clear hno h3 hb3 htk H1 Hs1 Ht1 q2
      cases l1 with
      | nil =>
        obtain rfl : k1 = 0 := by rw [← hkl]; rfl
        have hf := Lib.hid (fun w' => cfail_c S bs bc [] 0 ic1 I1 p1 n1 rc1 R1 left 0 6 w')
        have hend : Hid (Pg.nextR s l p = .inl 6) := Lib.hid (by rw [hnx.out]; exact Pg.nextR_end Hno.out)
        clear hkl
        go_wp2_with fail
        refine (hf.out _ H3.out).mono ?_
        rintro e w4 ⟨rfl, h4, ht4, hk4⟩
        have Hs4 : Hid (Sto w4 B bs s) := Lib.hid (Hs3.out.keeps hk4 (by decide))
        clear j1 hf
        go_wp2_with fail
        go_ret3
        exact ⟨.inl ⟨6, hend.out, rfl, _, _, _, _, _, _, _, _, h4⟩, Hs4.out, Ht3.out.trans ht4⟩
      | cons i l2 =>
        obtain ⟨kk, rfl⟩ : ∃ kk, k1 = kk + 1 := ⟨l2.length, by rw [← hkl]; rfl⟩
        obtain ⟨b, o, rfl, _, hrg⟩ := H3.out.ids.at_ (Nat.succ_pos kk)
        have ci := hrg 0 (.int .i64 (i : Int)) rfl
        rw [Nat.add_zero] at ci
        have hi9 := hi1.out i (by simp)
        have hrd := Lib.hid (fun w' (hb : Below w3.heap.size w3 w') => read_c B bs s (i : Int) w' (Hs3.out.below hb) (by omega) (by omega))
        have hpos : (0 : Int) < ((kk + 1 : Nat) : Int) := by omega
        have hk0 : 0 < kk + 1 := by omega
        have hk1i : (1 : Int) ≤ (kk : Int) + 1 := by omega
        have hkn : ¬ ((kk : Int) + 1) = 0 := by omega
        have j0 := H3.out.blk.cell 0
        simp only [List.getElem?_cons_zero, List.getElem?_cons_succ] at j0
        clear hkl hrg
        go_wp2_with fail
        go_region_held3 (fun w' => w'.cell? ⟨bc, 0, none⟩ = some (.pointer (some ⟨bs, 0, none⟩)) ∧ w'.cell? ⟨bc, 1, none⟩ = some (.slice (some ⟨b, o, none⟩) (kk + 1) ic1) ∧ w'.cell? ⟨b, o, none⟩ = some (.int .i64 (i : Int)))
          (first | exact ⟨j0, j1, ci⟩ | exact ⟨i0, i1, ci4⟩)
          ((go_at_call 39; refine (hrd.out _ (Below.refl _ _).drew).mono ?_; rintro e w4 ⟨A4, c4, rfl, ho4, hb4'⟩; have hb4 : Below w3.heap.size w3 w4 := ⟨hb4'.os, hb4'.tape, hb4'.output, hb4'.size, hb4'.block⟩; have h4 := H3.out.below hb4; have i0 := h4.blk.cell 0; have i1 := h4.blk.cell 1; simp only [List.getElem?_cons_zero, List.getElem?_cons_succ] at i0 i1; have ci4 := cell_keep hb4 ci))
        clear i0 i1 ci4
        have hz4 := hb4.size
        have hs4 := Hs3.out.below hb4
        have Ht4 := Lib.hid (Ht3.out.trans (Turns.of_below hb4))
        have hrl := Pg.readB_le s (i : Int)
        have hnxt := Lib.hid (fun he => Pg.nextR_err (l := l2) Hno.out (i := i) (s := s) he)
        have hnxt2 := Lib.hid (fun he => Pg.nextR_on (l := l2) Hno.out (i := i) (s := s) he)
        have Ho4 := Lib.hid ho4
        clear hb4 hb4' ho4 hrd j0 j1 ci
        generalize hRB : Pg.readB s (i : Int) = rb at *
        generalize hRE : Pg.readE s (i : Int) = re at *
        have HL : Hid (rb.length = rb.length) := rfl
        generalize hrbl : rb.length = m4 at *
        have HM := Lib.hid hrbl
        clear hRB hRE hrbl HL
        by_cases hre : re = 0
        · subst hre
          have q1 := h4.blk.cell 1
          have q2 := h4.blk.cell 2
          have f1 := h4.blk.frozen 1
          have f2 := h4.blk.frozen 2
          simp only [List.getElem?_cons_zero, List.getElem?_cons_succ] at q1 q2
          have H4 := Lib.hid h4
          have Hs4 := Lib.hid hs4
          have H4d := Lib.hid (h4.drewN 1)
          have Hs4d := Lib.hid (hs4.drewN 1)
          have Ht4d := Lib.hid (Ht4.out.drewN 1)
          have hcap := h4.ids.cap
          have hyd : Hid (∀ j, w4.heap.size ≤ j → S j) := fun j hj => hy j (by omega)
          clear h4 hs4 H3 Hs3 Ht3 Ht4
          have hw2 : IntKind.i64.wrap ((kk : Int) + 1 - 1) = kk := by rw [IntKind.wrap_i64]; omega
          by_cases hic : ic1 = 1
          · obtain rfl : kk = 0 := by omega
            subst hic
            have hil2 : l2 = [] := by
              have := H4.out.klen
              simpa using this
            subst hil2
            have hI : Hid (∀ w', OwnX w' 0 3 (some ⟨b, o, none⟩) 1 1 (Is [i]) → OwnX w' 0 3 (some ⟨b, o, none⟩) 0 0 (Is [])) := fun w' hh => hh.dropAll
            have hIn : Hid (InS S (some ⟨b, o, none⟩)) := H4.out.inI
            have H4e := Lib.hid (H4d.out.putI (hI.out _ H4d.out.ids) hIn.out)
            go_wp2_with fail
            go_region_law
              (first | (refine step_apx rfl (.tmp 107) (.tmp 108) 58 rfl E8 0 R1 n1 rc1 (Bs p1) (by simp [Act.eval, Act.put]) (by exact H4d.out.rst) A4 m4 c4 (Bs rb) (by simp [Act.eval, Act.put]) (by rw [List.length_map]; exact HM.out) (by exact (Own.keeps Ho4.out (T := []) (B := 0) (by simp) ((Keeps.refl _ _ _).drewN 1)).rd) (Bs_one _) (n1 + m4) rfl (Bs (p1 ++ rb)) (by simp) (by omega) (by omega) (Nat.zero_le _) ?_; intro A5 c5 w5 ho5 hg5 hat5; have hB5 := H4d.out.blk.keeps (by decide) (H4d.out.rst.apx_keeps hg5); have j1 := hB5.cell 1; have j2 := hB5.cell 2; have g1 := hB5.frozen 1; have g2 := hB5.frozen 2; simp only [List.getElem?_cons_zero, List.getElem?_cons_succ] at j1 j2)
                     | (refine step_apx rfl (.tmp 107) (.tmp 108) 58 rfl E8 0 R1 n1 rc1 (Bs p1) (by simp [Act.eval, Act.put]) (by exact H4e.out.rst) A4 m4 c4 (Bs rb) (by simp [Act.eval, Act.put]) (by rw [List.length_map]; exact HM.out) (by exact ((Own.keeps (Own.keeps Ho4.out (T := []) (B := 0) (by simp) ((Keeps.refl _ _ _).drewN 1)) (by decide) (H4d.out.kw 1 (.slice (some ⟨b, o, none⟩) 0 0)))).rd) (Bs_one _) (n1 + m4) rfl (Bs (p1 ++ rb)) (by simp) (by omega) (by omega) (Nat.zero_le _) ?_; intro A5 c5 w5 ho5 hg5 hat5; have hB5 := H4e.out.blk.keeps (by decide) (H4e.out.rst.apx_keeps hg5); have j1 := hB5.cell 1; have j2 := hB5.cell 2; have g1 := hB5.frozen 1; have g2 := hB5.frozen 2; simp only [List.getElem?_cons_zero, List.getElem?_cons_succ] at j1 j2))
            · go_wp2_with fail
              go_roundw
              case rel => first | (obtain ⟨h6, hs6, ht6⟩ := H4d.out.endA Hs4d.out hyd.out hI.out hIn.out hg5 ho5 hat5; exact ⟨.inr rfl, [], 0, 0, _, _, n1 + m4, c5, A5, h6, hs6, Ht4d.out.trans ht6, by (show _ = _; rw [hnx.out]; first | exact hnxt2.out rfl | exact hnxt2.out trivial), by omega, fun x hx => hi1.out x (by first | exact List.mem_cons_of_mem _ hx | cases hx)⟩) | (obtain ⟨h6, hs6, ht6⟩ := H4d.out.endB Hs4d.out hyd.out hI.out hIn.out hg5 ho5 hat5; exact ⟨.inr rfl, [], 0, 0, _, _, n1 + m4, c5, A5, h6, hs6, Ht4d.out.trans ht6, by (show _ = _; rw [hnx.out]; first | exact hnxt2.out rfl | exact hnxt2.out trivial), by omega, fun x hx => hi1.out x (by first | exact List.mem_cons_of_mem _ hx | cases hx)⟩) | (obtain ⟨h6, hs6, ht6⟩ := H4d.out.endC Hs4d.out hyd.out hI.out hIn.out hg5 ho5 hat5; exact ⟨.inr rfl, [], 0, 0, _, _, n1 + m4, c5, A5, h6, hs6, Ht4d.out.trans ht6, by (show _ = _; rw [hnx.out]; first | exact hnxt2.out rfl | exact hnxt2.out trivial), by omega, fun x hx => hi1.out x (by first | exact List.mem_cons_of_mem _ hx | cases hx)⟩)
              case measure => rw [hil.out]; first | (have h6 := (H4d.out.endA Hs4d.out hyd.out hI.out hIn.out hg5 ho5 hat5).1.idsLen; refine Nat.lt_of_le_of_lt (Nat.le_of_eq h6) ?_; omega) | (have h6 := (H4d.out.endB Hs4d.out hyd.out hI.out hIn.out hg5 ho5 hat5).1.idsLen; refine Nat.lt_of_le_of_lt (Nat.le_of_eq h6) ?_; omega) | (have h6 := (H4d.out.endC Hs4d.out hyd.out hI.out hIn.out hg5 ho5 hat5).1.idsLen; refine Nat.lt_of_le_of_lt (Nat.le_of_eq h6) ?_; omega)
            · go_wp2_with fail
              go_roundw
              case rel => first | (obtain ⟨h6, hs6, ht6⟩ := H4d.out.endA Hs4d.out hyd.out hI.out hIn.out hg5 ho5 hat5; exact ⟨.inr rfl, [], 0, 0, _, _, n1 + m4, c5, A5, h6, hs6, Ht4d.out.trans ht6, by (show _ = _; rw [hnx.out]; first | exact hnxt2.out rfl | exact hnxt2.out trivial), by omega, fun x hx => hi1.out x (by first | exact List.mem_cons_of_mem _ hx | cases hx)⟩) | (obtain ⟨h6, hs6, ht6⟩ := H4d.out.endB Hs4d.out hyd.out hI.out hIn.out hg5 ho5 hat5; exact ⟨.inr rfl, [], 0, 0, _, _, n1 + m4, c5, A5, h6, hs6, Ht4d.out.trans ht6, by (show _ = _; rw [hnx.out]; first | exact hnxt2.out rfl | exact hnxt2.out trivial), by omega, fun x hx => hi1.out x (by first | exact List.mem_cons_of_mem _ hx | cases hx)⟩) | (obtain ⟨h6, hs6, ht6⟩ := H4d.out.endC Hs4d.out hyd.out hI.out hIn.out hg5 ho5 hat5; exact ⟨.inr rfl, [], 0, 0, _, _, n1 + m4, c5, A5, h6, hs6, Ht4d.out.trans ht6, by (show _ = _; rw [hnx.out]; first | exact hnxt2.out rfl | exact hnxt2.out trivial), by omega, fun x hx => hi1.out x (by first | exact List.mem_cons_of_mem _ hx | cases hx)⟩)
              case measure => rw [hil.out]; first | (have h6 := (H4d.out.endA Hs4d.out hyd.out hI.out hIn.out hg5 ho5 hat5).1.idsLen; refine Nat.lt_of_le_of_lt (Nat.le_of_eq h6) ?_; omega) | (have h6 := (H4d.out.endB Hs4d.out hyd.out hI.out hIn.out hg5 ho5 hat5).1.idsLen; refine Nat.lt_of_le_of_lt (Nat.le_of_eq h6) ?_; omega) | (have h6 := (H4d.out.endC Hs4d.out hyd.out hI.out hIn.out hg5 ho5 hat5).1.idsLen; refine Nat.lt_of_le_of_lt (Nat.le_of_eq h6) ?_; omega)
            · go_wp2_with fail
              go_roundw
              case rel => first | (obtain ⟨h6, hs6, ht6⟩ := H4d.out.endA Hs4d.out hyd.out hI.out hIn.out hg5 ho5 hat5; exact ⟨.inr rfl, [], 0, 0, _, _, n1 + m4, c5, A5, h6, hs6, Ht4d.out.trans ht6, by (show _ = _; rw [hnx.out]; first | exact hnxt2.out rfl | exact hnxt2.out trivial), by omega, fun x hx => hi1.out x (by first | exact List.mem_cons_of_mem _ hx | cases hx)⟩) | (obtain ⟨h6, hs6, ht6⟩ := H4d.out.endB Hs4d.out hyd.out hI.out hIn.out hg5 ho5 hat5; exact ⟨.inr rfl, [], 0, 0, _, _, n1 + m4, c5, A5, h6, hs6, Ht4d.out.trans ht6, by (show _ = _; rw [hnx.out]; first | exact hnxt2.out rfl | exact hnxt2.out trivial), by omega, fun x hx => hi1.out x (by first | exact List.mem_cons_of_mem _ hx | cases hx)⟩) | (obtain ⟨h6, hs6, ht6⟩ := H4d.out.endC Hs4d.out hyd.out hI.out hIn.out hg5 ho5 hat5; exact ⟨.inr rfl, [], 0, 0, _, _, n1 + m4, c5, A5, h6, hs6, Ht4d.out.trans ht6, by (show _ = _; rw [hnx.out]; first | exact hnxt2.out rfl | exact hnxt2.out trivial), by omega, fun x hx => hi1.out x (by first | exact List.mem_cons_of_mem _ hx | cases hx)⟩)
              case measure => rw [hil.out]; first | (have h6 := (H4d.out.endA Hs4d.out hyd.out hI.out hIn.out hg5 ho5 hat5).1.idsLen; refine Nat.lt_of_le_of_lt (Nat.le_of_eq h6) ?_; omega) | (have h6 := (H4d.out.endB Hs4d.out hyd.out hI.out hIn.out hg5 ho5 hat5).1.idsLen; refine Nat.lt_of_le_of_lt (Nat.le_of_eq h6) ?_; omega) | (have h6 := (H4d.out.endC Hs4d.out hyd.out hI.out hIn.out hg5 ho5 hat5).1.idsLen; refine Nat.lt_of_le_of_lt (Nat.le_of_eq h6) ?_; omega)
          · have hic2 : 1 < ic1 := by omega
            have hI : Hid (∀ w', OwnX w' 0 3 (some ⟨b, o, none⟩) (kk + 1) ic1 (Is (i :: l2)) → OwnX w' 0 3 (some ⟨b, o + 1, none⟩) kk (ic1 - 1) (Is l2)) := fun w' hh => by
              have := hh.drop (k := 1) (by omega)
              simpa using this
            have hIn : Hid (InS S (some ⟨b, o + 1, none⟩)) := fun b' o' e => by
              injection e with e
              injection e with e1 e2
              subst e1
              exact H4.out.inI b o rfl
            have H4e := Lib.hid (H4d.out.putI (hI.out _ H4d.out.ids) hIn.out)
            go_wp2_with fail
            go_region_law
              (first | (refine step_apx rfl (.tmp 107) (.tmp 108) 58 rfl E8 0 R1 n1 rc1 (Bs p1) (by simp [Act.eval, Act.put]) (by exact H4d.out.rst) A4 m4 c4 (Bs rb) (by simp [Act.eval, Act.put]) (by rw [List.length_map]; exact HM.out) (by exact (Own.keeps Ho4.out (T := []) (B := 0) (by simp) ((Keeps.refl _ _ _).drewN 1)).rd) (Bs_one _) (n1 + m4) rfl (Bs (p1 ++ rb)) (by simp) (by omega) (by omega) (Nat.zero_le _) ?_; intro A5 c5 w5 ho5 hg5 hat5; have hB5 := H4d.out.blk.keeps (by decide) (H4d.out.rst.apx_keeps hg5); have j1 := hB5.cell 1; have j2 := hB5.cell 2; have g1 := hB5.frozen 1; have g2 := hB5.frozen 2; simp only [List.getElem?_cons_zero, List.getElem?_cons_succ] at j1 j2)
                     | (refine step_apx rfl (.tmp 107) (.tmp 108) 58 rfl E8 0 R1 n1 rc1 (Bs p1) (by simp [Act.eval, Act.put]) (by exact H4e.out.rst) A4 m4 c4 (Bs rb) (by simp [Act.eval, Act.put]) (by rw [List.length_map]; exact HM.out) (by exact ((Own.keeps (Own.keeps Ho4.out (T := []) (B := 0) (by simp) ((Keeps.refl _ _ _).drewN 1)) (by decide) (H4d.out.kw 1 (.slice (some ⟨b, o + 1, none⟩) kk (ic1 - 1))))).rd) (Bs_one _) (n1 + m4) rfl (Bs (p1 ++ rb)) (by simp) (by omega) (by omega) (Nat.zero_le _) ?_; intro A5 c5 w5 ho5 hg5 hat5; have hB5 := H4e.out.blk.keeps (by decide) (H4e.out.rst.apx_keeps hg5); have j1 := hB5.cell 1; have j2 := hB5.cell 2; have g1 := hB5.frozen 1; have g2 := hB5.frozen 2; simp only [List.getElem?_cons_zero, List.getElem?_cons_succ] at j1 j2))
            · go_wp2_with fail
              go_roundw
              case rel => first | (obtain ⟨h6, hs6, ht6⟩ := H4d.out.endA Hs4d.out hyd.out hI.out hIn.out hg5 ho5 hat5; exact ⟨.inr rfl, l2, kk, (ic1 - 1), _, _, n1 + m4, c5, A5, h6, hs6, Ht4d.out.trans ht6, by (show _ = _; rw [hnx.out]; first | exact hnxt2.out rfl | exact hnxt2.out trivial), by omega, fun x hx => hi1.out x (by first | exact List.mem_cons_of_mem _ hx | cases hx)⟩) | (obtain ⟨h6, hs6, ht6⟩ := H4d.out.endB Hs4d.out hyd.out hI.out hIn.out hg5 ho5 hat5; exact ⟨.inr rfl, l2, kk, (ic1 - 1), _, _, n1 + m4, c5, A5, h6, hs6, Ht4d.out.trans ht6, by (show _ = _; rw [hnx.out]; first | exact hnxt2.out rfl | exact hnxt2.out trivial), by omega, fun x hx => hi1.out x (by first | exact List.mem_cons_of_mem _ hx | cases hx)⟩) | (obtain ⟨h6, hs6, ht6⟩ := H4d.out.endC Hs4d.out hyd.out hI.out hIn.out hg5 ho5 hat5; exact ⟨.inr rfl, l2, kk, (ic1 - 1), _, _, n1 + m4, c5, A5, h6, hs6, Ht4d.out.trans ht6, by (show _ = _; rw [hnx.out]; first | exact hnxt2.out rfl | exact hnxt2.out trivial), by omega, fun x hx => hi1.out x (by first | exact List.mem_cons_of_mem _ hx | cases hx)⟩)
              case measure => rw [hil.out]; first | (have h6 := (H4d.out.endA Hs4d.out hyd.out hI.out hIn.out hg5 ho5 hat5).1.idsLen; refine Nat.lt_of_le_of_lt (Nat.le_of_eq h6) ?_; omega) | (have h6 := (H4d.out.endB Hs4d.out hyd.out hI.out hIn.out hg5 ho5 hat5).1.idsLen; refine Nat.lt_of_le_of_lt (Nat.le_of_eq h6) ?_; omega) | (have h6 := (H4d.out.endC Hs4d.out hyd.out hI.out hIn.out hg5 ho5 hat5).1.idsLen; refine Nat.lt_of_le_of_lt (Nat.le_of_eq h6) ?_; omega)
            · go_wp2_with fail
              go_roundw
              case rel => first | (obtain ⟨h6, hs6, ht6⟩ := H4d.out.endA Hs4d.out hyd.out hI.out hIn.out hg5 ho5 hat5; exact ⟨.inr rfl, l2, kk, (ic1 - 1), _, _, n1 + m4, c5, A5, h6, hs6, Ht4d.out.trans ht6, by (show _ = _; rw [hnx.out]; first | exact hnxt2.out rfl | exact hnxt2.out trivial), by omega, fun x hx => hi1.out x (by first | exact List.mem_cons_of_mem _ hx | cases hx)⟩) | (obtain ⟨h6, hs6, ht6⟩ := H4d.out.endB Hs4d.out hyd.out hI.out hIn.out hg5 ho5 hat5; exact ⟨.inr rfl, l2, kk, (ic1 - 1), _, _, n1 + m4, c5, A5, h6, hs6, Ht4d.out.trans ht6, by (show _ = _; rw [hnx.out]; first | exact hnxt2.out rfl | exact hnxt2.out trivial), by omega, fun x hx => hi1.out x (by first | exact List.mem_cons_of_mem _ hx | cases hx)⟩) | (obtain ⟨h6, hs6, ht6⟩ := H4d.out.endC Hs4d.out hyd.out hI.out hIn.out hg5 ho5 hat5; exact ⟨.inr rfl, l2, kk, (ic1 - 1), _, _, n1 + m4, c5, A5, h6, hs6, Ht4d.out.trans ht6, by (show _ = _; rw [hnx.out]; first | exact hnxt2.out rfl | exact hnxt2.out trivial), by omega, fun x hx => hi1.out x (by first | exact List.mem_cons_of_mem _ hx | cases hx)⟩)
              case measure => rw [hil.out]; first | (have h6 := (H4d.out.endA Hs4d.out hyd.out hI.out hIn.out hg5 ho5 hat5).1.idsLen; refine Nat.lt_of_le_of_lt (Nat.le_of_eq h6) ?_; omega) | (have h6 := (H4d.out.endB Hs4d.out hyd.out hI.out hIn.out hg5 ho5 hat5).1.idsLen; refine Nat.lt_of_le_of_lt (Nat.le_of_eq h6) ?_; omega) | (have h6 := (H4d.out.endC Hs4d.out hyd.out hI.out hIn.out hg5 ho5 hat5).1.idsLen; refine Nat.lt_of_le_of_lt (Nat.le_of_eq h6) ?_; omega)
            · go_wp2_with fail
              go_roundw
              case rel => first | (obtain ⟨h6, hs6, ht6⟩ := H4d.out.endA Hs4d.out hyd.out hI.out hIn.out hg5 ho5 hat5; exact ⟨.inr rfl, l2, kk, (ic1 - 1), _, _, n1 + m4, c5, A5, h6, hs6, Ht4d.out.trans ht6, by (show _ = _; rw [hnx.out]; first | exact hnxt2.out rfl | exact hnxt2.out trivial), by omega, fun x hx => hi1.out x (by first | exact List.mem_cons_of_mem _ hx | cases hx)⟩) | (obtain ⟨h6, hs6, ht6⟩ := H4d.out.endB Hs4d.out hyd.out hI.out hIn.out hg5 ho5 hat5; exact ⟨.inr rfl, l2, kk, (ic1 - 1), _, _, n1 + m4, c5, A5, h6, hs6, Ht4d.out.trans ht6, by (show _ = _; rw [hnx.out]; first | exact hnxt2.out rfl | exact hnxt2.out trivial), by omega, fun x hx => hi1.out x (by first | exact List.mem_cons_of_mem _ hx | cases hx)⟩) | (obtain ⟨h6, hs6, ht6⟩ := H4d.out.endC Hs4d.out hyd.out hI.out hIn.out hg5 ho5 hat5; exact ⟨.inr rfl, l2, kk, (ic1 - 1), _, _, n1 + m4, c5, A5, h6, hs6, Ht4d.out.trans ht6, by (show _ = _; rw [hnx.out]; first | exact hnxt2.out rfl | exact hnxt2.out trivial), by omega, fun x hx => hi1.out x (by first | exact List.mem_cons_of_mem _ hx | cases hx)⟩)
              case measure => rw [hil.out]; first | (have h6 := (H4d.out.endA Hs4d.out hyd.out hI.out hIn.out hg5 ho5 hat5).1.idsLen; refine Nat.lt_of_le_of_lt (Nat.le_of_eq h6) ?_; omega) | (have h6 := (H4d.out.endB Hs4d.out hyd.out hI.out hIn.out hg5 ho5 hat5).1.idsLen; refine Nat.lt_of_le_of_lt (Nat.le_of_eq h6) ?_; omega) | (have h6 := (H4d.out.endC Hs4d.out hyd.out hI.out hIn.out hg5 ho5 hat5).1.idsLen; refine Nat.lt_of_le_of_lt (Nat.le_of_eq h6) ?_; omega)
        · have hf := Lib.hid (cfail_c S bs bc _ _ _ _ _ _ _ _ left 0 re w4 h4)
          have hend : Hid (Pg.nextR s l p = .inl re) := Lib.hid (by rw [hnx.out]; exact hnxt.out hre)
          have Hs4' := Lib.hid hs4
          clear h4 hs4
          go_wp2_with fail
          refine hf.out.mono ?_
          rintro e w5 ⟨rfl, h5, ht5, hk5⟩
          have Hs5 : Hid (Sto w5 B bs s) := Lib.hid (Hs4'.out.keeps hk5 (by decide))
          go_wp2_with fail
          go_ret3
          exact ⟨.inl ⟨re, hend.out, rfl, _, _, _, _, _, _, _, _, h5⟩, Hs5.out, Ht4.out.trans ht5⟩
    · have h3 := H1.out.below hb3
      have j2 := h3.blk.cell 2
      have j3 := h3.blk.cell 3
      have f2 := h3.blk.frozen 2
      have f3 := h3.blk.frozen 3
      simp only [List.getElem?_cons_zero, List.getElem?_cons_succ] at j2 j3
      have hz3 := hb3.size
      have Hnx : Hid (Pg.nextR s l p = .inr (r, u, l1)) := Lib.hid (by rw [hnx.out]; exact Pg.nextR_now hyes)
      have hinS : InS S A' := fun b o e => by
        rcases hin b o e with ⟨o', h'⟩ | h'
        · exact H1.out.inR b o' h'
        · exact hy b (by omega)
      have h4 := (h3.putR hoX hinS).putL (left - 1)
      have hs4 := ((Hs1.out.below hb3).keeps (h3.kw 2 (.slice A' u.length c')) (by decide)).keeps ((h3.putR hoX hinS).kw 3 (.int .i64 (left - 1))) (by decide)
      have ht4 := ((Ht1.out.trans (Turns.of_below hb3)).trans (Turns.setCell w3 (i := 2) h3.sc (.slice A' u.length c'))).trans (Turns.setCell _ (i := 3) h3.sc (.int .i64 (left - 1)))
      have hoR4 := Own.keeps (Own.keeps hoR (by decide) (h3.kw 2 (.slice A' u.length c'))) (by decide) ((h3.putR hoX hinS).kw 3 (.int .i64 (left - 1)))
      have H4 := Lib.hid h4
      have Hs4 := Lib.hid hs4
      have Ht4 := Lib.hid ht4
      have HoR4 := Lib.hid (Own.base hoR4 hzr)
      have Hok := Lib.hid hok
      clear h3 h4 hs4 ht4 hoR hoR4 hoX hin hok hyes hb3 htk H1 Hs1 Ht1 q2 hinS hnx
      go_wp2_with fail
      go_ret3
      exact ⟨.inr ⟨r, u, l1, Rr, rcr, k1, ic1, I1, _, c', A', Hnx.out, Hok.out, rfl, HoR4.out, H4.out⟩, Hs4.out, Ht4.out⟩
end Go.Proofs.Ytjjmnjgkodiibaa
