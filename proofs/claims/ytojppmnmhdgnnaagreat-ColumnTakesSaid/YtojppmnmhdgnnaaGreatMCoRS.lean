/- Walks: a column's values taken apart, and by Plain: the reference's. Walks: a column's values as bytes: the reference's. -/
import Derived.Test.YtojppmnmhdgnnaaGreatMCoLQ
import Derived.Test.YtojppmnmhdgnnaaGreatMDwFG
namespace Go.Proofs.YtojppmnmhdgnnaaGreat
set_option linter.unusedVariables false
set_option linter.unusedSimpArgs false
open Go.RowKit

attribute [local go_sem ↓] Go.wp_at_zero Go.wp_at_succ

/-- Three rows of the call's own, apart from each other. -/
structure R3 (w : World) (base : Nat) (T : Option Addr) (tn tc : Nat) (N : Option Addr) (nn nc : Nat) (X : Option Addr) (xn xc : Nat) (t n : List Int) (x : List (List UInt8)) : Prop where
  rT : Own w base 3 1 T tn tc (icl t)
  rN : Own w base 3 1 N nn nc (icl n)
  rX : Own w base 9 1 X xn xc (wcl x)
  dj : (Value.slice T tn tc).ownBlock = none ∨ (Value.slice T tn tc).ownBlock ≠ (Value.slice N nn nc).ownBlock
theorem R3.below {w w' : World} {base : Nat} {T N X : Option Addr} {tn tc nn nc xn xc : Nat} {t n : List Int} {x : List (List UInt8)} (h : R3 w base T tn tc N nn nc X xn xc t n x) (hb : Below w.heap.size w w') : R3 w' base T tn tc N nn nc X xn xc t n x :=
  ⟨h.rT.below hb, h.rN.below hb, h.rX.below hb, h.dj⟩
theorem R3.appT {w1 w2 : World} {base : Nat} {T N X : Option Addr} {tn tc nn nc xn xc : Nat} {t n : List Int} {x : List (List UInt8)} (h : R3 w1 base T tn tc N nn nc X xn xc t n x) {A' : Option Addr} {m' c' : Nat} (t2 : List Int)
    (hA : Own w2 base 3 1 A' m' c' (icl t2)) (hgr : w1.grownBy w2 (Value.slice T tn tc).ownBlock) (hw : (Value.slice A' m' c').ownBlock = (Value.slice T tn tc).ownBlock ∨ (Value.slice A' m' c').ownBlock = some w1.heap.size) :
    R3 w2 base A' m' c' N nn nc X xn xc t2 n x := ⟨hA, h.rN.kept hgr (dj_swap h.dj), h.rX.kept hgr (h.rX.other h.rT (by decide)), dj_next h.rN h.dj hw⟩
theorem R3.appN {w1 w2 : World} {base : Nat} {T N X : Option Addr} {tn tc nn nc xn xc : Nat} {t n : List Int} {x : List (List UInt8)} (h : R3 w1 base T tn tc N nn nc X xn xc t n x) {A' : Option Addr} {m' c' : Nat} (n2 : List Int)
    (hA : Own w2 base 3 1 A' m' c' (icl n2)) (hgr : w1.grownBy w2 (Value.slice N nn nc).ownBlock) (hw : (Value.slice A' m' c').ownBlock = (Value.slice N nn nc).ownBlock ∨ (Value.slice A' m' c').ownBlock = some w1.heap.size) :
    R3 w2 base T tn tc A' m' c' X xn xc t n2 x := ⟨h.rT.kept hgr (h.dj), hA, h.rX.kept hgr (h.rX.other h.rN (by decide)), dj_swap (dj_next h.rT (dj_swap h.dj) hw)⟩
theorem R3.appX {w1 w2 : World} {base : Nat} {T N X : Option Addr} {tn tc nn nc xn xc : Nat} {t n : List Int} {x : List (List UInt8)} (h : R3 w1 base T tn tc N nn nc X xn xc t n x) {A' : Option Addr} {m' c' : Nat} (x2 : List (List UInt8))
    (hA : Own w2 base 9 1 A' m' c' (wcl x2)) (hgr : w1.grownBy w2 (Value.slice X xn xc).ownBlock) (hw : (Value.slice A' m' c').ownBlock = (Value.slice X xn xc).ownBlock ∨ (Value.slice A' m' c').ownBlock = some w1.heap.size) :
    R3 w2 base T tn tc N nn nc A' m' c' t n x2 := ⟨h.rT.kept hgr (h.rT.other h.rX (by decide)), h.rN.kept hgr (h.rN.other h.rX (by decide)), hA, h.dj⟩

theorem nums_null (l : RowM) (v : Va) (h : v.k = 0) : numsM (l ++ [v]) = numsM l := by unfold numsM; rw [someM_snoc, if_pos h]
theorem texts_null (l : RowM) (v : Va) (h : v.k = 0) : textsM (l ++ [v]) = textsM l := by unfold textsM; rw [someM_snoc, if_pos h]
theorem nums_some (l : RowM) (v : Va) (h : v.k ≠ 0) : numsM (l ++ [v]) = numsM l ++ [v.n] := by unfold numsM; rw [someM_snoc, if_neg h, List.map_append]; rfl
theorem texts_some (l : RowM) (v : Va) (h : v.k ≠ 0) : textsM (l ++ [v]) = textsM l ++ [v.s] := by unfold textsM; rw [someM_snoc, if_neg h, List.map_append]; rfl

set_option maxHeartbeats 16000000 in
set_option maxRecDepth 100000 in
theorem rparts_any (l : RowM) (n c : Nat) (A : Option Addr) (w : World) (hl : l.length = n) (hr : Rd w A (rcells l)) (hn : n ≤ 4096) :
    Calls Tryz.prog 55 #[.slice A n c] w fun e w' => (∃ T tc N nc X xc, e = .returned (.tuple #[.slice T (thereM l).length tc, .slice N (numsM l).length nc, .slice X (textsM l).length xc]) ∧ Rd w' T (icl (thereM l)) ∧ Rd w' N (icl (numsM l)) ∧ Rd w' X (wcl (textsM l))) ∧ Below w.heap.size w w' := by
  have Hl := Lib.hid hl
  have Hr := Lib.hid hr
  clear hl hr
  go_enter Tryz.func55, Tryz.ntmps55
  go_wp2_with fail
  go_loopw [5, 6, 7, 8] (fun vt vn vx vi wr => ∃ (i tn nn xn : Nat) (T : Option Addr) (tc : Nat) (N : Option Addr) (nc : Nat) (X : Option Addr) (xc : Nat), vt = .slice T tn tc ∧ vn = .slice N nn nc ∧ vx = .slice X xn xc ∧ vi = .int .i64 (i : Int) ∧ i ≤ n ∧ tn ≤ i ∧ nn ≤ i ∧ xn ≤ i ∧ Hid (R3 wr w.heap.size T tn tc N nn nc X xn xc (thereM (l.take i)) (numsM (l.take i)) (textsM (l.take i))) ∧ Hid (Below w.heap.size w wr)) (fun _ _ _ vi _ => n - (intOf vi).toNat)
  case atStart => exact ⟨0, 0, 0, 0, none, 0, none, 0, none, 0, rfl, rfl, rfl, rfl, by omega, by omega, by omega, by omega, ⟨Own.nil _ _ _ _, Own.nil _ _ _ _, Own.nil _ _ _ _, .inl rfl⟩, Below.refl _ _⟩
  case round =>
    obtain ⟨i, tn, nn, xn, T, tc, N, nc, X, xc, rfl, rfl, rfl, rfl, hi, htn, hnn, hxn, H3, Hb⟩ := hrel
    by_cases hin : i < n
    · have hil : i < l.length := by rw [Hl.out]; exact hin
      have hiI : (i : Int) < (n : Int) := by omega
      have hi0 : (0 : Int) ≤ (i : Int) := by omega
      obtain ⟨b, o, rfl, c0, c1, c2⟩ := row_cells (Hr.out.below Hb.out) hil
      have Hcell : Hid (∀ w', Below w.heap.size w w' → ∃ b' o', (some ⟨b, o, none⟩ : Option Addr) = some ⟨b', o', none⟩ ∧ w'.cell? ⟨b', o' + i * 3, none⟩ = some (.int .u8 l[i].k) ∧ w'.cell? ⟨b', o' + i * 3 + 1, none⟩ = some (.int .i64 l[i].n) ∧ w'.cell? ⟨b', o' + i * 3 + 2, none⟩ = some (.string (St8 l[i].s))) := fun w' h => row_cells (Hr.out.below h) hil
      have Htk : Hid (l.take (i + 1) = l.take i ++ [l[i]]) := List.take_succ_eq_append_getElem hil
      generalize l[i] = v at *
      obtain ⟨vk, vn, vs⟩ := v
      dsimp only at c0 c1 c2 Hcell
      generalize hL : l.take i = Li at *
      generalize hL2 : l.take (i + 1) = Lj at *
      have HL2 := Lib.hid hL2
      clear hL hL2 hil
      by_cases hk0 : vk = 0
      · subst hk0
        clear Hcell
        go_wp2_with (first | (at_builtin; refine hold ?_) | (at_make; refine hold ?_))
        (with_reducible refine unhold ?_)
        have hbW : Below wr.heap.size wr (wr.alloc (.cells #[.int .i64 0] 3)) := (Below.refl _ _).alloc (Nat.le_refl _) _
        have hnew := (Blk.new wr 3 #[.int .i64 0]).range
        have h3W := H3.out.below hbW
        have hbB := Hb.out.trans (hbW.mono Hb.out.size)
        refine wpList_apd rfl _ _ _ rfl Eint' w.heap.size _ tn _ _ rfl h3W.rT _ 1 _ [.int .i64 0] rfl rfl (fun _ => ⟨_, _, rfl, hnew⟩) (by simp [Value.oneCell']) (tn + 1) rfl (icl (thereM Li ++ [0])) (by simp [icl, wcl]) (by omega) (by omega) hbB.size ?_
        intro A4 c4 w4 ho hg hw
        replace H3 := Lib.hid (h3W.appT _ ho hg hw)
        replace Hb := Lib.hid (hbB.grown hg hbB.size (fun k hk => (h3W.rT.lt k hk).1))
        clear hbW hnew h3W hbB ho hg hw
        go_wp2_with fail
        go_roundw
        case rel => exact ⟨i + 1, tn + 1, nn, xn, A4, c4, N, nc, X, xc, rfl, rfl, rfl, by go_num, by omega, by omega, by omega, by omega, by
          rw [HL2.out, Htk.out, thereM_snoc, if_pos rfl, nums_null _ _ rfl, texts_null _ _ rfl]
          exact H3, Hb⟩
        case measure => simp only [intOf, Int.toNat_natCast]; omega
      · have e0 : (vk == 0) = false := by rw [beq_eq_false_iff_ne]; exact hk0
        have Hk0 := Lib.hid hk0
        clear hk0
        go_wp2_with (first | (at_builtin; refine hold ?_) | (at_make; refine hold ?_))
        (with_reducible refine unhold ?_)
        have hbW : Below wr.heap.size wr (wr.alloc (.cells #[.int .i64 1] 3)) := (Below.refl _ _).alloc (Nat.le_refl _) _
        have hnew := (Blk.new wr 3 #[.int .i64 1]).range
        have h3W := H3.out.below hbW
        have hbB := Hb.out.trans (hbW.mono Hb.out.size)
        refine wpList_apd rfl _ _ _ rfl Eint' w.heap.size _ tn _ _ rfl h3W.rT _ 1 _ [.int .i64 1] rfl rfl (fun _ => ⟨_, _, rfl, hnew⟩) (by simp [Value.oneCell']) (tn + 1) rfl (icl (thereM Li ++ [1])) (by simp [icl, wcl]) (by omega) (by omega) hbB.size ?_
        intro A4 c4 w4 ho hg hw
        replace H3 := Lib.hid (h3W.appT _ ho hg hw)
        replace Hb := Lib.hid (hbB.grown hg hbB.size (fun k hk => (h3W.rT.lt k hk).1))
        clear hbW hnew h3W hbB ho hg hw
        obtain ⟨b', o', e', d0, d1, d2⟩ := Hcell.out w4 Hb.out
        cases e'
        go_wp2_with (first | (at_builtin; refine hold ?_) | (at_make; refine hold ?_))
        (with_reducible refine unhold ?_)
        have hbW : Below w4.heap.size w4 (w4.alloc (.cells #[.int .i64 vn] 3)) := (Below.refl _ _).alloc (Nat.le_refl _) _
        have hnew := (Blk.new w4 3 #[.int .i64 vn]).range
        have h3W := H3.out.below hbW
        have hbB := Hb.out.trans (hbW.mono Hb.out.size)
        refine wpList_apd rfl _ _ _ rfl Eint' w.heap.size _ nn _ _ rfl h3W.rN _ 1 _ [.int .i64 vn] rfl rfl (fun _ => ⟨_, _, rfl, hnew⟩) (by simp [Value.oneCell']) (nn + 1) rfl (icl (numsM Li ++ [vn])) (by simp [icl, wcl]) (by omega) (by omega) hbB.size ?_
        intro A5 c5 w5 ho hg hw
        replace H3 := Lib.hid (h3W.appN _ ho hg hw)
        replace Hb := Lib.hid (hbB.grown hg hbB.size (fun k hk => (h3W.rN.lt k hk).1))
        clear hbW hnew h3W hbB ho hg hw
        clear d0 d1 d2
        obtain ⟨b', o', e', d0, d1, d2⟩ := Hcell.out w5 Hb.out
        cases e'
        go_wp2_with (first | (at_builtin; refine hold ?_) | (at_make; refine hold ?_))
        (with_reducible refine unhold ?_)
        have hbW : Below w5.heap.size w5 (w5.alloc (.cells #[.string (St8 vs)] 9)) := (Below.refl _ _).alloc (Nat.le_refl _) _
        have hnew := (Blk.new w5 9 #[.string (St8 vs)]).range
        have h3W := H3.out.below hbW
        have hbB := Hb.out.trans (hbW.mono Hb.out.size)
        refine wpList_apd rfl _ _ _ rfl E8s w.heap.size _ xn _ _ rfl h3W.rX _ 1 _ [.string (St8 vs)] rfl rfl (fun _ => ⟨_, _, rfl, hnew⟩) (by simp [Value.oneCell']) (xn + 1) rfl (wcl (textsM Li ++ [vs])) (by simp [icl, wcl]) (by omega) (by omega) hbB.size ?_
        intro A6 c6 w6 ho hg hw
        replace H3 := Lib.hid (h3W.appX _ ho hg hw)
        replace Hb := Lib.hid (hbB.grown hg hbB.size (fun k hk => (h3W.rX.lt k hk).1))
        clear hbW hnew h3W hbB ho hg hw
        clear d0 d1 d2
        go_wp2_with fail
        go_roundw
        case rel => exact ⟨i + 1, tn + 1, nn + 1, xn + 1, A4, c4, A5, c5, A6, c6, rfl, rfl, rfl, by go_num, by omega, by omega, by omega, by omega, by
          rw [HL2.out, Htk.out, thereM_snoc, if_neg Hk0.out, nums_some _ _ Hk0.out, texts_some _ _ Hk0.out]
          exact H3, Hb⟩
        case measure => simp only [intOf, Int.toNat_natCast]; omega
    · obtain rfl : i = n := by omega
      have hta : l.take i = l := List.take_of_length_le (by rw [Hl.out]; exact Nat.le_refl _)
      rw [hta] at H3
      have h1 := H3.out.rT.1
      have h2 := H3.out.rN.1
      have h3 := H3.out.rX.1
      rw [icl_len, Nat.mul_one] at h1 h2
      rw [wcl_len, Nat.mul_one] at h3
      have G1 := Lib.hid h1
      have G2 := Lib.hid h2
      have G3 := Lib.hid h3
      clear hta h1 h2 h3
      go_wp2_with fail
      go_ret3
      exact ⟨⟨T, tc, N, nc, X, xc, by rw [G1.out, G2.out, G3.out]; rfl, H3.out.rT.rd, H3.out.rN.rd, H3.out.rX.rd⟩, Hb.out⟩

def plainR (kind : Int) (N : List Int) (X : List (List UInt8)) : List UInt8 := if kind = 3 then flatX X else flatN N
/-- Bytes of the call's own. -/
def OwnOK (b : List UInt8) (w : World) (e : Ending) (w' : World) : Prop :=
  (∃ A c, e = .returned (.slice A b.length c) ∧ Own w' w.heap.size 5 1 A b.length c (Bs b)) ∧ Below w.heap.size w w'
theorem OwnOK.of {b : List UInt8} {w w' : World} {A : Option Addr} {n c : Nat} (ho : Own w' w.heap.size 5 1 A n c (Bs b)) (hn : b.length = n) (hb : Below w.heap.size w w') : OwnOK b w (.returned (.slice A n c)) w' := by
  subst hn
  exact ⟨⟨A, c, rfl, ho⟩, hb⟩

set_option maxHeartbeats 16000000 in
set_option maxRecDepth 100000 in
theorem rplain_num (kind : Int) (hk : kind ≠ 3) (N : List Int) (nn nc xn xc : Nat) (NA XA : Option Addr) (w : World) (hN : Rd w NA (icl N)) (hnn : N.length = nn) (hn4 : nn ≤ 4096) (hNi : ∀ x ∈ N, -9223372036854775808 ≤ x ∧ x ≤ 9223372036854775807) :
    Calls Tryz.prog 79 #[.int .u8 kind, .slice NA nn nc, .slice XA xn xc] w fun e w' => OwnOK (flatN N) w e w' := by
  have HN := Lib.hid hN
  have Hnn := Lib.hid hnn
  have HNi := Lib.hid hNi
  have hfn := Lib.hid (fun j => flatN_le hNi (by omega) j)
  have e3 : (kind == 3) = false := by rw [beq_eq_false_iff_ne]; exact hk
  clear hN hnn hNi hk
  go_enter Tryz.func79, Tryz.ntmps79
  go_wp2_with fail
  go_loopw [7, 8] (fun vb vi wr => ∃ (j bl c' : Nat) (A' : Option Addr), vb = .slice A' bl c' ∧ vi = .int .i64 (j : Int) ∧ j ≤ nn ∧ Hid ((flatN (N.take j)).length = bl) ∧ Hid (Own wr w.heap.size 5 1 A' bl c' (Bs (flatN (N.take j)))) ∧ Hid (Below w.heap.size w wr)) (fun _ vi _ => nn - (intOf vi).toNat)
  case atStart => exact ⟨0, 0, 0, none, rfl, rfl, by omega, rfl, Own.nil _ _ _ _, Below.refl _ _⟩
  case round =>
    obtain ⟨j, bl, c', A', rfl, rfl, hj, Hbl, Ho, Hbr⟩ := hrel
    by_cases hjn : j < nn
    · have hjl : j < N.length := by rw [Hnn.out]; exact hjn
      have hjI : (j : Int) < (nn : Int) := by omega
      have hj0 : (0 : Int) ≤ (j : Int) := by omega
      obtain ⟨b, o, rfl, c0⟩ := icl_get (HN.out.below Hbr.out) hjl
      have hx := HNi.out _ (List.getElem_mem hjl)
      have Hsn := Lib.hid (flatN_snoc hjl)
      have hbl := hfn.out j
      rw [Hbl.out] at hbl
      generalize N[j] = x at *
      have Hx := Lib.hid hx
      have hz9 := numB_le9 (zigN_lt hx)
      have Hrd := Lib.hid Ho.out.rd
      clear hjl hx Ho
      go_wp2_with fail
      refine (rint_any (flatN (N.take j)) bl c' x A' wr Hbl.out Hrd.out (by omega) Hx.out).mono ?_
      rintro e w6 ⟨A6, c6, rfl, ho6, hb6⟩
      rw [← Hsn.out] at ho6
      have HO6 := Lib.hid (ho6.lower Hbr.out.size)
      have Hb6 := Lib.hid (Hbr.out.trans (hb6.mono Hbr.out.size))
      have Hl6 : Hid ((flatN (N.take (j + 1))).length = bl + (numB (zigN x)).length) := by show _ = _; rw [Hsn.out, List.length_append, Hbl.out]
      clear ho6 hb6 Hrd c0
      go_wp2_with fail
      go_roundw
      case rel => exact ⟨j + 1, _, c6, A6, rfl, by go_num, by omega, Hl6, HO6, Hb6⟩
      case measure => simp only [intOf, Int.toNat_natCast]; omega
    · obtain rfl : j = nn := by omega
      have hta : N.take j = N := List.take_of_length_le (by rw [Hnn.out]; exact Nat.le_refl _)
      rw [hta] at Hbl Ho
      clear hta
      go_wp2_with fail
      go_ret
      exact OwnOK.of Ho.out Hbl.out Hbr.out

set_option maxHeartbeats 16000000 in
set_option maxRecDepth 100000 in
theorem rplain_text (X : List (List UInt8)) (nn nc xc : Nat) (NA XA : Option Addr) (w : World) (hX : Rd w XA (wcl X)) (hxn : X.length = nn) (hn4 : nn ≤ 4096) (hXi : ∀ s ∈ X, s.length ≤ 1024) :
    Calls Tryz.prog 79 #[.int .u8 3, .slice NA nn nc, .slice XA nn xc] w fun e w' => OwnOK (flatX X) w e w' := by
  have HX := Lib.hid hX
  have Hxn := Lib.hid hxn
  have HXi := Lib.hid hXi
  have hfx := Lib.hid (fun j => flatX_le hXi (by omega) j)
  clear hX hxn hXi
  go_enter Tryz.func79, Tryz.ntmps79
  go_wp2_with fail
  go_loopw [7, 8] (fun vb vi wr => ∃ (q bq cq : Nat) (Aq : Option Addr), vb = .slice Aq bq cq ∧ vi = .int .i64 (q : Int) ∧ q ≤ nn ∧ Hid ((flatX (X.take q)).length = bq) ∧ Hid (Own wr w.heap.size 5 1 Aq bq cq (Bs (flatX (X.take q)))) ∧ Hid (Below w.heap.size w wr)) (fun _ vi _ => nn - (intOf vi).toNat)
  case atStart => exact ⟨0, 0, 0, none, rfl, rfl, by omega, rfl, Own.nil _ _ _ _, Below.refl _ _⟩
  case round =>
    obtain ⟨q, bq, cq, Aq, rfl, rfl, hq, Hbq, Hoq, Hbw⟩ := hrel
    by_cases hqn : q < nn
    · have hql : q < X.length := by rw [Hxn.out]; exact hqn
      have hqI : (q : Int) < (nn : Int) := by omega
      have hq0 : (0 : Int) ≤ (q : Int) := by omega
      obtain ⟨b, o, rfl, c0⟩ := (HX.out.below Hbw.out).word hql
      have hx := HXi.out _ (List.getElem_mem hql)
      have Hsn := Lib.hid (flatX_snoc hql [])
      have hfx2 := hfx.out q
      rw [Hbq.out] at hfx2
      generalize X[q] = s at *
      obtain ⟨S, hS⟩ : ∃ S, s.length = S := ⟨_, rfl⟩
      rw [hS] at hx Hsn
      rw [List.nil_append, List.nil_append] at Hsn
      have HS := Lib.hid hS
      have hs9 := numB_le9 (n := S) (by omega)
      have Hrd := Lib.hid Hoq.out.rd
      have Hl6 : Hid ((flatX (X.take (q + 1))).length = bq + (numB S).length + S) := by show _ = _; rw [Hsn.out, List.length_append, Hbq.out, List.length_append, HS.out]; omega
      clear hql Hoq hS
      go_wp2_with fail
      refine (rtext_any (flatX (X.take q)) s bq cq S Aq wr Hbq.out HS.out Hrd.out (by omega) (by omega)).mono ?_
      rintro e w6 ⟨A6, c6, rfl, ho6, hb6⟩
      rw [← Hsn.out] at ho6
      have HO6 := Lib.hid (ho6.lower Hbw.out.size)
      have Hb6 := Lib.hid (Hbw.out.trans (hb6.mono Hbw.out.size))
      clear ho6 hb6 Hrd c0
      go_wp2_with fail
      go_roundw
      case rel => exact ⟨q + 1, _, c6, A6, rfl, by go_num, by omega, Hl6, HO6, Hb6⟩
      case measure => simp only [intOf, Int.toNat_natCast]; omega
    · obtain rfl : q = nn := by omega
      have htx : X.take q = X := List.take_of_length_le (by rw [Hxn.out]; exact Nat.le_refl _)
      rw [htx] at Hbq Hoq
      clear htx
      go_wp2_with fail
      go_ret
      exact OwnOK.of Hoq.out Hbq.out Hbw.out
theorem rplain_any (kind : Int) (N : List Int) (X : List (List UInt8)) (nn nc xc : Nat) (NA XA : Option Addr) (w : World) (hN : Rd w NA (icl N)) (hX : Rd w XA (wcl X)) (hnn : N.length = nn) (hxn : X.length = nn) (hn4 : nn ≤ 4096) (hNi : ∀ x ∈ N, -9223372036854775808 ≤ x ∧ x ≤ 9223372036854775807) (hXi : ∀ s ∈ X, s.length ≤ 1024) :
    Calls Tryz.prog 79 #[.int .u8 kind, .slice NA nn nc, .slice XA nn xc] w fun e w' => OwnOK (plainR kind N X) w e w' := by
  unfold plainR
  by_cases h : kind = 3
  · subst h
    rw [if_pos rfl]
    exact rplain_text X nn nc xc NA XA w hX hxn hn4 hXi
  · rw [if_neg h]
    exact rplain_num kind h N nn nc nn xc NA XA w hN hnn hn4 hNi
end Go.Proofs.YtojppmnmhdgnnaaGreat
namespace Go.Proofs.YtojppmnmhdgnnaaGreat
set_option linter.unusedVariables false
set_option linter.unusedSimpArgs false
open Go.RowKit

attribute [local go_sem ↓] Go.wp_at_zero Go.wp_at_succ

/-- By an encoding; none: it can't be. -/
def byP (kind how : Int) (N : List Int) (X : List (List UInt8)) : Option (List UInt8) :=
  if how = 1 then some (plainR kind N X)
  else if ((decide (how = 3)) == (decide (kind = 3))) = false then none
  else if how = 2 then some (runsB N)
  else if how = 4 then some (frameB N)
  else if how = 5 then deltaB N
  else wordsB X
theorem plainR_lay (kind : Int) (l : RowM) : plainR kind (numsM l) (textsM l) = flatN (numsK kind l) ++ flatX (textsK kind l) := by
  unfold plainR numsK textsK
  by_cases h : kind = 3
  · simp only [if_pos h]
    rfl
  · simp only [if_neg h]
    rw [show flatX [] = [] from rfl, List.append_nil]
theorem by_lay (kind how : Int) (l : RowM) (hh : howOk how = true) :
    layP kind how (numsK kind l) (textsK kind l) = match byP kind how (numsM l) (textsM l) with | some b => (b, how) | none => (plainR kind (numsM l) (textsM l), 1) := by
  have hh2 := of_decide_eq_true hh
  rw [plainR_lay]
  unfold layP byP
  rw [plainR_lay]
  by_cases h1 : how = 1
  · subst h1
    rw [if_pos rfl]
    split
    · rfl
    · rfl
  · rw [if_neg h1]
    by_cases hm : ((decide (how = 3)) == (decide (kind = 3))) = false
    · rw [if_pos hm, if_pos hm]
    · rw [if_neg hm, if_neg hm]
      have he : (how = 3 ↔ kind = 3) := by
        simp only [Bool.not_eq_false, beq_iff_eq, decide_eq_decide] at hm
        exact hm
      have hc : how = 2 ∨ how = 4 ∨ how = 3 ∨ how = 5 := by omega
      rcases hc with rfl | rfl | rfl | rfl
      · have hk : kind ≠ 3 := fun e => by have := he.2 e; omega
        have e : numsK kind l = numsM l := by unfold numsK; rw [if_neg hk]
        rw [e]
        rfl
      · have hk : kind ≠ 3 := fun e => by have := he.2 e; omega
        have e : numsK kind l = numsM l := by unfold numsK; rw [if_neg hk]
        rw [e]
        rfl
      · have hk : kind = 3 := he.1 rfl
        have e : textsK kind l = textsM l := by unfold textsK; rw [if_pos hk]
        rw [e]
        rfl
      · have hk : kind ≠ 3 := fun e => by have := he.2 e; omega
        have e : numsK kind l = numsM l := by unfold numsK; rw [if_neg hk]
        rw [e]
        rfl

/-- How by ends. -/
def ByOK (x : Option (List UInt8)) (w : World) (e : Ending) (w' : World) : Prop :=
  ((x = none ∧ e = .returned (.tuple #[.slice none 0 0, .bool false])) ∨ ∃ b A c, x = some b ∧ e = .returned (.tuple #[.slice A b.length c, .bool true]) ∧ Own w' w.heap.size 5 1 A b.length c (Bs b)) ∧ Below w.heap.size w w'
theorem ByOK.of {x : Option (List UInt8)} {b : List UInt8} {w w' : World} {A : Option Addr} {n c : Nat} (h : x = some b) (ho : Own w' w.heap.size 5 1 A n c (Bs b)) (hn : b.length = n) (hb : Below w.heap.size w w') : ByOK x w (.returned (.tuple #[.slice A n c, .bool true])) w' := by
  subst hn
  exact ⟨.inr ⟨b, A, c, h, rfl, ho⟩, hb⟩

set_option maxHeartbeats 16000000 in
set_option maxRecDepth 100000 in
theorem by_1 (kind : Int) (N : List Int) (X : List (List UInt8)) (nn nc xc : Nat) (NA XA : Option Addr) (w : World) (hN : Rd w NA (icl N)) (hX : Rd w XA (wcl X)) (hnn : N.length = nn) (hxn : X.length = nn) (hn4 : nn ≤ 4096) (hNi : ∀ x ∈ N, -9223372036854775808 ≤ x ∧ x ≤ 9223372036854775807) (hXi : ∀ s ∈ X, s.length ≤ 1024) :
    Calls Tryz.prog 56 #[.int .u8 kind, .slice NA nn nc, .slice XA nn xc, .int .u8 1] w fun e w' => ByOK (some (plainR kind N X)) w e w' := by
  have hp := Lib.hid (rplain_any kind N X nn nc xc NA XA w hN hX hnn hxn hn4 hNi hXi)
  obtain ⟨P, hP⟩ : ∃ P, plainR kind N X = P := ⟨_, rfl⟩
  rw [hP] at hp ⊢
  clear hN hX hnn hxn hNi hXi hP
  go_enter Tryz.func56, Tryz.ntmps56
  go_wp2_with fail
  refine hp.out.mono ?_
  rintro e w1 ⟨⟨A, c, rfl, ho⟩, hb⟩
  have Ho := Lib.hid ho
  have Hb := Lib.hid hb
  obtain ⟨n, hn⟩ : ∃ n, P.length = n := ⟨_, rfl⟩
  rw [hn] at Ho ⊢
  have Hn := Lib.hid hn
  clear ho hb hn hp
  go_wp2_with fail
  go_ret2
  exact ByOK.of rfl Ho.out Hn.out Hb.out
set_option maxHeartbeats 16000000 in
set_option maxRecDepth 100000 in
theorem by_m1 (kind : Int) (hk : kind ≠ 3) (N : List Int) (X : List (List UInt8)) (nn nc xc : Nat) (NA XA : Option Addr) (w : World) (hN : Rd w NA (icl N)) (hX : Rd w XA (wcl X)) (hnn : N.length = nn) (hxn : X.length = nn) (hn4 : nn ≤ 4096) (hNi : ∀ x ∈ N, -9223372036854775808 ≤ x ∧ x ≤ 9223372036854775807) (hXi : ∀ s ∈ X, s.length ≤ 1024) :
    Calls Tryz.prog 56 #[.int .u8 kind, .slice NA nn nc, .slice XA nn xc, .int .u8 3] w fun e w' => ByOK (none) w e w' := by
  have e3 : (kind == 3) = false := by rw [beq_eq_false_iff_ne]; exact hk
  clear hN hX hnn hxn hNi hXi hk
  go_enter Tryz.func56, Tryz.ntmps56
  go_wp2_with fail
  go_ret2
  exact ⟨.inl ⟨rfl, rfl⟩, Below.refl _ _⟩
set_option maxHeartbeats 16000000 in
set_option maxRecDepth 100000 in
theorem by_m2 (how : Int) (h1 : how ≠ 1) (h3 : how ≠ 3) (N : List Int) (X : List (List UInt8)) (nn nc xc : Nat) (NA XA : Option Addr) (w : World) (hN : Rd w NA (icl N)) (hX : Rd w XA (wcl X)) (hnn : N.length = nn) (hxn : X.length = nn) (hn4 : nn ≤ 4096) (hNi : ∀ x ∈ N, -9223372036854775808 ≤ x ∧ x ≤ 9223372036854775807) (hXi : ∀ s ∈ X, s.length ≤ 1024) :
    Calls Tryz.prog 56 #[.int .u8 3, .slice NA nn nc, .slice XA nn xc, .int .u8 how] w fun e w' => ByOK (none) w e w' := by
  have e1 : (how == 1) = false := by rw [beq_eq_false_iff_ne]; exact h1
  have e3 : (how == 3) = false := by rw [beq_eq_false_iff_ne]; exact h3
  clear hN hX hnn hxn hNi hXi h1 h3
  go_enter Tryz.func56, Tryz.ntmps56
  go_wp2_with fail
  go_ret2
  exact ⟨.inl ⟨rfl, rfl⟩, Below.refl _ _⟩
set_option maxHeartbeats 16000000 in
set_option maxRecDepth 100000 in
theorem by_2 (kind : Int) (hk : kind ≠ 3) (N : List Int) (X : List (List UInt8)) (nn nc xc : Nat) (NA XA : Option Addr) (w : World) (hN : Rd w NA (icl N)) (hX : Rd w XA (wcl X)) (hnn : N.length = nn) (hxn : X.length = nn) (hn4 : nn ≤ 4096) (hNi : ∀ x ∈ N, -9223372036854775808 ≤ x ∧ x ≤ 9223372036854775807) (hXi : ∀ s ∈ X, s.length ≤ 1024) :
    Calls Tryz.prog 56 #[.int .u8 kind, .slice NA nn nc, .slice XA nn xc, .int .u8 2] w fun e w' => ByOK (some (runsB N)) w e w' := by
  have hc := Lib.hid (rrunsput_any N nn nc NA w hnn hN hn4 hNi)
  obtain ⟨P, hP⟩ : ∃ P, runsB N = P := ⟨_, rfl⟩
  rw [hP] at hc ⊢
  have e3 : (kind == 3) = false := by rw [beq_eq_false_iff_ne]; exact hk
  clear hN hX hnn hxn hNi hXi hP hk
  go_enter Tryz.func56, Tryz.ntmps56
  go_wp2_with fail
  refine hc.out.mono ?_
  rintro e w1 h1
  obtain ⟨n, hn⟩ : ∃ n, P.length = n := ⟨_, rfl⟩
  obtain ⟨⟨A, c, rfl, ho⟩, hb⟩ := h1.len hn
  have Ho := Lib.hid ho
  have Hb := Lib.hid hb
  have Hn := Lib.hid hn
  clear ho hb hn hc h1
  go_wp2_with fail
  go_ret2
  exact ByOK.of rfl Ho.out Hn.out Hb.out
set_option maxHeartbeats 16000000 in
set_option maxRecDepth 100000 in
theorem by_4 (kind : Int) (hk : kind ≠ 3) (N : List Int) (X : List (List UInt8)) (nn nc xc : Nat) (NA XA : Option Addr) (w : World) (hN : Rd w NA (icl N)) (hX : Rd w XA (wcl X)) (hnn : N.length = nn) (hxn : X.length = nn) (hn4 : nn ≤ 4096) (hNi : ∀ x ∈ N, -9223372036854775808 ≤ x ∧ x ≤ 9223372036854775807) (hXi : ∀ s ∈ X, s.length ≤ 1024) :
    Calls Tryz.prog 56 #[.int .u8 kind, .slice NA nn nc, .slice XA nn xc, .int .u8 4] w fun e w' => ByOK (some (frameB N)) w e w' := by
  have hc := Lib.hid (rframe_any N nn nc NA w hnn hN hn4 hNi)
  obtain ⟨P, hP⟩ : ∃ P, frameB N = P := ⟨_, rfl⟩
  rw [hP] at hc ⊢
  have e3 : (kind == 3) = false := by rw [beq_eq_false_iff_ne]; exact hk
  clear hN hX hnn hxn hNi hXi hP hk
  go_enter Tryz.func56, Tryz.ntmps56
  go_wp2_with fail
  refine hc.out.mono ?_
  rintro e w1 h1
  obtain ⟨n, hn⟩ : ∃ n, P.length = n := ⟨_, rfl⟩
  obtain ⟨⟨A, c, rfl, ho⟩, hb⟩ := h1.len hn
  have Ho := Lib.hid ho
  have Hb := Lib.hid hb
  have Hn := Lib.hid hn
  clear ho hb hn hc h1
  go_wp2_with fail
  go_ret2
  exact ByOK.of rfl Ho.out Hn.out Hb.out
set_option maxHeartbeats 16000000 in
set_option maxRecDepth 100000 in
theorem by_5 (kind : Int) (hk : kind ≠ 3) (N : List Int) (X : List (List UInt8)) (nn nc xc : Nat) (NA XA : Option Addr) (w : World) (hN : Rd w NA (icl N)) (hX : Rd w XA (wcl X)) (hnn : N.length = nn) (hxn : X.length = nn) (hn4 : nn ≤ 4096) (hNi : ∀ x ∈ N, -9223372036854775808 ≤ x ∧ x ≤ 9223372036854775807) (hXi : ∀ s ∈ X, s.length ≤ 1024) :
    Calls Tryz.prog 56 #[.int .u8 kind, .slice NA nn nc, .slice XA nn xc, .int .u8 5] w fun e w' => ByOK (deltaB N) w e w' := by
  have hc := Lib.hid (rdeltaput_any N nn nc NA w hnn hN hn4 hNi)
  obtain ⟨R, hR⟩ : ∃ R, deltaB N = R := ⟨_, rfl⟩
  rw [hR]
  have HR := Lib.hid hR
  have e3 : (kind == 3) = false := by rw [beq_eq_false_iff_ne]; exact hk
  clear hN hX hnn hxn hNi hXi hk hR
  go_enter Tryz.func56, Tryz.ntmps56
  go_wp2_with fail
  refine hc.out.mono ?_
  rintro e w1 h1
  rcases h1 with ⟨h2, rfl, hb⟩ | ⟨b, h2, h3⟩
  · have hf : Hid (R = none) := by show _ = _; rw [← HR.out, h2]
    have Hb := Lib.hid hb
    clear h2 hb hc
    go_wp2_with fail
    go_ret2
    exact ⟨.inl ⟨hf.out, rfl⟩, Hb.out⟩
  · have hf : Hid (R = some b) := by show _ = _; rw [← HR.out, h2]
    obtain ⟨n, hn⟩ : ∃ n, b.length = n := ⟨_, rfl⟩
    obtain ⟨⟨A, c, rfl, ho⟩, hb⟩ := h3.len hn
    have Ho := Lib.hid ho
    have Hb := Lib.hid hb
    have Hn := Lib.hid hn
    clear ho hb hn hc h2 h3
    go_wp2_with fail
    go_ret2
    exact ByOK.of hf.out Ho.out Hn.out Hb.out
set_option maxHeartbeats 16000000 in
set_option maxRecDepth 100000 in
theorem by_3 (N : List Int) (X : List (List UInt8)) (nn nc xc : Nat) (NA XA : Option Addr) (w : World) (hX : Rd w XA (wcl X)) (hxn : X.length = nn) (hn4 : nn ≤ 4096) :
    Calls Tryz.prog 56 #[.int .u8 3, .slice NA nn nc, .slice XA nn xc, .int .u8 3] w fun e w' => ByOK (wordsB X) w e w' := by
  have hof := Lib.hid (drof_any X nn xc XA w hxn hX hn4)
  obtain ⟨RR, hRR⟩ : ∃ RR, wordsB X = RR := ⟨_, rfl⟩
  rw [hRR]
  have HRR := Lib.hid hRR
  clear hRR
  cases ho : ofM X with
  | none =>
    have Ho := Lib.hid ho
    have Hf := Lib.hid (wordsB_none ho)
    clear ho hX hxn
    go_enter Tryz.func56, Tryz.ntmps56
    go_wp2_with fail
    refine hof.out.mono ?_
    intro e w1 h1
    obtain ⟨h1, hb1⟩ := h1
    rcases h1 with ⟨_, rfl⟩ | ⟨W, p, A, c, A2, c2, h2, _⟩
    · have Hb1 := Lib.hid hb1
      clear hb1 hof
      go_wp2_with fail
      go_ret2
      exact ⟨.inl ⟨by rw [← HRR.out, Hf.out], rfl⟩, Hb1.out⟩
    · rw [Ho.out] at h2
      cases h2
  | some Wp =>
    obtain ⟨W, p⟩ := Wp
    obtain ⟨hpl, hW, hrW, hpin⟩ := places_in ho
    obtain ⟨b, hb⟩ := putM_of ho
    have Hw := Lib.hid (wordsB_some ho hb)
    have Hb := Lib.hid hb
    have Ho := Lib.hid ho
    have Hpin := Lib.hid hpin
    rw [hxn] at hpl
    have Hpl := Lib.hid hpl
    obtain ⟨K, hK⟩ : ∃ K, W.length = K := ⟨_, rfl⟩
    rw [hK] at hW
    have HK := Lib.hid hK
    obtain ⟨B, hB⟩ : ∃ B, b.length = B := ⟨_, rfl⟩
    have HB := Lib.hid hB
    obtain ⟨Z, hZ⟩ : ∃ Z, frameB p = Z := ⟨_, rfl⟩
    have HZ := Lib.hid hZ
    obtain ⟨F, hF⟩ : ∃ F, Z.length = F := ⟨_, rfl⟩
    have HF := Lib.hid hF
    have hBF : B ≤ 300000 ∧ F ≤ 100000 := by
      refine ⟨?_, ?_⟩
      · rw [← hB]
        unfold putM at hb
        rw [if_pos hrW] at hb
        injection hb with hb
        rw [← hb, List.length_append]
        have h1 := numB_le9 (n := W.length) (by omega)
        have h2 := putF_len W [] (by simp) (fun x hx => (rightW_le hrW).1 x hx)
        have h3 : W.length * 1042 ≤ 200 * 1042 := Nat.mul_le_mul_right _ (by omega)
        omega
      · rw [← hF, ← hZ]
        unfold frameB
        rw [hpl]
        have h1 := numB_le9 (n := nn) (by omega)
        rw [List.length_append]
        split
        · simp only [List.length_nil]; omega
        · rename_i hne
          have h2 := numB_le9 (zigN_lt (hpin _ (least_mem hne)))
          have h3 := width_64 (moreM_lt hpin)
          have h4 := numB_le9 (n := widthM (moreM p)) (by omega)
          rw [List.length_append, List.length_append, packB_len, moreM_len, hpl]
          have h5 : nn * widthM (moreM p) ≤ 4096 * 64 := Nat.mul_le_mul hn4 h3
          unfold bytesN
          omega
    clear ho hX hxn hpl hb hpin hrW hK hB hZ hF
    go_enter Tryz.func56, Tryz.ntmps56
    go_wp2_with fail
    refine hof.out.mono ?_
    intro e w1 h1
    obtain ⟨h1, hb1⟩ := h1
    rcases h1 with ⟨h2, _⟩ | ⟨W', p', A, c, A2, c2, h2, rfl, hA, hA2⟩
    · rw [Ho.out] at h2
      cases h2
    · rw [Ho.out] at h2
      injection h2 with h2
      injection h2 with h2 h3
      subst h2
      subst h3
      rw [HK.out, Hpl.out]
      have Hb1 := Lib.hid hb1
      have HA := Lib.hid hA
      have HA2 := Lib.hid hA2
      clear hb1 hA hA2 hof
      go_wp2_with fail
      refine (drput_any W K c A w1 HK.out HA.out (by omega)).mono ?_
      intro e w2 h2
      obtain ⟨h2, hb2⟩ := h2
      rcases h2 with ⟨h3, _⟩ | ⟨b', B1, cb, h3, rfl, ho2⟩
      · rw [Hb.out] at h3
        cases h3
      · rw [Hb.out] at h3
        injection h3 with h3
        subst h3
        rw [HB.out] at ho2 ⊢
        have Hb2 := Lib.hid (Hb1.out.trans (hb2.mono Hb1.out.size))
        have Ho2 := Lib.hid (ho2.lower Hb1.out.size)
        have HA22 := Lib.hid (HA2.out.below hb2)
        clear ho2 hb2
        go_wp2_with fail
        refine (rframe_any p nn c2 A2 w2 Hpl.out HA22.out hn4 Hpin.out).mono ?_
        rintro e w3 h3
        rw [HZ.out] at h3
        obtain ⟨⟨A3, c3, rfl, ho3⟩, hb3⟩ := h3.len HF.out
        have Hb3 := Lib.hid (Hb2.out.trans (hb3.mono Hb2.out.size))
        have Ho23 := Lib.hid (Ho2.out.below hb3)
        have Hr3 := Lib.hid ho3.rd
        clear h3 ho3 hb3
        go_wp2_with (first | (at_builtin; refine hold ?_) | (at_make; refine hold ?_))
        (with_reducible refine unhold ?_)
        refine wpList_apd rfl _ _ _ rfl E8 w.heap.size _ B _ (Bs b) rfl Ho23.out _ F _ (Bs Z) rfl (by rw [Bs, List.length_map, HF.out, Nat.mul_one]) Hr3.out (Bs_one Z) (B + F) rfl (Bs (b ++ Z)) (by rw [Bs, Bs, ← List.map_append]) (by omega) (by omega) Hb3.out.size ?_
        intro A8 c8 w8 ho8 hg8 _
        have Hb8 := Lib.hid (Hb3.out.grown hg8 Hb3.out.size Ho23.out.row_ge)
        have Ho8 := Lib.hid ho8
        have HT : Hid ((b ++ Z).length = B + F) := by show _ = _; rw [List.length_append, HB.out, HF.out]
        clear ho8 hg8
        go_wp2_with fail
        go_ret2
        exact ByOK.of (by rw [← HRR.out, Hw.out, HZ.out]) Ho8.out HT.out Hb8.out

theorem by_any (kind how : Int) (hk : kindOk kind = true) (hh : howOk how = true) (N : List Int) (X : List (List UInt8)) (nn nc xc : Nat) (NA XA : Option Addr) (w : World) (hN : Rd w NA (icl N)) (hX : Rd w XA (wcl X)) (hnn : N.length = nn) (hxn : X.length = nn) (hn4 : nn ≤ 4096) (hNi : ∀ x ∈ N, -9223372036854775808 ≤ x ∧ x ≤ 9223372036854775807) (hXi : ∀ s ∈ X, s.length ≤ 1024) :
    Calls Tryz.prog 56 #[.int .u8 kind, .slice NA nn nc, .slice XA nn xc, .int .u8 how] w fun e w' => ByOK (byP kind how N X) w e w' := by
  have hh2 := of_decide_eq_true hh
  by_cases h1 : how = 1
  · subst h1
    have e : byP kind 1 N X = some (plainR kind N X) := by unfold byP; rw [if_pos rfl]
    rw [e]
    exact by_1 kind N X nn nc xc NA XA w hN hX hnn hxn hn4 hNi hXi
  · by_cases h3 : how = 3
    · subst h3
      by_cases hk3 : kind = 3
      · subst hk3
        have e : byP 3 3 N X = wordsB X := rfl
        rw [e]
        exact by_3 N X nn nc xc NA XA w hX hxn hn4
      · have e : byP kind 3 N X = none := by unfold byP; rw [if_neg (by decide), if_pos (by simp [hk3])]
        rw [e]
        exact by_m1 kind hk3 N X nn nc xc NA XA w hN hX hnn hxn hn4 hNi hXi
    · by_cases hk3 : kind = 3
      · subst hk3
        have e : byP 3 how N X = none := by unfold byP; rw [if_neg h1, if_pos (by simp [h3])]
        rw [e]
        exact by_m2 how h1 h3 N X nn nc xc NA XA w hN hX hnn hxn hn4 hNi hXi
      · have e0 : ¬ ((decide (how = 3)) == (decide (kind = 3))) = false := by simp [h3, hk3]
        have hc : how = 2 ∨ how = 4 ∨ how = 5 := by omega
        rcases hc with rfl | rfl | rfl
        · have e : byP kind 2 N X = some (runsB N) := by unfold byP; rw [if_neg h1, if_neg e0]; rfl
          rw [e]
          exact by_2 kind hk3 N X nn nc xc NA XA w hN hX hnn hxn hn4 hNi hXi
        · have e : byP kind 4 N X = some (frameB N) := by unfold byP; rw [if_neg h1, if_neg e0]; rfl
          rw [e]
          exact by_4 kind hk3 N X nn nc xc NA XA w hN hX hnn hxn hn4 hNi hXi
        · have e : byP kind 5 N X = deltaB N := by unfold byP; rw [if_neg h1, if_neg e0]; rfl
          rw [e]
          exact by_5 kind hk3 N X nn nc xc NA XA w hN hX hnn hxn hn4 hNi hXi

set_option maxRecDepth 100000 in
theorem rkind_any (k : Int) (w : World) : Calls Tryz.prog 20 #[.int .u8 k] w fun e w' => e = .returned (.bool (kindOk k)) ∧ w = w' := by
  by_cases h1 : 1 ≤ k
  · have e : kindOk k = decide (k ≤ 3) := by
      unfold kindOk
      by_cases h : k ≤ 3
      · rw [decide_eq_true h, decide_eq_true ⟨h1, h⟩]
      · rw [decide_eq_false h, decide_eq_false (fun h' => h h'.2)]
    rw [e]
    clear e
    go_enter Tryz.func20, Tryz.ntmps20
    go_wp2_with fail
    go_ret
    exact ⟨rfl, rfl⟩
  · have e : kindOk k = false := by unfold kindOk; exact decide_eq_false (fun h' => h1 h'.1)
    rw [e]
    clear e
    go_enter Tryz.func20, Tryz.ntmps20
    go_wp2_with fail
    go_ret
    exact ⟨rfl, rfl⟩
end Go.Proofs.YtojppmnmhdgnnaaGreat
