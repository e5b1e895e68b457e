/- Walks: a column's values taken apart: the program's. Walks: a column's texts by their words: the program's. -/
import Derived.Test.YtojppmnmhdgnnaaGreatMCoHI
import Derived.Test.YtojppmnmhdgnnaaGreatMCoMP
import Derived.Test.YtojppmnmhdgnnaaGreatMOcPT
import Derived.Laws.ResultCell
import Derived.Laws.Rows
import Derived.Test.YtojppmnmhdgnnaaGreatMDwHJ
import Derived.Test.YtojppmnmhdgnnaaGreatMDwFG
import Derived.Test.YtojppmnmhdgnnaaGreatMDiQF
namespace Go.Proofs.YtojppmnmhdgnnaaGreat
set_option linter.unusedVariables false
set_option linter.unusedSimpArgs false
open Go.RowKit

attribute [local go_sem ↓] Go.wp_at_zero Go.wp_at_succ

/-- A row of one type of element is in no block of another one. -/
theorem Own.far {w : World} {base : Nat} {e : TypeId} {size : Nat} {A : Option Addr} {n c : Nat} {xs : List Value} (h : Own w base e size A n c xs) {g : Nat} {t : TypeId} {ys : List Value} (hg : Blk w g t ys) (hne : e ≠ t) : (Value.slice A n c).ownBlock ≠ some g := by
  intro hk
  rcases h.lies with ⟨rfl, _⟩ | ⟨k, cur, rfl, _, _, hh, _⟩
  · cases hk
  · have e1 : k = g := by simpa [Value.ownBlock] using hk
    subst e1
    unfold Blk at hg
    rw [hg] at hh
    injection hh with hh
    injection hh with _ e2
    exact hne e2.symm
theorem Own.other {w : World} {base base' : Nat} {e e' : TypeId} {size size' : Nat} {A A' : Option Addr} {n c n' c' : Nat} {xs ys : List Value} (h : Own w base e size A n c xs) (h' : Own w base' e' size' A' n' c' ys) (hne : e ≠ e') :
    (Value.slice A n c).ownBlock = none ∨ (Value.slice A n c).ownBlock ≠ (Value.slice A' n' c').ownBlock := by
  rcases h.lies with ⟨rfl, _⟩ | ⟨k, cur, rfl, _, _, hh, _⟩
  · exact .inl rfl
  · refine .inr fun hk => ?_
    rcases h'.lies with ⟨rfl, _⟩ | ⟨k', cur', rfl, _, _, hh', _⟩
    · cases hk
    · have e1 : k = k' := by simpa [Value.ownBlock] using hk
      subst e1
      rw [hh] at hh'
      injection hh' with hh'
      injection hh' with _ e2
      exact hne e2

/-- The parts of a column in memory of the call's own: block g. -/
structure PA (w : World) (base g : Nat) (kind : Int) (T : Option Addr) (tn tc : Nat) (N : Option Addr) (nn nc : Nat) (X : Option Addr) (xn xc : Nat) (t n : List Int) (x : List (List UInt8)) : Prop where
  blk : Blk w g 40 [.int .u8 kind, .slice T tn tc, .slice N nn nc, .slice X xn xc]
  lo : base ≤ g
  rT : Own w base 3 1 T tn tc (icl t)
  rN : Own w base 3 1 N nn nc (icl n)
  rX : Own w base 9 1 X xn xc (wcl x)
  dj : (Value.slice T tn tc).ownBlock = none ∨ (Value.slice T tn tc).ownBlock ≠ (Value.slice N nn nc).ownBlock
theorem PA.below {w w' : World} {base g : Nat} {kind : Int} {T N X : Option Addr} {tn tc nn nc xn xc : Nat} {t n : List Int} {x : List (List UInt8)} (h : PA w base g kind T tn tc N nn nc X xn xc t n x) (hb : Below w.heap.size w w') : PA w' base g kind T tn tc N nn nc X xn xc t n x :=
  ⟨h.blk.below hb, h.lo, h.rT.below hb, h.rN.below hb, h.rX.below hb, h.dj⟩
theorem own_new {w : World} {base : Nat} {e : TypeId} {size : Nat} {A : Option Addr} {n c : Nat} {xs : List Value} (h : Own w base e size A n c xs) : ∀ k, (Value.slice A n c).ownBlock = some k → k < w.heap.size := fun k hk => (h.lt k hk).2
theorem dj_next {w : World} {base : Nat} {e : TypeId} {size : Nat} {A B A' : Option Addr} {n c m d n' c' : Nat} {ys : List Value} (hB : Own w base e size B m d ys) (hdj : (Value.slice A n c).ownBlock = none ∨ (Value.slice A n c).ownBlock ≠ (Value.slice B m d).ownBlock)
    (hw : (Value.slice A' n' c').ownBlock = (Value.slice A n c).ownBlock ∨ (Value.slice A' n' c').ownBlock = some w.heap.size) : (Value.slice A' n' c').ownBlock = none ∨ (Value.slice A' n' c').ownBlock ≠ (Value.slice B m d).ownBlock := by
  rcases hw with hw | hw
  · rw [hw]; exact hdj
  · refine .inr fun e => ?_
    rw [hw] at e
    exact absurd (own_new hB _ e.symm) (Nat.lt_irrefl _)
theorem dj_swap {a b : Option Nat} (h : a = none ∨ a ≠ b) : b = none ∨ b ≠ a := by
  rcases h with h | h
  · cases b with
    | none => exact .inl rfl
    | some b => exact .inr (by rw [h]; intro e; cases e)
  · exact .inr (Ne.symm h)
theorem PA.appT {w1 w2 : World} {base g : Nat} {kind : Int} {T N X : Option Addr} {tn tc nn nc xn xc : Nat} {t n : List Int} {x : List (List UInt8)} (h : PA w1 base g kind T tn tc N nn nc X xn xc t n x) {A' : Option Addr} {m' c' : Nat} (t2 : List Int)
    (hA : Own w2 base 3 1 A' m' c' (icl t2)) (hgr : w1.grownBy w2 (Value.slice T tn tc).ownBlock) (hw : (Value.slice A' m' c').ownBlock = (Value.slice T tn tc).ownBlock ∨ (Value.slice A' m' c').ownBlock = some w1.heap.size) :
    PA (w2.setCell ⟨g, 1, none⟩ (.slice A' m' c')) base g kind A' m' c' N nn nc X xn xc t2 n x ∧ w2.frozen? ⟨g, 1, none⟩ = false ∧ w2.cell? ⟨g, 1, none⟩ = some (.slice T tn tc) := by
  have hg2 := h.blk.grown hgr (fun e => h.rT.far h.blk (by decide) e.symm)
  refine ⟨⟨hg2.set_ 1 _, h.lo, hA.kept (grown_set w2 g 1 _) (.inr (hA.far hg2 (by decide))), (h.rN.kept hgr (dj_swap h.dj)).kept (grown_set w2 g 1 _) (.inr (Own.far (h.rN.kept hgr (dj_swap h.dj)) hg2 (by decide))), (h.rX.kept hgr (h.rX.other h.rT (by decide))).kept (grown_set w2 g 1 _) (.inr (Own.far (h.rX.kept hgr (h.rX.other h.rT (by decide))) hg2 (by decide))), dj_next h.rN h.dj hw⟩, hg2.frozen 1, hg2.cell 1⟩
theorem PA.appN {w1 w2 : World} {base g : Nat} {kind : Int} {T N X : Option Addr} {tn tc nn nc xn xc : Nat} {t n : List Int} {x : List (List UInt8)} (h : PA w1 base g kind T tn tc N nn nc X xn xc t n x) {A' : Option Addr} {m' c' : Nat} (n2 : List Int)
    (hA : Own w2 base 3 1 A' m' c' (icl n2)) (hgr : w1.grownBy w2 (Value.slice N nn nc).ownBlock) (hw : (Value.slice A' m' c').ownBlock = (Value.slice N nn nc).ownBlock ∨ (Value.slice A' m' c').ownBlock = some w1.heap.size) :
    PA (w2.setCell ⟨g, 2, none⟩ (.slice A' m' c')) base g kind T tn tc A' m' c' X xn xc t n2 x ∧ w2.frozen? ⟨g, 2, none⟩ = false ∧ w2.cell? ⟨g, 2, none⟩ = some (.slice N nn nc) := by
  have hg2 := h.blk.grown hgr (fun e => h.rN.far h.blk (by decide) e.symm)
  refine ⟨⟨hg2.set_ 2 _, h.lo, (h.rT.kept hgr (h.dj)).kept (grown_set w2 g 2 _) (.inr (Own.far (h.rT.kept hgr (h.dj)) hg2 (by decide))), hA.kept (grown_set w2 g 2 _) (.inr (hA.far hg2 (by decide))), (h.rX.kept hgr (h.rX.other h.rN (by decide))).kept (grown_set w2 g 2 _) (.inr (Own.far (h.rX.kept hgr (h.rX.other h.rN (by decide))) hg2 (by decide))), dj_swap (dj_next h.rT (dj_swap h.dj) hw)⟩, hg2.frozen 2, hg2.cell 2⟩
theorem PA.appX {w1 w2 : World} {base g : Nat} {kind : Int} {T N X : Option Addr} {tn tc nn nc xn xc : Nat} {t n : List Int} {x : List (List UInt8)} (h : PA w1 base g kind T tn tc N nn nc X xn xc t n x) {A' : Option Addr} {m' c' : Nat} (x2 : List (List UInt8))
    (hA : Own w2 base 9 1 A' m' c' (wcl x2)) (hgr : w1.grownBy w2 (Value.slice X xn xc).ownBlock) (hw : (Value.slice A' m' c').ownBlock = (Value.slice X xn xc).ownBlock ∨ (Value.slice A' m' c').ownBlock = some w1.heap.size) :
    PA (w2.setCell ⟨g, 3, none⟩ (.slice A' m' c')) base g kind T tn tc N nn nc A' m' c' t n x2 ∧ w2.frozen? ⟨g, 3, none⟩ = false ∧ w2.cell? ⟨g, 3, none⟩ = some (.slice X xn xc) := by
  have hg2 := h.blk.grown hgr (fun e => h.rX.far h.blk (by decide) e.symm)
  refine ⟨⟨hg2.set_ 3 _, h.lo, (h.rT.kept hgr (h.rT.other h.rX (by decide))).kept (grown_set w2 g 3 _) (.inr (Own.far (h.rT.kept hgr (h.rT.other h.rX (by decide))) hg2 (by decide))), (h.rN.kept hgr (h.rN.other h.rX (by decide))).kept (grown_set w2 g 3 _) (.inr (Own.far (h.rN.kept hgr (h.rN.other h.rX (by decide))) hg2 (by decide))), hA.kept (grown_set w2 g 3 _) (.inr (hA.far hg2 (by decide))), h.dj⟩, hg2.frozen 3, hg2.cell 3⟩

set_option maxRecDepth 100000 in
theorem cright2_any (k : Int) (w : World) : Calls Tryz.prog 11 #[.int .u8 k] w fun e w' => e = .returned (.bool (kindOk k)) ∧ w = w' := by
  by_cases h1 : k = 1
  · subst h1
    go_enter Tryz.func11, Tryz.ntmps11
    go_wp2_with fail
    go_ret
    exact ⟨rfl, rfl⟩
  · by_cases h2 : k = 2
    · subst h2
      go_enter Tryz.func11, Tryz.ntmps11
      go_wp2_with fail
      go_ret
      exact ⟨rfl, rfl⟩
    · by_cases h3 : k = 3
      · subst h3
        go_enter Tryz.func11, Tryz.ntmps11
        go_wp2_with fail
        go_ret
        exact ⟨rfl, rfl⟩
      · have hk : kindOk k = false := by unfold kindOk; exact decide_eq_false (by omega)
        rw [hk]
        have e1 : (k == 1) = false := by rw [beq_eq_false_iff_ne]; exact h1
        have e2 : (k == 2) = false := by rw [beq_eq_false_iff_ne]; exact h2
        have e3 : (k == 3) = false := by rw [beq_eq_false_iff_ne]; exact h3
        clear hk
        go_enter Tryz.func11, Tryz.ntmps11
        go_wp2_with fail
        go_ret
        exact ⟨rfl, rfl⟩

def numsK (kind : Int) (l : RowM) : List Int := if kind = 3 then [] else numsM l
def textsK (kind : Int) (l : RowM) : List (List UInt8) := if kind = 3 then textsM l else []
theorem numsK_null (kind : Int) (l : RowM) (v : Va) (h : v.k = 0) : numsK kind (l ++ [v]) = numsK kind l := by
  unfold numsK numsM
  rw [someM_snoc, if_pos h]
theorem textsK_null (kind : Int) (l : RowM) (v : Va) (h : v.k = 0) : textsK kind (l ++ [v]) = textsK kind l := by
  unfold textsK textsM
  rw [someM_snoc, if_pos h]
theorem numsK_text (l : RowM) (v : Va) : numsK 3 (l ++ [v]) = numsK 3 l := rfl
theorem textsK_text (l : RowM) (v : Va) (h : v.k ≠ 0) : textsK 3 (l ++ [v]) = textsK 3 l ++ [v.s] := by
  unfold textsK textsM
  rw [if_pos rfl, if_pos rfl, someM_snoc, if_neg h, List.map_append]
  rfl
theorem numsK_num (kind : Int) (hk : kind ≠ 3) (l : RowM) (v : Va) (h : v.k ≠ 0) : numsK kind (l ++ [v]) = numsK kind l ++ [v.n] := by
  unfold numsK numsM
  rw [if_neg hk, if_neg hk, someM_snoc, if_neg h, List.map_append]
  rfl
theorem textsK_num (kind : Int) (hk : kind ≠ 3) (l : RowM) (v : Va) : textsK kind (l ++ [v]) = textsK kind l := by
  unfold textsK
  rw [if_neg hk, if_neg hk]
theorem E8s : ElemT Tryz.prog 27 9 1 16 (.string ⟨#[]⟩) := ElemT.mk' (by kernel_rfl) (by kernel_rfl) rfl (by omega)

theorem Blk.four {w : World} {g : Nat} {t : TypeId} {a b c d : Value} (h : Blk w g t [a, b, c, d]) (a' b' c' d' : Value) :
    Blk ((((w.setCell ⟨g, 0, none⟩ a').setCell ⟨g, 1, none⟩ b').setCell ⟨g, 2, none⟩ c').setCell ⟨g, 3, none⟩ d') g t [a', b', c', d'] := (((h.set_ 0 a').set_ 1 b').set_ 2 c').set_ 3 d'
theorem below_four {B : Nat} {w0 w : World} (h : Below B w0 w) {g : Nat} (hg : B ≤ g) (a' b' c' d' : Value) :
    Below B w0 ((((w.setCell ⟨g, 0, none⟩ a').setCell ⟨g, 1, none⟩ b').setCell ⟨g, 2, none⟩ c').setCell ⟨g, 3, none⟩ d') :=
  (((h.setCell (p := ⟨g, 0, none⟩) hg _).setCell (p := ⟨g, 1, none⟩) hg _).setCell (p := ⟨g, 2, none⟩) hg _).setCell (p := ⟨g, 3, none⟩) hg _
theorem results_parts {tmps : Array Value} {w : World} {R : Nat} {a b c d e : Value} (hp : tmps.getD 4 undef = .pointer (some ⟨R, 0, none⟩)) (he : tmps.getD 5 undef = e) (hg : Blk w R 40 [a, b, c, d]) :
    (results Tryz.f41 tmps).run Tryz.prog w = .ok (.tuple #[.agg #[a, b, c, d], e]) w := by
  rw [results_cell_tmp rfl, hp, he]
  simp only [asAddr, Sem.run_pure, Result.andThen]
  have h := run_loadVar_row (P := Tryz.prog) w R 40 40 #[a, b, c, d] (0, 0) _ hg Tryz.underlying40 rfl (by kernel_rfl)
  rw [h]

/-- How apart ends. -/
def ApOK (kind : Int) (l : RowM) (w : World) (e : Ending) (w' : World) : Prop :=
  ((l.all (fitV kind) = false ∧ e = .returned (.tuple #[.agg #[.int .u8 0, .slice none 0 0, .slice none 0 0, .slice none 0 0], .int .i64 7])) ∨
    (l.all (fitV kind) = true ∧ ∃ T tc N nc X xc, e = .returned (.tuple #[.agg #[.int .u8 kind, .slice T (thereM l).length tc, .slice N (numsK kind l).length nc, .slice X (textsK kind l).length xc], .int .i64 0]) ∧ Rd w' T (icl (thereM l)) ∧ Rd w' N (icl (numsK kind l)) ∧ Rd w' X (wcl (textsK kind l)))) ∧ Below w.heap.size w w'

set_option maxHeartbeats 16000000 in
set_option maxRecDepth 100000 in
theorem apart_any (kind : Int) (l : RowM) (n c : Nat) (A : Option Addr) (w : World) (hl : l.length = n) (hr : Rd w A (rcells l)) (hn : n ≤ 4096) (hk : 1 ≤ kind ∧ kind ≤ 3) :
    Calls Tryz.prog 41 #[.int .u8 kind, .slice A n c] w fun e w' => ApOK kind l w e w' := by
  have Hl := Lib.hid hl
  have Hr := Lib.hid hr
  have Hk := Lib.hid hk
  have hwk : IntKind.u8.wrap kind = kind := by rw [IntKind.wrap_u8]; omega
  clear hl hr hk
  have hb0 : Hid (Below w.heap.size w ((w.alloc (.cells #[.int .u8 0, .slice none 0 0, .slice none 0 0, .slice none 0 0] 40)).alloc (.cells #[.int .u8 kind, .slice none 0 0, .slice none 0 0, .slice none 0 0] 40))) :=
    ((Below.refl w.heap.size w).alloc (Nat.le_refl _) _).alloc (by rw [World.size_alloc]; omega) _
  have hz0 : Hid (Blk ((w.alloc (.cells #[.int .u8 0, .slice none 0 0, .slice none 0 0, .slice none 0 0] 40)).alloc (.cells #[.int .u8 kind, .slice none 0 0, .slice none 0 0, .slice none 0 0] 40)) w.heap.size 40 [.int .u8 0, .slice none 0 0, .slice none 0 0, .slice none 0 0]) := (Blk.new w 40 #[.int .u8 0, .slice none 0 0, .slice none 0 0, .slice none 0 0]).alloc _
  have hp0 : Hid (PA ((w.alloc (.cells #[.int .u8 0, .slice none 0 0, .slice none 0 0, .slice none 0 0] 40)).alloc (.cells #[.int .u8 kind, .slice none 0 0, .slice none 0 0, .slice none 0 0] 40)) w.heap.size (w.heap.size + 1) kind none 0 0 none 0 0 none 0 0 [] [] []) := by
    have h := Blk.new (w.alloc (.cells #[.int .u8 0, .slice none 0 0, .slice none 0 0, .slice none 0 0] 40)) 40 #[.int .u8 kind, .slice none 0 0, .slice none 0 0, .slice none 0 0]
    rw [World.size_alloc] at h
    exact ⟨h, by omega, Own.nil _ _ _ _, Own.nil _ _ _ _, Own.nil _ _ _ _, .inl rfl⟩
  obtain ⟨R0, hR0⟩ : ∃ R0, w.heap.size = R0 := ⟨_, rfl⟩
  rw [hR0] at hb0 hz0 hp0
  have HR0 := Lib.hid hR0
  obtain ⟨G, hG⟩ : ∃ G, R0 + 1 = G := ⟨_, rfl⟩
  rw [hG] at hp0
  have hne : R0 ≠ G := by omega
  go_enter Tryz.func41, Tryz.ntmps41
  go_wp2_with fail
  try rw [hG]
  generalize ((w.alloc (.cells #[.int .u8 0, .slice none 0 0, .slice none 0 0, .slice none 0 0] 40)).alloc (.cells #[.int .u8 kind, .slice none 0 0, .slice none 0 0, .slice none 0 0] 40)) = w0 at *
  clear hR0 hG
  go_loopw [13] (fun vi wr => ∃ i : Nat, vi = .int .i64 (i : Int) ∧ i ≤ n ∧ Hid ((l.take i).all (fitV kind) = true) ∧ Hid (Blk wr R0 40 [.int .u8 0, .slice none 0 0, .slice none 0 0, .slice none 0 0]) ∧ Hid (Below R0 w wr) ∧ Hid (∃ T tn tc N nn nc X xn xc, PA wr R0 G kind T tn tc N nn nc X xn xc (thereM (l.take i)) (numsK kind (l.take i)) (textsK kind (l.take i)))) (fun vi _ => n - (intOf vi).toNat)
  case atStart => exact ⟨0, rfl, by omega, rfl, hz0, hb0, none, 0, 0, none, 0, 0, none, 0, 0, by
    have e1 : numsK kind [] = [] := by unfold numsK; split <;> rfl
    have e2 : textsK kind [] = [] := by unfold textsK; split <;> rfl
    rw [List.take_zero, e1, e2]
    exact hp0.out⟩
  case round =>
    obtain ⟨i, rfl, hi, Hall, Hz, Hb, Hpa⟩ := hrel
    by_cases hin : i < n
    · have hil : i < l.length := by rw [Hl.out]; exact hin
      have hiI : (i : Int) < (n : Int) := by omega
      have hi0 : (0 : Int) ≤ (i : Int) := by omega
      obtain ⟨b, o, rfl, c0, c1, c2⟩ := row_cells (Hr.out.below (by rw [HR0.out]; exact Hb.out)) hil
      have Htk : Hid (l.take (i + 1) = l.take i ++ [l[i]]) := List.take_succ_eq_append_getElem hil
      have Hmm : Hid (l[i] ∈ l) := List.getElem_mem hil
      generalize l[i] = v at *
      have hbx := Blk.new wr 60 #[.int .u8 v.k, .int .i64 v.n, .string (St8 v.s)]
      have hbA : Below wr.heap.size wr (wr.alloc (.cells #[.int .u8 v.k, .int .i64 v.n, .string (St8 v.s)] 60)) := (Below.refl _ _).alloc (Nat.le_refl _) _
      have Hz1 := Lib.hid (Hz.out.below hbA)
      have hlo : R0 ≤ wr.heap.size := by rw [← HR0.out]; exact Hb.out.size
      have Hb1 := Lib.hid (Hb.out.trans (hbA.mono hlo))
      have Hlo1 : Hid (R0 ≤ (wr.alloc (.cells #[.int .u8 v.k, .int .i64 v.n, .string (St8 v.s)] 60)).heap.size) := Nat.le_trans hlo hbA.size
      have Hpa1 : Hid (∃ T tn tc N nn nc X xn xc, PA (wr.alloc (.cells #[.int .u8 v.k, .int .i64 v.n, .string (St8 v.s)] 60)) R0 G kind T tn tc N nn nc X xn xc (thereM (l.take i)) (numsK kind (l.take i)) (textsK kind (l.take i))) := by
        obtain ⟨T, tn, tc, N, nn, nc, X, xn, xc, h⟩ := Hpa.out
        exact ⟨T, tn, tc, N, nn, nc, X, xn, xc, h.below hbA⟩
      have k0 := hbx.cell 0
      have k1 := hbx.cell 1
      have k2 := hbx.cell 2
      simp only [List.getElem?_cons_zero, List.getElem?_cons_succ] at k0 k1 k2
      have Hbx := Lib.hid hbx
      clear hbA hbx Hz Hb Hpa hil
      generalize hW : wr.alloc (.cells #[.int .u8 v.k, .int .i64 v.n, .string (St8 v.s)] 60) = W1 at *
      generalize hV : wr.heap.size = V at *
      have hcr := Lib.hid (cright_any v W1)
      have hbad : Hid (fitV kind v = false → l.all (fitV kind) = false) := fun h => by
        rw [List.all_eq_false]
        exact ⟨v, Hmm.out, by rw [h]; simp⟩
      have hgood : Hid (fitV kind v = true → (l.take (i + 1)).all (fitV kind) = true) := fun h => by
        rw [Htk.out, List.all_append, Hall.out]
        simp [h]
      obtain ⟨vk, vn, vs⟩ := v
      dsimp only at k0 k1 k2 c0 c1 c2 Hbx hW
      cases hrv : rightV ⟨vk, vn, vs⟩
      · have hf : Hid (l.all (fitV kind) = false) := hbad.out (by unfold fitV; rw [hrv]; rfl)
        rw [hrv] at hcr
        clear hrv hbad hgood
        go_wp2_with fail
        refine hcr.out.mono ?_
        rintro e w2 ⟨rfl, hb2⟩
        have Hz2 := Lib.hid (Hz1.out.below hb2)
        have Hb2 := Lib.hid (Hb1.out.trans (hb2.mono Hlo1.out))
        have z0 := Hz2.out.cell 0
        have z1 := Hz2.out.cell 1
        have z2 := Hz2.out.cell 2
        have z3 := Hz2.out.cell 3
        simp only [List.getElem?_cons_zero, List.getElem?_cons_succ] at z0 z1 z2 z3
        have f0 := Hz2.out.frozen 0
        have f1 := Hz2.out.frozen 1
        have f2 := Hz2.out.frozen 2
        have f3 := Hz2.out.frozen 3
        clear hb2
        go_wp2_with fail
        (try simp only [Exit.inBlock, Exit.then]); refine bodyPost_ret (results_parts rfl rfl (Hz2.out.four _ _ _ _)) rfl ?_
        exact ⟨.inl ⟨hf.out, rfl⟩, by rw [HR0.out]; exact below_four Hb2.out (Nat.le_refl _) _ _ _ _⟩
      · rw [hrv] at hcr
        have Hfit : Hid (vk = 0 ∨ vk = kind → (l.take (i + 1)).all (fitV kind) = true) := fun h => hgood.out (by
          unfold fitV
          rw [hrv, Bool.true_and, Bool.or_eq_true, decide_eq_true_eq, decide_eq_true_eq]
          exact h)
        have Hunfit : Hid (vk ≠ 0 → vk ≠ kind → l.all (fitV kind) = false) := fun h1 h2 => hbad.out (by
          unfold fitV
          rw [hrv, Bool.true_and]
          simp [h1, h2])
        have Htl : Hid ((l.take i).length = i) := by show _ = _; rw [List.length_take, Hl.out]; omega
        clear hrv hbad hgood
        generalize hL : l.take i = Li at *
        generalize hL2 : l.take (i + 1) = Lj at *
        have HL2 := Lib.hid hL2
        clear hL hL2
        go_wp2_with fail
        refine hcr.out.mono ?_
        rintro e w2 ⟨rfl, hb2⟩
        have Hz2 := Lib.hid (Hz1.out.below hb2)
        have Hb2 := Lib.hid (Hb1.out.trans (hb2.mono Hlo1.out))
        have hbx2 := Hbx.out.below hb2
        have k0 := hbx2.cell 0
        have k1 := hbx2.cell 1
        have k2 := hbx2.cell 2
        simp only [List.getElem?_cons_zero, List.getElem?_cons_succ] at k0 k1 k2
        have Hbx2 := Lib.hid hbx2
        have Hlo2 : Hid (R0 ≤ w2.heap.size) := Nat.le_trans Hlo1.out hb2.size
        obtain ⟨T, tn, tc, N, nn, nc, X, xn, xc, hpa1⟩ := Hpa1.out
        have Hpa := Lib.hid (hpa1.below hb2)
        have htn := hpa1.rT.1
        have hnn := hpa1.rN.1
        have hxn := hpa1.rX.1
        rw [icl_len, Nat.mul_one, thereM_len, Htl.out] at htn
        rw [icl_len, Nat.mul_one] at hnn
        rw [wcl_len, Nat.mul_one] at hxn
        have hnn2 : nn ≤ i := by
          rw [← hnn]
          unfold numsK numsM
          split
          · simp
          · rw [List.length_map]
            exact Nat.le_trans (someM_le _) (by rw [Htl.out]; exact Nat.le_refl _)
        have hxn2 : xn ≤ i := by
          rw [← hxn]
          unfold textsK textsM
          split
          · rw [List.length_map]
            exact Nat.le_trans (someM_le _) (by rw [Htl.out]; exact Nat.le_refl _)
          · simp
        have htn2 : tn ≤ i := by omega
        have y0 := Hpa.out.blk.cell 1
        have y1 := Hpa.out.blk.cell 2
        have y2 := Hpa.out.blk.cell 3
        simp only [List.getElem?_cons_zero, List.getElem?_cons_succ] at y0 y1 y2
        clear hb2 hbx2 Hpa1 hpa1 Hz1 Hb1 hcr Hbx hW htn hnn hxn
        by_cases hk0 : vk = 0
        · subst hk0
          have hfit2 := Lib.hid (Hfit.out (.inl rfl))
          go_wp2_with (first | (at_builtin; refine hold ?_) | (at_make; refine hold ?_))
          (with_reducible refine unhold ?_)
          have hbW : Below w2.heap.size w2 (w2.alloc (.cells #[.int .i64 0] 3)) := (Below.refl _ _).alloc (Nat.le_refl _) _
          have hnew := (Blk.new w2 3 #[.int .i64 0]).range
          have hpaW := Hpa.out.below hbW
          have hbB := Hb2.out.trans (hbW.mono Hlo2.out)
          have hzW := Hz2.out.below hbW
          have hbxW := Hbx2.out.below hbW
          have hloW := Nat.le_trans Hlo2.out hbW.size
          refine wpList_apd rfl _ _ _ rfl Eint' R0 _ tn _ _ rfl hpaW.rT _ 1 _ [.int .i64 0] rfl rfl (fun _ => ⟨_, _, rfl, hnew⟩) (by simp [Value.oneCell']) (tn + 1) rfl (icl (thereM Li ++ [0])) (by simp [icl, wcl]) (by omega) (by omega) hloW ?_
          intro A4 c4 w4' ho hg hw
          obtain ⟨hpaN, hfr, hcl⟩ := hpaW.appT _ ho hg hw
          have hgr := hpaW.blk.grown hg (fun e => hpaW.rT.far hpaW.blk (by decide) e.symm)
          have Hz4 := Lib.hid ((hzW.grown hg (fun e => hpaW.rT.far hzW (by decide) e.symm)).far (p := ⟨G, 1, none⟩) hne (.slice A4 (tn + 1) c4))
          have Hbx4 := Lib.hid ((hbxW.grown hg (fun e => hpaW.rT.far hbxW (by decide) e.symm)).far (p := ⟨G, 1, none⟩) (hbxW.ne_of_type hpaW.blk (by decide)) (.slice A4 (tn + 1) c4))
          have Hb4 := Lib.hid ((hbB.grown hg hloW (fun k hk => (hpaW.rT.lt k hk).1)).setCell (p := ⟨G, 1, none⟩) hpaW.lo (.slice A4 (tn + 1) c4))
          have Hlo4 : Hid (R0 ≤ (w4'.setCell ⟨G, 1, none⟩ (.slice A4 (tn + 1) c4)).heap.size) := by
            show _ ≤ _
            rw [World.size_setCell]
            exact Nat.le_trans hloW hg.size
          replace Hpa := Lib.hid hpaN
          clear hbW hnew hpaW hbB hzW hbxW hloW hpaN hgr ho hg hw
          go_wp2_with fail
          go_roundw
          case rel => exact ⟨i + 1, by go_num, by omega, by rw [HL2.out]; exact hfit2, Hz4, Hb4, A4, tn + 1, c4, N, nn, nc, X, xn, xc, by
            rw [HL2.out, Htk.out, thereM_snoc, if_pos rfl, numsK_null _ _ _ rfl, textsK_null _ _ _ rfl]
            exact Hpa.out⟩
          case measure => simp only [intOf, Int.toNat_natCast]; omega
        · have e0 : (vk == 0) = false := by rw [beq_eq_false_iff_ne]; exact hk0
          by_cases hkk : vk = kind
          · subst hkk
            have hfit2 := Lib.hid (Hfit.out (.inr rfl))
            have Hk0 := Lib.hid hk0
            clear hk0
            by_cases hk3 : vk = 3
            · subst hk3
              go_wp2_with (first | (at_builtin; refine hold ?_) | (at_make; refine hold ?_))
              (with_reducible refine unhold ?_)
              have hbW : Below w2.heap.size w2 (w2.alloc (.cells #[.int .i64 1] 3)) := (Below.refl _ _).alloc (Nat.le_refl _) _
              have hnew := (Blk.new w2 3 #[.int .i64 1]).range
              have hpaW := Hpa.out.below hbW
              have hbB := Hb2.out.trans (hbW.mono Hlo2.out)
              have hzW := Hz2.out.below hbW
              have hbxW := Hbx2.out.below hbW
              have hloW := Nat.le_trans Hlo2.out hbW.size
              refine wpList_apd rfl _ _ _ rfl Eint' R0 _ tn _ _ rfl hpaW.rT _ 1 _ [.int .i64 1] rfl rfl (fun _ => ⟨_, _, rfl, hnew⟩) (by simp [Value.oneCell']) (tn + 1) rfl (icl (thereM Li ++ [1])) (by simp [icl, wcl]) (by omega) (by omega) hloW ?_
              intro A4 c4 w4' ho hg hw
              obtain ⟨hpaN, hfr, hcl⟩ := hpaW.appT _ ho hg hw
              have hgr := hpaW.blk.grown hg (fun e => hpaW.rT.far hpaW.blk (by decide) e.symm)
              have Hz4 := Lib.hid ((hzW.grown hg (fun e => hpaW.rT.far hzW (by decide) e.symm)).far (p := ⟨G, 1, none⟩) hne (.slice A4 (tn + 1) c4))
              have Hbx4 := Lib.hid ((hbxW.grown hg (fun e => hpaW.rT.far hbxW (by decide) e.symm)).far (p := ⟨G, 1, none⟩) (hbxW.ne_of_type hpaW.blk (by decide)) (.slice A4 (tn + 1) c4))
              have Hb4 := Lib.hid ((hbB.grown hg hloW (fun k hk => (hpaW.rT.lt k hk).1)).setCell (p := ⟨G, 1, none⟩) hpaW.lo (.slice A4 (tn + 1) c4))
              have Hlo4 : Hid (R0 ≤ (w4'.setCell ⟨G, 1, none⟩ (.slice A4 (tn + 1) c4)).heap.size) := by
                show _ ≤ _
                rw [World.size_setCell]
                exact Nat.le_trans hloW hg.size
              replace Hpa := Lib.hid hpaN
              clear hbW hnew hpaW hbB hzW hbxW hloW hpaN hgr ho hg hw y0 y1 y2 k0 k1 k2
              have y0 := Hpa.out.blk.cell 1
              have y1 := Hpa.out.blk.cell 2
              have y2 := Hpa.out.blk.cell 3
              have k0 := Hbx4.out.cell 0
              have k1 := Hbx4.out.cell 1
              have k2 := Hbx4.out.cell 2
              simp only [List.getElem?_cons_zero, List.getElem?_cons_succ] at y0 y1 y2 k0 k1 k2
              generalize hW4 : w4'.setCell ⟨G, 1, none⟩ (.slice A4 (tn + 1) c4) = W4 at *
              go_wp2_with (first | (at_builtin; refine hold ?_) | (at_make; refine hold ?_))
              (with_reducible refine unhold ?_)
              have hbW : Below W4.heap.size W4 (W4.alloc (.cells #[.string (St8 vs)] 9)) := (Below.refl _ _).alloc (Nat.le_refl _) _
              have hnew := (Blk.new W4 9 #[.string (St8 vs)]).range
              have hpaW := Hpa.out.below hbW
              have hbB := Hb4.out.trans (hbW.mono Hlo4.out)
              have hzW := Hz4.out.below hbW
              have hbxW := Hbx4.out.below hbW
              have hloW := Nat.le_trans Hlo4.out hbW.size
              refine wpList_apd rfl _ _ _ rfl E8s R0 _ xn _ _ rfl hpaW.rX _ 1 _ [.string (St8 vs)] rfl rfl (fun _ => ⟨_, _, rfl, hnew⟩) (by simp [Value.oneCell']) (xn + 1) rfl (wcl (textsK 3 Li ++ [vs])) (by simp [icl, wcl]) (by omega) (by omega) hloW ?_
              intro A5 c5 w5' ho hg hw
              obtain ⟨hpaN, hfr, hcl⟩ := hpaW.appX _ ho hg hw
              have hgr := hpaW.blk.grown hg (fun e => hpaW.rX.far hpaW.blk (by decide) e.symm)
              have Hz5 := Lib.hid ((hzW.grown hg (fun e => hpaW.rX.far hzW (by decide) e.symm)).far (p := ⟨G, 3, none⟩) hne (.slice A5 (xn + 1) c5))
              have Hbx5 := Lib.hid ((hbxW.grown hg (fun e => hpaW.rX.far hbxW (by decide) e.symm)).far (p := ⟨G, 3, none⟩) (hbxW.ne_of_type hpaW.blk (by decide)) (.slice A5 (xn + 1) c5))
              have Hb5 := Lib.hid ((hbB.grown hg hloW (fun k hk => (hpaW.rX.lt k hk).1)).setCell (p := ⟨G, 3, none⟩) hpaW.lo (.slice A5 (xn + 1) c5))
              have Hlo5 : Hid (R0 ≤ (w5'.setCell ⟨G, 3, none⟩ (.slice A5 (xn + 1) c5)).heap.size) := by
                show _ ≤ _
                rw [World.size_setCell]
                exact Nat.le_trans hloW hg.size
              replace Hpa := Lib.hid hpaN
              clear hbW hnew hpaW hbB hzW hbxW hloW hpaN hgr ho hg hw
              go_wp2_with fail
              go_roundw
              case rel => exact ⟨i + 1, by go_num, by omega, by rw [HL2.out]; exact hfit2, Hz5, Hb5, A4, tn + 1, c4, N, nn, nc, A5, xn + 1, c5, by
                rw [HL2.out, Htk.out, thereM_snoc, if_neg (by dsimp only; decide), numsK_text, textsK_text _ _ (by dsimp only; decide)]
                exact Hpa.out⟩
              case measure => simp only [intOf, Int.toNat_natCast]; omega
            · have e3 : (vk == 3) = false := by rw [beq_eq_false_iff_ne]; exact hk3
              have Hk3 := Lib.hid hk3
              clear hk3
              go_wp2_with (first | (at_builtin; refine hold ?_) | (at_make; refine hold ?_))
              (with_reducible refine unhold ?_)
              have hbW : Below w2.heap.size w2 (w2.alloc (.cells #[.int .i64 1] 3)) := (Below.refl _ _).alloc (Nat.le_refl _) _
              have hnew := (Blk.new w2 3 #[.int .i64 1]).range
              have hpaW := Hpa.out.below hbW
              have hbB := Hb2.out.trans (hbW.mono Hlo2.out)
              have hzW := Hz2.out.below hbW
              have hbxW := Hbx2.out.below hbW
              have hloW := Nat.le_trans Hlo2.out hbW.size
              refine wpList_apd rfl _ _ _ rfl Eint' R0 _ tn _ _ rfl hpaW.rT _ 1 _ [.int .i64 1] rfl rfl (fun _ => ⟨_, _, rfl, hnew⟩) (by simp [Value.oneCell']) (tn + 1) rfl (icl (thereM Li ++ [1])) (by simp [icl, wcl]) (by omega) (by omega) hloW ?_
              intro A4 c4 w4' ho hg hw
              obtain ⟨hpaN, hfr, hcl⟩ := hpaW.appT _ ho hg hw
              have hgr := hpaW.blk.grown hg (fun e => hpaW.rT.far hpaW.blk (by decide) e.symm)
              have Hz4 := Lib.hid ((hzW.grown hg (fun e => hpaW.rT.far hzW (by decide) e.symm)).far (p := ⟨G, 1, none⟩) hne (.slice A4 (tn + 1) c4))
              have Hbx4 := Lib.hid ((hbxW.grown hg (fun e => hpaW.rT.far hbxW (by decide) e.symm)).far (p := ⟨G, 1, none⟩) (hbxW.ne_of_type hpaW.blk (by decide)) (.slice A4 (tn + 1) c4))
              have Hb4 := Lib.hid ((hbB.grown hg hloW (fun k hk => (hpaW.rT.lt k hk).1)).setCell (p := ⟨G, 1, none⟩) hpaW.lo (.slice A4 (tn + 1) c4))
              have Hlo4 : Hid (R0 ≤ (w4'.setCell ⟨G, 1, none⟩ (.slice A4 (tn + 1) c4)).heap.size) := by
                show _ ≤ _
                rw [World.size_setCell]
                exact Nat.le_trans hloW hg.size
              replace Hpa := Lib.hid hpaN
              clear hbW hnew hpaW hbB hzW hbxW hloW hpaN hgr ho hg hw y0 y1 y2 k0 k1 k2
              have y0 := Hpa.out.blk.cell 1
              have y1 := Hpa.out.blk.cell 2
              have y2 := Hpa.out.blk.cell 3
              have k0 := Hbx4.out.cell 0
              have k1 := Hbx4.out.cell 1
              have k2 := Hbx4.out.cell 2
              simp only [List.getElem?_cons_zero, List.getElem?_cons_succ] at y0 y1 y2 k0 k1 k2
              generalize hW4 : w4'.setCell ⟨G, 1, none⟩ (.slice A4 (tn + 1) c4) = W4 at *
              go_wp2_with (first | (at_builtin; refine hold ?_) | (at_make; refine hold ?_))
              (with_reducible refine unhold ?_)
              have hbW : Below W4.heap.size W4 (W4.alloc (.cells #[.int .i64 vn] 3)) := (Below.refl _ _).alloc (Nat.le_refl _) _
              have hnew := (Blk.new W4 3 #[.int .i64 vn]).range
              have hpaW := Hpa.out.below hbW
              have hbB := Hb4.out.trans (hbW.mono Hlo4.out)
              have hzW := Hz4.out.below hbW
              have hbxW := Hbx4.out.below hbW
              have hloW := Nat.le_trans Hlo4.out hbW.size
              refine wpList_apd rfl _ _ _ rfl Eint' R0 _ nn _ _ rfl hpaW.rN _ 1 _ [.int .i64 vn] rfl rfl (fun _ => ⟨_, _, rfl, hnew⟩) (by simp [Value.oneCell']) (nn + 1) rfl (icl (numsK vk Li ++ [vn])) (by simp [icl, wcl]) (by omega) (by omega) hloW ?_
              intro A5 c5 w5' ho hg hw
              obtain ⟨hpaN, hfr, hcl⟩ := hpaW.appN _ ho hg hw
              have hgr := hpaW.blk.grown hg (fun e => hpaW.rN.far hpaW.blk (by decide) e.symm)
              have Hz5 := Lib.hid ((hzW.grown hg (fun e => hpaW.rN.far hzW (by decide) e.symm)).far (p := ⟨G, 2, none⟩) hne (.slice A5 (nn + 1) c5))
              have Hbx5 := Lib.hid ((hbxW.grown hg (fun e => hpaW.rN.far hbxW (by decide) e.symm)).far (p := ⟨G, 2, none⟩) (hbxW.ne_of_type hpaW.blk (by decide)) (.slice A5 (nn + 1) c5))
              have Hb5 := Lib.hid ((hbB.grown hg hloW (fun k hk => (hpaW.rN.lt k hk).1)).setCell (p := ⟨G, 2, none⟩) hpaW.lo (.slice A5 (nn + 1) c5))
              have Hlo5 : Hid (R0 ≤ (w5'.setCell ⟨G, 2, none⟩ (.slice A5 (nn + 1) c5)).heap.size) := by
                show _ ≤ _
                rw [World.size_setCell]
                exact Nat.le_trans hloW hg.size
              replace Hpa := Lib.hid hpaN
              clear hbW hnew hpaW hbB hzW hbxW hloW hpaN hgr ho hg hw
              go_wp2_with fail
              go_roundw
              case rel => exact ⟨i + 1, by go_num, by omega, by rw [HL2.out]; exact hfit2, Hz5, Hb5, A4, tn + 1, c4, A5, nn + 1, c5, X, xn, xc, by
                rw [HL2.out, Htk.out, thereM_snoc, if_neg Hk0.out, numsK_num _ Hk3.out _ _ Hk0.out, textsK_num _ Hk3.out]
                exact Hpa.out⟩
              case measure => simp only [intOf, Int.toNat_natCast]; omega
          · have ek : (vk != kind) = true := by rw [bne_iff_ne]; exact hkk
            have hf : Hid (l.all (fitV kind) = false) := Hunfit.out hk0 hkk
            have z0 := Hz2.out.cell 0
            have z1 := Hz2.out.cell 1
            have z2 := Hz2.out.cell 2
            have z3 := Hz2.out.cell 3
            simp only [List.getElem?_cons_zero, List.getElem?_cons_succ] at z0 z1 z2 z3
            have f0 := Hz2.out.frozen 0
            have f1 := Hz2.out.frozen 1
            have f2 := Hz2.out.frozen 2
            have f3 := Hz2.out.frozen 3
            clear hk0 hkk Hfit Hunfit
            go_wp2_with fail
            (try simp only [Exit.inBlock, Exit.then]); refine bodyPost_ret (results_parts rfl rfl (Hz2.out.four _ _ _ _)) rfl ?_
            exact ⟨.inl ⟨hf.out, rfl⟩, by rw [HR0.out]; exact below_four Hb2.out (Nat.le_refl _) _ _ _ _⟩
    · obtain rfl : i = n := by omega
      obtain ⟨T, tn, tc, N, nn, nc, X, xn, xc, hpa⟩ := Hpa.out
      have hta : l.take i = l := List.take_of_length_le (by rw [Hl.out]; exact Nat.le_refl _)
      rw [hta] at hpa Hall
      have z0 := Hz.out.cell 0
      have z1 := Hz.out.cell 1
      have z2 := Hz.out.cell 2
      have z3 := Hz.out.cell 3
      have y0 := hpa.blk.cell 0
      have y1 := hpa.blk.cell 1
      have y2 := hpa.blk.cell 2
      have y3 := hpa.blk.cell 3
      simp only [List.getElem?_cons_zero, List.getElem?_cons_succ] at z0 z1 z2 z3 y0 y1 y2 y3
      have f0 := Hz.out.frozen 0
      have f1 := Hz.out.frozen 1
      have f2 := Hz.out.frozen 2
      have f3 := Hz.out.frozen 3
      have hT := hpa.rT.1
      have hN := hpa.rN.1
      have hX := hpa.rX.1
      rw [icl_len, Nat.mul_one] at hT hN
      rw [wcl_len, Nat.mul_one] at hX
      have HT := Lib.hid hT
      have HN := Lib.hid hN
      have HX := Lib.hid hX
      have Hra : Hid (∀ w', (∀ k, k ≠ R0 → w'.heap[k]? = wr.heap[k]?) → Rd w' T (icl (thereM l)) ∧ Rd w' N (icl (numsK kind l)) ∧ Rd w' X (wcl (textsK kind l))) := fun w' h => by
        have key : ∀ {e : TypeId} {A : Option Addr} {n c : Nat} {xs : List Value}, Own wr R0 e 1 A n c xs → e ≠ 40 → Rd w' A xs := fun {e A n c xs} ho hne => by
          have hf := ho.far Hz.out hne
          refine Own.rd (n := n) (c := c) (base := R0) (e := e) (size := 1) ⟨ho.1, ho.2.imp id fun ⟨g, cap, cur, hv, hg, hh, rest⟩ => ⟨g, cap, cur, hv, hg, ?_, rest⟩⟩
          rw [h g (fun e1 => hf (by rw [hv, e1]; rfl))]
          exact hh
        exact ⟨key hpa.rT (by decide), key hpa.rN (by decide), key hpa.rX (by decide)⟩
      clear hpa Hpa hT hN hX hta
      go_wp2_with fail
      (try simp only [Exit.inBlock, Exit.then]); refine bodyPost_ret (results_parts rfl rfl (Hz.out.four _ _ _ _)) rfl ?_
      refine ⟨.inr ⟨Hall.out, T, tc, N, nc, X, xc, ?_, Hra.out _ (fun k hk => ?_)⟩, by rw [HR0.out]; exact below_four Hb.out (Nat.le_refl _) _ _ _ _⟩
      · rw [HT.out, HN.out, HX.out]
        rfl
      · rw [heap_setCell_other _ _ _ _ hk, heap_setCell_other _ _ _ _ hk, heap_setCell_other _ _ _ _ hk, heap_setCell_other _ _ _ _ hk]
end Go.Proofs.YtojppmnmhdgnnaaGreat
namespace Go.Proofs.YtojppmnmhdgnnaaGreat
set_option linter.unusedVariables false
set_option linter.unusedSimpArgs false
open Go.RowKit

attribute [local go_sem ↓] Go.wp_at_zero Go.wp_at_succ

def flatN (N : List Int) : List UInt8 := N.flatMap fun n => numB (zigN n)
def flatX (X : List (List UInt8)) : List UInt8 := X.flatMap fun s => numB s.length ++ s
/-- What lay tells of numbers and texts. -/
def layP (kind how : Int) (N : List Int) (X : List (List UInt8)) : List UInt8 × Int :=
  if ((decide (how = 3)) == (decide (kind = 3))) = false then (flatN N ++ flatX X, 1)
  else if how = 2 then (runsB N, 2)
  else if how = 4 then (frameB N, 4)
  else if how = 3 then match wordsB X with | some b => (b, 3) | none => (flatN N ++ flatX X, 1)
  else if how = 5 then match deltaB N with | some b => (b, 5) | none => (flatN N ++ flatX X, 1)
  else (flatN N ++ flatX X, 1)
theorem plain_parts (kind : Int) (l : RowM) : plainB kind l = flatN (numsK kind l) ++ flatX (textsK kind l) := by
  unfold plainB flatN flatX numsK textsK numsM textsM
  by_cases h : kind = 3
  · simp only [if_pos h]
    rw [List.flatMap_nil, List.nil_append, List.flatMap_map]
  · simp only [if_neg h]
    rw [List.flatMap_nil, List.append_nil, List.flatMap_map]
theorem lay_parts (kind how : Int) (l : RowM) : layM kind how l = layP kind how (numsK kind l) (textsK kind l) := by
  unfold layM layP
  rw [← plain_parts]
  by_cases h : ((decide (how = 3)) == (decide (kind = 3))) = false
  · rw [if_pos h, if_pos h]
  · rw [if_neg h, if_neg h]
    have he : (how = 3 ↔ kind = 3) := by
      simp only [Bool.not_eq_false, beq_iff_eq, decide_eq_decide] at h
      exact h
    by_cases hk : kind = 3
    · have hh := he.2 hk
      subst hh
      have e : textsK kind l = textsM l := by unfold textsK; rw [if_pos hk]
      rw [e]
      rfl
    · have hh : how ≠ 3 := fun e => hk (he.1 e)
      rw [if_neg hh, if_neg hh]
      have e : numsK kind l = numsM l := by unfold numsK; rw [if_neg hk]
      rw [e]
      rfl
theorem flatN_le {N : List Int} (h : ∀ x ∈ N, -9223372036854775808 ≤ x ∧ x ≤ 9223372036854775807) (hl : N.length ≤ 4096) (j : Nat) : (flatN (N.take j)).length ≤ 36864 := by
  have b := fmap_le (fun n => numB (zigN n)) 9 (N.take j) fun x hx => numB_le9 (zigN_lt (h x (List.mem_of_mem_take hx)))
  have c : (N.take j).length ≤ 4096 := by rw [List.length_take]; omega
  unfold flatN
  omega
theorem flatX_le {X : List (List UInt8)} (h : ∀ s ∈ X, s.length ≤ 1024) (hl : X.length ≤ 4096) (j : Nat) : (flatX (X.take j)).length ≤ 4231168 := by
  have b := fmap_le (fun s : List UInt8 => numB s.length ++ s) 1033 (X.take j) fun s hs => by
    have h1 := h s (List.mem_of_mem_take hs)
    have h2 := numB_le9 (n := s.length) (by omega)
    rw [List.length_append]
    omega
  have c : (X.take j).length ≤ 4096 := by rw [List.length_take]; omega
  unfold flatX
  omega
theorem flatN_snoc {N : List Int} {j : Nat} (hj : j < N.length) : flatN (N.take (j + 1)) = flatN (N.take j) ++ numB (zigN N[j]) := by
  unfold flatN
  rw [List.take_succ_eq_append_getElem hj, List.flatMap_append]
  simp
theorem flatX_snoc {X : List (List UInt8)} {j : Nat} (hj : j < X.length) (B : List UInt8) : B ++ flatX (X.take (j + 1)) = (B ++ flatX (X.take j)) ++ (numB X[j].length ++ X[j]) := by
  unfold flatX
  rw [List.take_succ_eq_append_getElem hj, List.flatMap_append]
  simp
theorem places_in {t W : List (List UInt8)} {p : List Int} (h : ofM t = some (W, p)) : p.length = t.length ∧ W.length ≤ 200 ∧ rightW W = true ∧ ∀ x ∈ p, -9223372036854775808 ≤ x ∧ x ≤ 9223372036854775807 := by
  obtain ⟨h1, _, h3, _⟩ := ofM_right h
  have h4 := rightW_le h1
  refine ⟨back_len h, h4.2, h1, fun x hx => ?_⟩
  rw [h3] at hx
  obtain ⟨s, _, rfl⟩ := List.mem_map.1 hx
  unfold placeM
  split
  · rename_i hm
    have := List.idxOf_lt_length_of_mem hm
    omega
  · omega
theorem wordsB_some {t W : List (List UInt8)} {p : List Int} {b : List UInt8} (h : ofM t = some (W, p)) (hb : putM W = some b) : wordsB t = some (b ++ frameB p) := by
  unfold wordsB
  rw [h, Option.bind_some, hb]
  rfl
theorem wordsB_none {t : List (List UInt8)} (h : ofM t = none) : wordsB t = none := by
  unfold wordsB
  rw [h]
  rfl

/-- How words ends. -/
def WordsOK (t : List (List UInt8)) (w : World) (e : Ending) (w' : World) : Prop :=
  ((wordsB t = none ∧ e = .returned (.tuple #[.slice none 0 0, .bool false])) ∨ ∃ b A c, wordsB t = some b ∧ e = .returned (.tuple #[.slice A b.length c, .bool true]) ∧ Own w' w.heap.size 5 1 A b.length c (Bs b)) ∧ Below w.heap.size w w'

set_option maxHeartbeats 8000000 in
set_option maxRecDepth 100000 in
theorem words_any (t : List (List UInt8)) (g xn xc : Nat) (k0 k1 k2 : Value) (X : Option Addr) (w : World) (hg : Blk w g 40 [k0, k1, k2, .slice X xn xc]) (hx : t.length = xn) (hX : Rd w X (wcl t)) (hn : xn ≤ 4096) :
    Calls Tryz.prog 68 #[.pointer (some ⟨g, 0, none⟩)] w fun e w' => WordsOK t w e w' := by
  have hof := Lib.hid (dof_any t xn xc X w hx hX hn)
  have y3 := hg.cell 3
  simp only [List.getElem?_cons_zero, List.getElem?_cons_succ] at y3
  cases ho : ofM t with
  | none =>
    have Ho := Lib.hid ho
    have Hf := Lib.hid (wordsB_none ho)
    clear ho hg hX hx
    go_enter Tryz.func68, Tryz.ntmps68
    go_wp2_with fail
    refine hof.out.mono ?_
    intro e w1 h1
    obtain ⟨h1, hb1⟩ := h1
    rcases h1 with ⟨_, rfl⟩ | ⟨W, p, A, c, A2, c2, h2, _⟩
    · have Hb1 := Lib.hid hb1
      clear hb1 hof
      go_wp2_with fail
      go_ret2
      exact ⟨.inl ⟨Hf.out, rfl⟩, Hb1.out⟩
    · rw [Ho.out] at h2
      cases h2
  | some Wp =>
    obtain ⟨W, p⟩ := Wp
    obtain ⟨hpl, hW, hrW, hpin⟩ := places_in ho
    obtain ⟨b, hb⟩ := putM_of ho
    have Hw := Lib.hid (wordsB_some ho hb)
    have Hb := Lib.hid hb
    have Ho := Lib.hid ho
    have Hpin := Lib.hid hpin
    rw [hx] at hpl
    have Hpl := Lib.hid hpl
    obtain ⟨K, hK⟩ : ∃ K, W.length = K := ⟨_, rfl⟩
    rw [hK] at hW
    have HK := Lib.hid hK
    obtain ⟨B, hB⟩ : ∃ B, b.length = B := ⟨_, rfl⟩
    have HB := Lib.hid hB
    obtain ⟨Z, hZ⟩ : ∃ Z, frameB p = Z := ⟨_, rfl⟩
    have HZ := Lib.hid hZ
    obtain ⟨F, hF⟩ : ∃ F, Z.length = F := ⟨_, rfl⟩
    have HF := Lib.hid hF
    have hBF : B ≤ 300000 ∧ F ≤ 100000 := by
      refine ⟨?_, ?_⟩
      · rw [← hB]
        unfold putM at hb
        rw [if_pos hrW] at hb
        injection hb with hb
        rw [← hb, List.length_append]
        have h1 := numB_le9 (n := W.length) (by omega)
        have h2 := putF_len W [] (by simp) (fun x hx => (rightW_le hrW).1 x hx)
        have h3 : W.length * 1042 ≤ 200 * 1042 := Nat.mul_le_mul_right _ (by omega)
        omega
      · rw [← hF, ← hZ]
        unfold frameB
        rw [hpl]
        have h1 := numB_le9 (n := xn) (by omega)
        rw [List.length_append]
        split
        · simp only [List.length_nil]; omega
        · rename_i hne
          have h2 := numB_le9 (zigN_lt (hpin _ (least_mem hne)))
          have h3 := width_64 (moreM_lt hpin)
          have h4 := numB_le9 (n := widthM (moreM p)) (by omega)
          rw [List.length_append, List.length_append, packB_len, moreM_len, hpl]
          have h5 : xn * widthM (moreM p) ≤ 4096 * 64 := Nat.mul_le_mul hn h3
          unfold bytesN
          omega
    clear ho hg hX hx hpl hb hpin hrW hK hB hZ hF
    go_enter Tryz.func68, Tryz.ntmps68
    go_wp2_with fail
    refine hof.out.mono ?_
    intro e w1 h1
    obtain ⟨h1, hb1⟩ := h1
    rcases h1 with ⟨h2, _⟩ | ⟨W', p', A, c, A2, c2, h2, rfl, hA, hA2⟩
    · rw [Ho.out] at h2
      cases h2
    · rw [Ho.out] at h2
      injection h2 with h2
      injection h2 with h2 h3
      subst h2
      subst h3
      rw [HK.out, Hpl.out]
      have Hb1 := Lib.hid hb1
      have HA := Lib.hid hA
      have HA2 := Lib.hid hA2
      clear hb1 hA hA2 hof
      go_wp2_with fail
      refine (dput_any W K c A w1 HK.out HA.out (by omega)).mono ?_
      intro e w2 h2
      obtain ⟨h2, hb2⟩ := h2
      rcases h2 with ⟨h3, _⟩ | ⟨b', B1, cb, h3, rfl, ho2⟩
      · rw [Hb.out] at h3
        cases h3
      · rw [Hb.out] at h3
        injection h3 with h3
        subst h3
        rw [HB.out] at ho2 ⊢
        have Hb2 := Lib.hid (Hb1.out.trans (hb2.mono Hb1.out.size))
        have Ho2 := Lib.hid (ho2.lower Hb1.out.size)
        have HA22 := Lib.hid (HA2.out.below hb2)
        clear ho2 hb2
        go_wp2_with fail
        refine (frame_any p xn c2 A2 w2 Hpl.out HA22.out hn Hpin.out).mono ?_
        rintro e w3 h3
        rw [HZ.out] at h3
        obtain ⟨⟨A3, c3, rfl, ho3⟩, hb3⟩ := h3.len HF.out
        have Hb3 := Lib.hid (Hb2.out.trans (hb3.mono Hb2.out.size))
        have Ho23 := Lib.hid (Ho2.out.below hb3)
        have Hr3 := Lib.hid ho3.rd
        clear h3 ho3 hb3
        go_wp2_with (first | (at_builtin; refine hold ?_) | (at_make; refine hold ?_))
        (with_reducible refine unhold ?_)
        refine wpList_apd rfl _ _ _ rfl E8 w.heap.size _ B _ (Bs b) rfl Ho23.out _ F _ (Bs Z) rfl (by rw [Bs, List.length_map, HF.out, Nat.mul_one]) Hr3.out (Bs_one Z) (B + F) rfl (Bs (b ++ Z)) (by rw [Bs, Bs, ← List.map_append]) (by omega) (by omega) Hb3.out.size ?_
        intro A8 c8 w8 ho8 hg8 _
        have Hb8 := Lib.hid (Hb3.out.grown hg8 Hb3.out.size Ho23.out.row_ge)
        have Ho8 := Lib.hid ho8
        have HT : Hid ((b ++ Z).length = B + F) := by show _ = _; rw [List.length_append, HB.out, HF.out]
        clear ho8 hg8
        go_wp2_with fail
        go_ret2
        refine ⟨.inr ⟨b ++ Z, A8, c8, by rw [Hw.out, HZ.out], ?_, ?_⟩, Hb8.out⟩
        · rw [HT.out]; rfl
        · rw [HT.out]; exact Ho8.out
end Go.Proofs.YtojppmnmhdgnnaaGreat
