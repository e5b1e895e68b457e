/- Slices of texts, and of letters of patterns, in memory; a text's iterator. Walks: a text, letter by letter. Walks: a pattern's parts; whether a text is one. Walks: whether a text is a pattern, and whether a text is like one. -/
import Derived.Test.YtipnglidepfkbaaDoorMGrC
import Derived.Lib.OthersKept
import Derived.Test.YtipnglidepfkbaaDoorMGrB
import Derived.Deep.QuietTactic
import Derived.BigQuiet
namespace Go.Proofs.YtipnglidepfkbaaDoor
set_option linter.unusedVariables false
set_option linter.unusedSimpArgs false
open Go.RowKit

theorem St8_extract (l : List UInt8) (i j : Nat) : (St8 l).extract i j = St8 ((l.drop i).take (j - i)) := by
  apply ByteArray.ext
  simp [St8, ByteArray.data_extract]
theorem Estr : ElemT Tryd.prog 98 9 1 16 (.string ⟨#[]⟩) := ElemT.mk' (by kernel_rfl) (by kernel_rfl) rfl (by omega)
theorem Ept : ElemT Tryd.prog 89 101 2 24 (.agg #[.int .i32 0, .string ⟨#[]⟩]) := ElemT.mk' (by kernel_rfl) (by kernel_rfl) rfl (by omega)

def scells (l : List (List UInt8)) : List Value := l.map fun x => .string (St8 x)
theorem scells_len (l : List (List UInt8)) : (scells l).length = l.length := List.length_map _
theorem scells_get {l : List (List UInt8)} {j : Nat} {x : List UInt8} (h : l[j]? = some x) : (scells l)[j]? = some (.string (St8 x)) := by
  unfold scells
  rw [List.getElem?_map, h]
  rfl
theorem scells_snoc (l : List (List UInt8)) (x : List UInt8) : scells l ++ [.string (St8 x)] = scells (l ++ [x]) := by simp [scells]

theorem Own.iterAt {w : World} {base : Nat} {e : TypeId} {size : Nat} {A : Option Addr} {n c : Nat} {xs : List Value} (h : Own w base e size A n c xs) {k : Nat} {s : ByteArray} {pos : Nat} (hk : w.heap[k]? = some (.stringIter s pos)) (pos' : Nat) :
    Own (w.iterAt k s pos') base e size A n c xs := by
  refine ⟨h.1, ?_⟩
  rcases h.2 with hn | ⟨g, cap, cur, hv, hbg, hg, rest⟩
  · exact .inl hn
  · have hkg : g ≠ k := by
      intro e1
      rw [e1, hk] at hg
      cases hg
    exact .inr ⟨g, cap, cur, hv, hbg, (Lib.iterAt_other w k g s pos' hkg).trans hg, rest⟩
theorem Blk.iterAt {w : World} {g : Nat} {t : TypeId} {xs : List Value} (h : Blk w g t xs) {k : Nat} {s : ByteArray} {pos : Nat} (hk : w.heap[k]? = some (.stringIter s pos)) (pos' : Nat) : Blk (w.iterAt k s pos') g t xs := by
  have hkg : g ≠ k := by
    intro e1
    have h2 := h
    unfold Blk at h2
    rw [e1, hk] at h2
    cases h2
  exact (Lib.iterAt_other w k g s pos' hkg).trans h
theorem iter_keeps {T : List TypeId} {B : Nat} {w w' : World} {k : Nat} {s : ByteArray} {pos : Nat} (hk : w.heap[k]? = some (.stringIter s pos)) (h : Keeps T B w w') : w'.heap[k]? = some (.stringIter s pos) := by
  have hlt : k < w.heap.size := (Array.getElem?_eq_some_iff.1 hk).1
  rw [h.block k hlt (.inr ?_)]
  · exact hk
  · intro cs t fz e
    rw [hk] at e
    cases e
theorem iter_below {w w' : World} {k : Nat} {s : ByteArray} {pos : Nat} (hk : w.heap[k]? = some (.stringIter s pos)) (h : Below w.heap.size w w') : w'.heap[k]? = some (.stringIter s pos) := by
  rw [h.block k (Array.getElem?_eq_some_iff.1 hk).1]
  exact hk
theorem iterPos_at {w : World} {k : Nat} {s : ByteArray} {pos : Nat} (hk : w.heap[k]? = some (.stringIter s pos)) : w.iterPos k = pos := by
  unfold World.iterPos
  rw [hk]
end Go.Proofs.YtipnglidepfkbaaDoor
namespace Go.Proofs.YtipnglidepfkbaaDoor
set_option linter.unusedVariables false
set_option linter.unusedSimpArgs false
open Go.RowKit

attribute [local go_sem ↓] Go.wp_at_zero Go.wp_at_succ

set_option maxRecDepth 100000 in
theorem letters_any (s : List UInt8) (w : World) (hs : s.length ≤ 1000000) :
    Calls Tryd.prog 81 #[.string (St8 s)] w fun e w' => ∃ A c, e = .returned (.slice A (letters s).length c) ∧ Own w' w.heap.size 9 1 A (letters s).length c (scells (letters s)) ∧ Below w.heap.size w w' := by
  have hz := St8_size s
  have Hz := Lib.hid hz
  clear hz
  have Hb0 := Lib.hid ((Below.refl w.heap.size w).alloc (Nat.le_refl _) (.stringIter (St8 s) 0))
  have Hit0 := Lib.hid (World.iter_heap w (St8 s) 0)
  go_enter Tryd.func81, Tryd.ntmps81
  go_wp2_with fail
  go_loopw [3, 4] (fun vo vf wr => ∃ (f p n c : Nat) (A : Option Addr) (pre : List (List UInt8)), vo = .slice A n c ∧ vf = .int .i64 f ∧ f ≤ p ∧ p ≤ s.length ∧ n ≤ f ∧ Hid (pre.length = n) ∧ Hid (pre ++ letters (s.drop f) = letters s) ∧ Hid ((p = 0 ∧ f = 0) ∨ (f < p ∧ p = f + (dec (s.drop f)).2)) ∧ Hid (Own wr w.heap.size 9 1 A n c (scells pre)) ∧ Hid (wr.heap[w.heap.size]? = some (.stringIter (St8 s) p)) ∧ Hid (Below w.heap.size w wr)) (fun _ _ wr => s.length - wr.iterPos w.heap.size)
  case atStart => exact ⟨0, 0, 0, 0, none, [], rfl, rfl, by omega, by omega, by omega, rfl, by show _ = _; rw [List.drop_zero, List.nil_append], .inl ⟨rfl, rfl⟩, Own.nil _ _ _ _, Hit0, Hb0⟩
  case round =>
    clear Hb0 Hit0
    obtain ⟨f, p, n, c, A, pre, rfl, rfl, hfp, hps, hnf, Hn, Heq, Hfp, Ho, Hit, Hb⟩ := hrel
    by_cases hp : p < s.length
    · have hnx := fun ty => Lib.run_next_any_at (P := Tryd.prog) wr w.heap.size (St8 s) p ty Hit.out (by rw [Hz.out]; exact hp)
      rw [dec_at] at hnx
      have hne : s.drop p ≠ [] := by
        intro e
        rw [List.drop_eq_nil_iff] at e
        omega
      have hdb := dec_bounds _ hne
      rw [List.length_drop] at hdb
      generalize hdw : dec (s.drop p) = D at *
      obtain ⟨dr, dw⟩ := D
      dsimp only at hnx hdb
      have Hdw := Lib.hid (congrArg Prod.snd hdw)
      have hit2 := Lib.iterAt_heap wr w.heap.size (St8 s) p (p + dw) Hit.out
      have ho2 := Own.iterAt Ho.out Hit.out (p + dw)
      have hb2 := Lib.below_iterAt Hb.out (Nat.le_refl _) (St8 s) (p + dw)
      have hpos := iterPos_at Hit.out
      have hpos2 := iterPos_at hit2
      clear hdw hne
      generalize wr.iterAt w.heap.size (St8 s) (p + dw) = wi at *
      have hzi := hb2.size
      by_cases hlt : f < p
      · have hfd : p = f + (dec (s.drop f)).2 := by
          rcases Hfp.out with ⟨h1, h2⟩ | ⟨h1, h2⟩
          · omega
          · exact h2
        have hnf2 : s.drop f ≠ [] := by
          intro e
          rw [List.drop_eq_nil_iff] at e
          omega
        have hlc := letters_cons hnf2
        rw [List.drop_drop, show (dec (s.drop f)).2 = p - f from by omega, show f + (p - f) = p from by omega] at hlc
        have heq := Heq.out
        rw [hlc] at heq
        have Heq2 := Lib.hid heq
        have hbW : Below wi.heap.size wi (wi.alloc (.cells #[.string ((St8 s).extract f p)] 9)) := (Below.refl _ _).alloc (Nat.le_refl _) _
        have hnew := (Blk.new wi 9 #[.string ((St8 s).extract f p)]).range
        have ho3 := Own.below ho2 hbW
        have hb3 := hb2.trans (hbW.mono hzi)
        have hit3 := iter_below hit2 hbW
        clear Heq heq hlc hfd hnf2 Hfp Ho Hb ho2 hb2 Hit
        go_wp2_with (first | (at_builtin; refine hold ?_) | (at_make; refine hold ?_))
        (with_reducible refine unhold ?_)
        refine wpList_apd rfl _ _ _ rfl Estr w.heap.size _ n _ (scells pre) rfl ho3 _ 1 _ [.string ((St8 s).extract f p)] rfl rfl (fun _ => ⟨_, _, rfl, hnew⟩) (by simp [Value.oneCell']) (n + 1) rfl _ rfl (by omega) (by omega) (by rw [World.size_alloc]; omega) ?_
        intro A5 c5 w9 ho10 hg10 _
        have hk10 := ho3.apd_keeps hg10
        have Hb10 := Lib.hid (hb3.grown hg10 hb3.size ho3.row_ge)
        have Hit10 := Lib.hid (iter_keeps hit3 hk10)
        have hpos10 := iterPos_at Hit10.out
        rw [St8_extract, scells_snoc] at ho10
        have Ho10 := Lib.hid ho10
        clear hbW hnew ho3 hb3 hit3 hit2 ho10 hg10 hk10 hnx
        go_wp2_with fail
        go_roundw
        case rel => exact ⟨p, p + dw, n + 1, c5, A5, _, rfl, rfl, by omega, by omega, by omega, (by show _ = _; rw [List.length_append, Hn.out]; rfl), (by show _ = _; rw [List.append_assoc]; exact Heq2.out), .inr ⟨by omega, by rw [Hdw.out]⟩, Ho10, Hit10, Hb10⟩
        case measure => rw [hpos, hpos10]; omega
      · obtain rfl : f = p := by omega
        have hp0 : f = 0 := by
          rcases Hfp.out with ⟨h1, h2⟩ | ⟨h1, h2⟩
          · omega
          · omega
        have Hit2 := Lib.hid hit2
        have Ho2 := Lib.hid ho2
        have Hb2 := Lib.hid hb2
        clear ho2 hb2 hit2 Hfp Ho Hb Hit
        go_wp2_with fail
        go_roundw
        case rel => exact ⟨f, f + dw, n, c, A, pre, rfl, rfl, by omega, by omega, by omega, Hn, Heq, .inr ⟨by omega, by rw [Hdw.out]⟩, Ho2, Hit2, Hb2⟩
        case measure => rw [hpos, hpos2]; omega
    · have hnx := fun ty => Lib.run_next_end_at (P := Tryd.prog) wr w.heap.size (St8 s) p ty Hit.out (by rw [Hz.out]; exact hp)
      obtain rfl : p = s.length := by omega
      have hzI := Hz.out
      have hzr := Hb.out.size
      by_cases hlt : f < s.length
      · have hfd : s.length = f + (dec (s.drop f)).2 := by
          rcases Hfp.out with ⟨h1, h2⟩ | ⟨h1, h2⟩
          · omega
          · exact h2
        have hnf2 : s.drop f ≠ [] := by
          intro e
          rw [List.drop_eq_nil_iff] at e
          omega
        have hlc := letters_cons hnf2
        rw [List.drop_drop, show (dec (s.drop f)).2 = s.length - f from by omega, show f + (s.length - f) = s.length from by omega, List.drop_length, letters_nil] at hlc
        have heq := Heq.out
        rw [hlc] at heq
        have Heq2 := Lib.hid heq
        have hltI : (f : Int) < ((s.length : Nat) : Int) := by omega
        have hbW : Below wr.heap.size wr (wr.alloc (.cells #[.string ((St8 s).extract f s.length)] 9)) := (Below.refl _ _).alloc (Nat.le_refl _) _
        have hnew := (Blk.new wr 9 #[.string ((St8 s).extract f s.length)]).range
        have ho3 := Own.below Ho.out hbW
        have hb3 := Hb.out.trans (hbW.mono hzr)
        clear Heq heq hlc hfd hnf2 Hfp Ho Hb Hit hbW
        go_wp2_with (first | (at_builtin; refine hold ?_) | (at_make; refine hold ?_))
        (with_reducible refine unhold ?_)
        refine wpList_apd rfl _ _ _ rfl Estr w.heap.size _ n _ (scells pre) rfl ho3 _ 1 _ [.string ((St8 s).extract f s.length)] rfl rfl (fun _ => ⟨_, _, rfl, hnew⟩) (by simp [Value.oneCell']) (n + 1) rfl _ rfl (by omega) (by omega) (by rw [World.size_alloc]; omega) ?_
        intro A5 c5 w9 ho10 hg10 _
        have hk10 := ho3.apd_keeps hg10
        have Hb10 := Lib.hid (hb3.grown hg10 hb3.size ho3.row_ge)
        rw [St8_extract, scells_snoc] at ho10
        have Ho10 := Lib.hid ho10
        clear hnew ho3 hb3 ho10 hg10 hk10 hnx
        go_wp2_with fail
        go_ret
        have hl1 : (pre ++ [List.take (s.length - f) (List.drop f s)]).length = n + 1 := by rw [List.length_append, Hn.out]; rfl
        rw [← Heq2.out]
        exact ⟨A5, c5, by rw [hl1]; rfl, by rw [hl1]; exact Ho10.out, Hb10.out⟩
      · have hp0 : s.length = 0 := by
          rcases Hfp.out with ⟨h1, h2⟩ | ⟨h1, h2⟩
          · omega
          · omega
        have hs0 : s.drop f = [] := by rw [List.drop_eq_nil_iff]; omega
        have heq := Heq.out
        rw [hs0, letters_nil, List.append_nil] at heq
        have hln : (letters s).length = n := by rw [← heq]; exact Hn.out
        have Heq2 := Lib.hid heq
        clear Heq heq Hfp hs0
        obtain rfl : f = s.length := by omega
        go_wp2_with fail
        go_ret
        rw [← Heq2.out]
        exact ⟨A, c, by rw [Hn.out]; rfl, by rw [Hn.out]; exact Ho.out, Hb.out⟩
end Go.Proofs.YtipnglidepfkbaaDoor
namespace Go.Proofs.YtipnglidepfkbaaDoor
set_option linter.unusedVariables false
set_option linter.unusedSimpArgs false
open Go.RowKit

attribute [local go_sem ↓] Go.wp_at_zero Go.wp_at_succ

theorem letters_get {s : List UInt8} {pre : List (Nat × List UInt8)} {p : Nat} (h : pre ++ lets (s.drop p) = lets s) (hne : s.drop p ≠ []) : (letters s)[pre.length]? = some ((s.drop p).take (dec (s.drop p)).2) := by
  unfold letters
  rw [← h, List.map_append, List.getElem?_append_right (by rw [List.length_map]; omega), List.length_map, Nat.sub_self, lets_cons hne]
  rfl

set_option maxHeartbeats 4000000 in
set_option maxRecDepth 100000 in
theorem parts_any (s : List UInt8) (w : World) (hs : s.length ≤ 1000000) :
    Calls Tryd.prog 77 #[.string (St8 s)] w fun e w' => ∃ A c, e = .returned (.tuple #[.slice A (partsM s).1.length c, .bool (partsM s).2]) ∧ Own w' w.heap.size 101 2 A (partsM s).1.length c (pcells (partsM s).1) ∧ Below w.heap.size w w' := by
  have Hz := Lib.hid (St8_size s)
  have hlw := Lib.hid (letters_any s w hs)
  have hll := Lib.hid (letters_le s)
  go_enter Tryd.func77, Tryd.ntmps77
  go_wp2_with fail
  refine hlw.out.mono ?_
  rintro e w1 ⟨LA, lc, rfl, hlo, hb1⟩
  have Hlr := Lib.hid hlo.rd
  have Hb1 := Lib.hid hb1
  have hlc := hlo.cap
  have Hb0 := Lib.hid ((Below.refl w1.heap.size w1).alloc (Nat.le_refl _) (.stringIter (St8 s) 0))
  have Hit0 := Lib.hid (World.iter_heap w1 (St8 s) 0)
  clear hlo hb1 hlw
  go_wp2_with fail
  go_loopw [4, 5, 7] (fun vo ve vi wr => ∃ (m p n c : Nat) (A : Option Addr) (e : Bool) (pre : List (Nat × List UInt8)) (q : List Pt), vo = .slice A n c ∧ ve = .bool e ∧ vi = .int .i64 ((m : Int) - 1) ∧ m ≤ p ∧ n ≤ m ∧ p ≤ s.length ∧ Hid (pre.length = m) ∧ Hid (pre ++ lets (s.drop p) = lets s) ∧ Hid (q.length = n) ∧ Hid (q ++ (partsF e (lets (s.drop p))).1 = (partsM s).1) ∧ Hid ((partsF e (lets (s.drop p))).2 = (partsM s).2) ∧ Hid (Own wr w1.heap.size 101 2 A n c (pcells q)) ∧ Hid (wr.heap[w1.heap.size]? = some (.stringIter (St8 s) p)) ∧ Hid (Below w1.heap.size w1 wr)) (fun _ _ _ wr => s.length - wr.iterPos w1.heap.size)
  case atStart => exact ⟨0, 0, 0, 0, none, false, [], [], rfl, rfl, rfl, by omega, by omega, by omega, rfl, by show _ = _; rw [List.drop_zero]; rfl, rfl, by show _ = _; rw [List.drop_zero]; rfl, by show _ = _; rw [List.drop_zero]; rfl, Own.nil _ _ _ _, Hit0, Hb0⟩
  case round =>
    clear Hb0 Hit0
    obtain ⟨m, p, n, c, A, e, pre, q, rfl, rfl, rfl, hmp, hnm, hps, Hm, Heq, Hn, Hq1, Hq2, Ho, Hit, Hb⟩ := hrel
    by_cases hp : p < s.length
    · have hnx := fun ty => Lib.run_next_any_at (P := Tryd.prog) wr w1.heap.size (St8 s) p ty Hit.out (by rw [Hz.out]; exact hp)
      rw [dec_at] at hnx
      have hne : s.drop p ≠ [] := by
        intro e
        rw [List.drop_eq_nil_iff] at e
        omega
      have hdb := dec_bounds _ hne
      rw [List.length_drop] at hdb
      have hdr := dec_rune (s.drop p)
      have hlg := letters_get Heq.out hne
      have hle := lets_cons hne
      rw [hle] at Heq Hq1 Hq2
      rw [Hm.out] at hlg
      rw [List.drop_drop] at Heq Hq1 Hq2
      have hml : m < (letters s).length := (List.getElem?_eq_some_iff.1 hlg).1
      generalize hxt : (s.drop p).take (dec (s.drop p)).2 = x at *
      generalize hdw : dec (s.drop p) = D at *
      obtain ⟨dr, dw⟩ := D
      dsimp only at hnx hdb hdr Heq Hq1 Hq2
      obtain ⟨lb, lo, rfl, hlr⟩ := Hlr.out (by intro e; have := congrArg List.length e; rw [scells_len, List.length_nil] at this; omega)
      have cl1 := cell_keep Hb.out (hlr m _ (scells_get hlg))
      have hit2 := Lib.iterAt_heap wr w1.heap.size (St8 s) p (p + dw) Hit.out
      have ho2 := Own.iterAt Ho.out Hit.out (p + dw)
      have hb2 := Lib.below_iterAt Hb.out (Nat.le_refl _) (St8 s) (p + dw)
      have cl2 := cell_keep hb2 (hlr m _ (scells_get hlg))
      have hpos := iterPos_at Hit.out
      have hpos2 := iterPos_at hit2
      clear hdw hne hlr cl1 hxt hlg hle Ho Hb
      generalize wr.iterAt w1.heap.size (St8 s) (p + dw) = wi at *
      have hzi := hb2.size
      have hmI : (0 : Int) ≤ ((m : Int) - 1 + 1) := by omega
      have hmI2 : ((m : Int) - 1 + 1) < ((letters s).length : Int) := by omega
      have hwr : IntKind.i64.wrap ((m : Int) - 1 + 1) = (m : Int) := by rw [IntKind.wrap_i64]; omega
      have hwm : (m : Int) - 1 + 1 = (m : Int) := by omega
      cases e with
      | true =>
        have hst : stepP true (dr, x) = (false, [(Pt.mk 0 x)]) := rfl
        rw [partsF, hst] at Hq1 Hq2
        have hbX : Below wi.heap.size wi (wi.alloc (.cells #[.int .i32 0, .string (St8 x)] 101)) := (Below.refl _ _).alloc (Nat.le_refl _) _
        have hb3 := hb2.trans (hbX.mono hzi)
        have hbW : Below ((wi.alloc (.cells #[.int .i32 0, .string (St8 x)] 101))).heap.size (wi.alloc (.cells #[.int .i32 0, .string (St8 x)] 101)) (((wi.alloc (.cells #[.int .i32 0, .string (St8 x)] 101))).alloc (.cells #[.int .i32 0, .string (St8 x)] 101)) := (Below.refl _ _).alloc (Nat.le_refl _) _
        have hnew := (Blk.new (wi.alloc (.cells #[.int .i32 0, .string (St8 x)] 101)) 101 #[.int .i32 0, .string (St8 x)]).range
        rw [World.size_alloc] at hnew
        have ho3 := Own.below (Own.below ho2 hbX) hbW
        have hb4 := hb3.trans (hbW.mono hb3.size)
        have hit4 := iter_below (iter_below hit2 hbX) hbW
        have hz4 := hb4.size
        have hpc : (pcells q).length = n * 2 := by rw [pcells_len, Hn.out]
        have Hap : Hid (pcells q ++ [.int .i32 0, .string (St8 x)] = pcells (q ++ [(Pt.mk 0 x)])) := by show _ = _; rw [pcells_append]; rfl
        have Hpre : Hid ((pre ++ [(dr, x)]).length = m + 1) := by show _ = _; rw [List.length_append, Hm.out]; rfl
        have Heq2 : Hid ((pre ++ [(dr, x)]) ++ lets (s.drop (p + dw)) = lets s) := by show _ = _; rw [List.append_assoc]; exact Heq.out
        have Hq3 : Hid ((q ++ [(Pt.mk 0 x)]) ++ (partsF false (lets (s.drop (p + dw)))).1 = (partsM s).1) := by show _ = _; rw [List.append_assoc]; exact Hq1.out
        have Hq4 : Hid ((partsF false (lets (s.drop (p + dw)))).2 = (partsM s).2) := Hq2.out
        have Hql : Hid ((q ++ [(Pt.mk 0 x)]).length = n + 1) := by show _ = _; rw [List.length_append, Hn.out]; rfl
        clear hst Hq1 Hq2 hbX hbW ho2 hb2 hit2 hb3 Heq
        go_wp2_with (first | (at_builtin; refine hold ?_) | (at_make; refine hold ?_))
        (with_reducible refine unhold ?_)
        refine wpList_apd rfl _ _ _ rfl Ept w1.heap.size _ n _ (pcells q) rfl ho3 _ 1 _ [.int .i32 0, .string (St8 x)] rfl rfl (fun _ => ⟨_, _, rfl, hnew⟩) (by simp [Value.oneCell']) (n + 1) rfl _ rfl (by omega) (by omega) hz4 ?_
        intro A5 c5 w9 ho10 hg10 _
        have hk10 := ho3.apd_keeps hg10
        have Hb10 := Lib.hid (hb4.grown hg10 hb4.size ho3.row_ge)
        have Hit10 := Lib.hid (iter_keeps hit4 hk10)
        have hpos10 := iterPos_at Hit10.out
        rw [Hap.out] at ho10
        have Ho10 := Lib.hid ho10
        clear hnew ho3 hb4 hit4 ho10 hg10 hk10 hnx cl2
        go_wp2_with fail
        go_roundw
        case rel => exact ⟨m + 1, p + dw, n + 1, c5, A5, false, _, _, rfl, rfl, by go_num, by omega, by omega, by omega, Hpre, Heq2, Hql, Hq3, Hq4, Ho10, Hit10, Hb10⟩
        case measure => rw [hpos, hpos10]; omega
      | false =>
        by_cases h92 : dr = 92
        · subst h92
          have hst : stepP false (92, x) = (true, []) := rfl
          rw [partsF, hst] at Hq1 Hq2
          have Hpre : Hid ((pre ++ [(92, x)]).length = m + 1) := by show _ = _; rw [List.length_append, Hm.out]; rfl
          have Heq2 : Hid ((pre ++ [(92, x)]) ++ lets (s.drop (p + dw)) = lets s) := by show _ = _; rw [List.append_assoc]; exact Heq.out
          have hbX : Below wi.heap.size wi (wi.alloc (.cells #[.int .i32 0, .string (St8 x)] 101)) := (Below.refl _ _).alloc (Nat.le_refl _) _
          have Hb3 := Lib.hid (hb2.trans (hbX.mono hzi))
          have Ho3 := Lib.hid (Own.below ho2 hbX)
          have Hit3 := Lib.hid (iter_below hit2 hbX)
          have hpos3 := iterPos_at Hit3.out
          clear hst hbX hb2 ho2 hit2 Heq
          go_wp2_with fail
          go_roundw
          case rel => exact ⟨m + 1, p + dw, n, c, A, true, _, q, rfl, rfl, by go_num, by omega, by omega, by omega, Hpre, Heq2, Hn, Hq1, Hq2, Ho3, Hit3, Hb3⟩
          case measure => rw [hpos, hpos3]; omega
        · have e92 : ((dr : Int) == 92) = false := by rw [beq_eq_false_iff_ne]; omega
          by_cases h37 : dr = 37
          · subst h37
            have hst : stepP false (37, x) = (false, [(Pt.mk 37 [])]) := rfl
            rw [partsF, hst] at Hq1 Hq2
            have hbX : Below wi.heap.size wi (wi.alloc (.cells #[.int .i32 37, .string ⟨#[]⟩] 101)) := (Below.refl _ _).alloc (Nat.le_refl _) _
            have hb3 := hb2.trans (hbX.mono hzi)
            have hbW : Below ((wi.alloc (.cells #[.int .i32 37, .string ⟨#[]⟩] 101))).heap.size (wi.alloc (.cells #[.int .i32 37, .string ⟨#[]⟩] 101)) (((wi.alloc (.cells #[.int .i32 37, .string ⟨#[]⟩] 101))).alloc (.cells #[.int .i32 37, .string ⟨#[]⟩] 101)) := (Below.refl _ _).alloc (Nat.le_refl _) _
            have hnew := (Blk.new (wi.alloc (.cells #[.int .i32 37, .string ⟨#[]⟩] 101)) 101 #[.int .i32 37, .string ⟨#[]⟩]).range
            rw [World.size_alloc] at hnew
            have ho3 := Own.below (Own.below ho2 hbX) hbW
            have hb4 := hb3.trans (hbW.mono hb3.size)
            have hit4 := iter_below (iter_below hit2 hbX) hbW
            have hz4 := hb4.size
            have hpc : (pcells q).length = n * 2 := by rw [pcells_len, Hn.out]
            have Hap : Hid (pcells q ++ [.int .i32 37, .string ⟨#[]⟩] = pcells (q ++ [(Pt.mk 37 [])])) := by show _ = _; rw [pcells_append]; rfl
            have Hpre : Hid ((pre ++ [(37, x)]).length = m + 1) := by show _ = _; rw [List.length_append, Hm.out]; rfl
            have Heq2 : Hid ((pre ++ [(37, x)]) ++ lets (s.drop (p + dw)) = lets s) := by show _ = _; rw [List.append_assoc]; exact Heq.out
            have Hq3 : Hid ((q ++ [(Pt.mk 37 [])]) ++ (partsF false (lets (s.drop (p + dw)))).1 = (partsM s).1) := by show _ = _; rw [List.append_assoc]; exact Hq1.out
            have Hq4 : Hid ((partsF false (lets (s.drop (p + dw)))).2 = (partsM s).2) := Hq2.out
            have Hql : Hid ((q ++ [(Pt.mk 37 [])]).length = n + 1) := by show _ = _; rw [List.length_append, Hn.out]; rfl
            clear hst Hq1 Hq2 hbX hbW ho2 hb2 hit2 hb3 Heq
            go_wp2_with (first | (at_builtin; refine hold ?_) | (at_make; refine hold ?_))
            (with_reducible refine unhold ?_)
            refine wpList_apd rfl _ _ _ rfl Ept w1.heap.size _ n _ (pcells q) rfl ho3 _ 1 _ [.int .i32 37, .string ⟨#[]⟩] rfl rfl (fun _ => ⟨_, _, rfl, hnew⟩) (by simp [Value.oneCell']) (n + 1) rfl _ rfl (by omega) (by omega) hz4 ?_
            intro A5 c5 w9 ho10 hg10 _
            have hk10 := ho3.apd_keeps hg10
            have Hb10 := Lib.hid (hb4.grown hg10 hb4.size ho3.row_ge)
            have Hit10 := Lib.hid (iter_keeps hit4 hk10)
            have hpos10 := iterPos_at Hit10.out
            rw [Hap.out] at ho10
            have Ho10 := Lib.hid ho10
            clear hnew ho3 hb4 hit4 ho10 hg10 hk10 hnx cl2
            go_wp2_with fail
            go_roundw
            case rel => exact ⟨m + 1, p + dw, n + 1, c5, A5, false, _, _, rfl, rfl, by go_num, by omega, by omega, by omega, Hpre, Heq2, Hql, Hq3, Hq4, Ho10, Hit10, Hb10⟩
            case measure => rw [hpos, hpos10]; omega
          · have e37 : ((dr : Int) == 37) = false := by rw [beq_eq_false_iff_ne]; omega
            by_cases h95 : dr = 95
            · subst h95
              have hst : stepP false (95, x) = (false, [(Pt.mk 95 [])]) := rfl
              rw [partsF, hst] at Hq1 Hq2
              have hbX : Below wi.heap.size wi (wi.alloc (.cells #[.int .i32 95, .string ⟨#[]⟩] 101)) := (Below.refl _ _).alloc (Nat.le_refl _) _
              have hb3 := hb2.trans (hbX.mono hzi)
              have hbW : Below ((wi.alloc (.cells #[.int .i32 95, .string ⟨#[]⟩] 101))).heap.size (wi.alloc (.cells #[.int .i32 95, .string ⟨#[]⟩] 101)) (((wi.alloc (.cells #[.int .i32 95, .string ⟨#[]⟩] 101))).alloc (.cells #[.int .i32 95, .string ⟨#[]⟩] 101)) := (Below.refl _ _).alloc (Nat.le_refl _) _
              have hnew := (Blk.new (wi.alloc (.cells #[.int .i32 95, .string ⟨#[]⟩] 101)) 101 #[.int .i32 95, .string ⟨#[]⟩]).range
              rw [World.size_alloc] at hnew
              have ho3 := Own.below (Own.below ho2 hbX) hbW
              have hb4 := hb3.trans (hbW.mono hb3.size)
              have hit4 := iter_below (iter_below hit2 hbX) hbW
              have hz4 := hb4.size
              have hpc : (pcells q).length = n * 2 := by rw [pcells_len, Hn.out]
              have Hap : Hid (pcells q ++ [.int .i32 95, .string ⟨#[]⟩] = pcells (q ++ [(Pt.mk 95 [])])) := by show _ = _; rw [pcells_append]; rfl
              have Hpre : Hid ((pre ++ [(95, x)]).length = m + 1) := by show _ = _; rw [List.length_append, Hm.out]; rfl
              have Heq2 : Hid ((pre ++ [(95, x)]) ++ lets (s.drop (p + dw)) = lets s) := by show _ = _; rw [List.append_assoc]; exact Heq.out
              have Hq3 : Hid ((q ++ [(Pt.mk 95 [])]) ++ (partsF false (lets (s.drop (p + dw)))).1 = (partsM s).1) := by show _ = _; rw [List.append_assoc]; exact Hq1.out
              have Hq4 : Hid ((partsF false (lets (s.drop (p + dw)))).2 = (partsM s).2) := Hq2.out
              have Hql : Hid ((q ++ [(Pt.mk 95 [])]).length = n + 1) := by show _ = _; rw [List.length_append, Hn.out]; rfl
              clear hst Hq1 Hq2 hbX hbW ho2 hb2 hit2 hb3 Heq
              go_wp2_with (first | (at_builtin; refine hold ?_) | (at_make; refine hold ?_))
              (with_reducible refine unhold ?_)
              refine wpList_apd rfl _ _ _ rfl Ept w1.heap.size _ n _ (pcells q) rfl ho3 _ 1 _ [.int .i32 95, .string ⟨#[]⟩] rfl rfl (fun _ => ⟨_, _, rfl, hnew⟩) (by simp [Value.oneCell']) (n + 1) rfl _ rfl (by omega) (by omega) hz4 ?_
              intro A5 c5 w9 ho10 hg10 _
              have hk10 := ho3.apd_keeps hg10
              have Hb10 := Lib.hid (hb4.grown hg10 hb4.size ho3.row_ge)
              have Hit10 := Lib.hid (iter_keeps hit4 hk10)
              have hpos10 := iterPos_at Hit10.out
              rw [Hap.out] at ho10
              have Ho10 := Lib.hid ho10
              clear hnew ho3 hb4 hit4 ho10 hg10 hk10 hnx cl2
              go_wp2_with fail
              go_roundw
              case rel => exact ⟨m + 1, p + dw, n + 1, c5, A5, false, _, _, rfl, rfl, by go_num, by omega, by omega, by omega, Hpre, Heq2, Hql, Hq3, Hq4, Ho10, Hit10, Hb10⟩
              case measure => rw [hpos, hpos10]; omega
            · have e95 : ((dr : Int) == 95) = false := by rw [beq_eq_false_iff_ne]; omega
              have hst : stepP false (dr, x) = (false, [(Pt.mk 0 x)]) := by unfold stepP; rw [if_neg (by simp), if_neg h92, if_neg (by simp only; omega)]
              rw [partsF, hst] at Hq1 Hq2
              have hbX : Below wi.heap.size wi (wi.alloc (.cells #[.int .i32 0, .string (St8 x)] 101)) := (Below.refl _ _).alloc (Nat.le_refl _) _
              have hb3 := hb2.trans (hbX.mono hzi)
              have hbW : Below ((wi.alloc (.cells #[.int .i32 0, .string (St8 x)] 101))).heap.size (wi.alloc (.cells #[.int .i32 0, .string (St8 x)] 101)) (((wi.alloc (.cells #[.int .i32 0, .string (St8 x)] 101))).alloc (.cells #[.int .i32 0, .string (St8 x)] 101)) := (Below.refl _ _).alloc (Nat.le_refl _) _
              have hnew := (Blk.new (wi.alloc (.cells #[.int .i32 0, .string (St8 x)] 101)) 101 #[.int .i32 0, .string (St8 x)]).range
              rw [World.size_alloc] at hnew
              have ho3 := Own.below (Own.below ho2 hbX) hbW
              have hb4 := hb3.trans (hbW.mono hb3.size)
              have hit4 := iter_below (iter_below hit2 hbX) hbW
              have hz4 := hb4.size
              have hpc : (pcells q).length = n * 2 := by rw [pcells_len, Hn.out]
              have Hap : Hid (pcells q ++ [.int .i32 0, .string (St8 x)] = pcells (q ++ [(Pt.mk 0 x)])) := by show _ = _; rw [pcells_append]; rfl
              have Hpre : Hid ((pre ++ [(dr, x)]).length = m + 1) := by show _ = _; rw [List.length_append, Hm.out]; rfl
              have Heq2 : Hid ((pre ++ [(dr, x)]) ++ lets (s.drop (p + dw)) = lets s) := by show _ = _; rw [List.append_assoc]; exact Heq.out
              have Hq3 : Hid ((q ++ [(Pt.mk 0 x)]) ++ (partsF false (lets (s.drop (p + dw)))).1 = (partsM s).1) := by show _ = _; rw [List.append_assoc]; exact Hq1.out
              have Hq4 : Hid ((partsF false (lets (s.drop (p + dw)))).2 = (partsM s).2) := Hq2.out
              have Hql : Hid ((q ++ [(Pt.mk 0 x)]).length = n + 1) := by show _ = _; rw [List.length_append, Hn.out]; rfl
              clear hst Hq1 Hq2 hbX hbW ho2 hb2 hit2 hb3 Heq
              go_wp2_with (first | (at_builtin; refine hold ?_) | (at_make; refine hold ?_))
              (with_reducible refine unhold ?_)
              refine wpList_apd rfl _ _ _ rfl Ept w1.heap.size _ n _ (pcells q) rfl ho3 _ 1 _ [.int .i32 0, .string (St8 x)] rfl rfl (fun _ => ⟨_, _, rfl, hnew⟩) (by simp [Value.oneCell']) (n + 1) rfl _ rfl (by omega) (by omega) hz4 ?_
              intro A5 c5 w9 ho10 hg10 _
              have hk10 := ho3.apd_keeps hg10
              have Hb10 := Lib.hid (hb4.grown hg10 hb4.size ho3.row_ge)
              have Hit10 := Lib.hid (iter_keeps hit4 hk10)
              have hpos10 := iterPos_at Hit10.out
              rw [Hap.out] at ho10
              have Ho10 := Lib.hid ho10
              clear hnew ho3 hb4 hit4 ho10 hg10 hk10 hnx cl2
              go_wp2_with fail
              go_roundw
              case rel => exact ⟨m + 1, p + dw, n + 1, c5, A5, false, _, _, rfl, rfl, by go_num, by omega, by omega, by omega, Hpre, Heq2, Hql, Hq3, Hq4, Ho10, Hit10, Hb10⟩
              case measure => rw [hpos, hpos10]; omega
    · have hnx := fun ty => Lib.run_next_end_at (P := Tryd.prog) wr w1.heap.size (St8 s) p ty Hit.out (by rw [Hz.out]; exact hp)
      obtain rfl : p = s.length := by omega
      rw [List.drop_length, lets_nil, partsF] at Hq1 Hq2
      have hq1 := Hq1.out
      dsimp only at hq1
      rw [List.append_nil] at hq1
      have Hq3 := Lib.hid hq1
      have Hq4 : Hid ((partsM s).2 = !e) := Hq2.out.symm
      have Hbe := Lib.hid (Hb1.out.trans (Hb.out.mono Hb1.out.size))
      clear hq1 Hq1 Hq2
      go_wp2_with fail
      go_ret2
      rw [← Hq3.out, Hq4.out, Hn.out]
      exact ⟨A, c, rfl, Own.lower Ho.out Hb1.out.size, Hbe.out⟩
end Go.Proofs.YtipnglidepfkbaaDoor
namespace Go.Proofs.YtipnglidepfkbaaDoor
set_option linter.unusedVariables false
set_option linter.unusedSimpArgs false
open Go.RowKit

attribute [local go_sem ↓] Go.wp_at_zero Go.wp_at_succ

set_option maxRecDepth 100000 in
theorem check_any (s : List UInt8) (w : World) (hs : s.length ≤ 1000000) :
    Calls Tryd.prog 50 #[.string (St8 s)] w fun e w' => e = .returned (.int .i64 (if (partsM s).2 = true then 0 else 30)) ∧ Below w.heap.size w w' := by
  have hp := Lib.hid (parts_any s w hs)
  by_cases hb : (partsM s).2 = true
  · rw [hb] at hp
    rw [if_pos hb]
    go_enter Tryd.func50, Tryd.ntmps50
    go_wp2_with fail
    refine hp.out.mono ?_
    rintro e w1 ⟨A, c, rfl, _, hb1⟩
    go_wp2_with fail
    go_ret
    exact ⟨rfl, hb1⟩
  · rw [Bool.not_eq_true] at hb
    rw [hb] at hp
    rw [if_neg (by rw [hb]; decide)]
    go_enter Tryd.func50, Tryd.ntmps50
    go_wp2_with fail
    refine hp.out.mono ?_
    rintro e w1 ⟨A, c, rfl, _, hb1⟩
    go_wp2_with fail
    go_ret
    exact ⟨rfl, hb1⟩

section
variable {ps : List Pt} {t : List (List UInt8)} {n i k b f : Nat} {pt : Pt}
theorem mloop_end (h : ¬ k < t.length) : mloop ps t (n + 1) i k b f = (ps.drop i).all fun p => p.kind == 37 := by
  rw [mloop, if_neg h]
theorem mloop_any (h : k < t.length) (hp : ps[i]? = some pt) (hk : pt.kind = 37) : mloop ps t (n + 1) i k b f = mloop ps t n (i + 1) k (i + 1) k := by
  rw [mloop, if_pos h, hp, if_pos (by rw [← hk]; rfl)]
theorem mloop_one (h : k < t.length) (hp : ps[i]? = some pt) (hk : ¬ pt.kind = 37) (ho : pt.kind = 95 ∨ pt = ⟨0, t.getD k []⟩) : mloop ps t (n + 1) i k b f = mloop ps t n (i + 1) (k + 1) b f := by
  rw [mloop, if_pos h, hp, if_neg (by intro e; exact hk (Option.some.inj e)), if_pos (by
    rcases ho with h | h
    · exact .inl (by rw [← h]; rfl)
    · exact .inr (by rw [h]))]
theorem mloop_back (h : k < t.length) (hn : ∀ pt, ps[i]? = some pt → ¬ pt.kind = 37 ∧ ¬ pt.kind = 95 ∧ pt ≠ ⟨0, t.getD k []⟩) : mloop ps t (n + 1) i k b f = if 0 < b then mloop ps t n b (f + 1) b (f + 1) else false := by
  rw [mloop, if_pos h]
  cases hp : ps[i]? with
  | none => rw [if_neg (by simp), if_neg (by simp)]
  | some pt =>
    obtain ⟨h1, h2, h3⟩ := hn pt hp
    rw [if_neg (by intro e; exact h1 (Option.some.inj e)), if_neg (by
      rintro (e | e)
      · exact h2 (Option.some.inj e)
      · exact h3 (Option.some.inj e))]
end
theorem meas_next {T P i k f : Nat} (h : i < P) (hf : f ≤ k) (hk : k < T) : (T - k) * (P + 1) + (P - (i + 1)) < (T - f) * (P + 1) + (P - i) := by
  have := Nat.mul_le_mul_right (P + 1) (show T - k ≤ T - f by omega)
  omega
theorem meas_back {T P i b f : Nat} (hf : f < T) : (T - (f + 1)) * (P + 1) + (P - b) < (T - f) * (P + 1) + (P - i) := by
  have : (T - f) * (P + 1) = (T - (f + 1)) * (P + 1) + (P + 1) := by rw [show T - f = (T - (f + 1)) + 1 from by omega, Nat.succ_mul]
  omega
theorem pcell0 {ps : List Pt} {i : Nat} {pt : Pt} (h : ps[i]? = some pt) : (pcells ps)[i * 2]? = some (.int .i32 pt.kind) := pcells_get ps i pt 0 h (by omega)
theorem pcell1 {ps : List Pt} {i : Nat} {pt : Pt} (h : ps[i]? = some pt) : (pcells ps)[i * 2 + 1]? = some (.string (St8 pt.letter)) := pcells_get ps i pt 1 h (by omega)

set_option maxHeartbeats 16000000 in
set_option maxRecDepth 100000 in
theorem match_any (p s : List UInt8) (w : World) (hp : p.length ≤ 1000000) (hs : s.length ≤ 1000000) :
    Calls Tryd.prog 58 #[.string (St8 p), .string (St8 s)] w fun e w' => (∃ er, e = .returned (.tuple #[.bool (matchM p s), .int .i64 er])) ∧ Below w.heap.size w w' := by
  have hpw := parts_any p w hp
  have hM : Hid (matchM p s = ((partsM p).2 && mloop (partsM p).1 (letters s) (((letters s).length + 1) * ((partsM p).1.length + 1)) 0 0 0 0)) := rfl
  have HP : Hid ((partsM p).1.length ≤ p.length) := partsM_len p
  by_cases hb : (partsM p).2 = true
  · rw [hb] at hpw hM
    rw [Bool.true_and] at hM
    have hTl := letters_le s
    have hlw := Lib.hid (fun w' => letters_any s w' hs)
    generalize (partsM p).1 = ps at *
    generalize letters s = t at *
    generalize matchM p s = R at *
    obtain ⟨P, hP⟩ : ∃ P, ps.length = P := ⟨_, rfl⟩
    obtain ⟨T, hT⟩ : ∃ T, t.length = T := ⟨_, rfl⟩
    have Hp := Lib.hid hP
    have Ht := Lib.hid hT
    rw [hT] at hTl
    have hPl : P ≤ 1000000 := by rw [← hP]; exact Nat.le_trans HP.out hp
    have hTl2 : T ≤ 1000000 := Nat.le_trans hTl hs
    rw [hP, hT] at hM
    rw [hP] at hpw
    have Hpw := Lib.hid hpw
    clear hpw hb hP hT HP hTl
    go_enter Tryd.func58, Tryd.ntmps58
    go_wp2_with fail
    refine Hpw.out.mono ?_
    rintro e w1 ⟨PA, pc, rfl, hpo, hb1⟩
    have hpcap := hpo.cap
    have Hpo := Lib.hid hpo.rd
    have hl2 := hlw.out w1
    rw [Ht.out] at hl2
    have Hl2 := Lib.hid hl2
    have Hb1 := Lib.hid hb1
    clear hpo hb1 Hpw hlw hl2
    go_wp2_with fail
    refine Hl2.out.mono ?_
    rintro e w2 ⟨TA, tc, rfl, hto, hb2⟩
    have htcap := hto.cap
    have Hto := Lib.hid hto.rd
    have Hpo2 := Lib.hid (Hpo.out.below hb2)
    have Hb2 := Lib.hid (Hb1.out.trans (hb2.mono Hb1.out.size))
    clear hto hb2 Hl2 Hb1 Hpo
    go_wp2_with fail
    go_loopw [9, 10, 11, 12] (fun vi vk vb vf wr => ∃ (N i k b f : Nat), vi = .int .i64 i ∧ vk = .int .i64 k ∧ vb = .int .i64 ((b : Int) - 1) ∧ vf = .int .i64 f ∧ i ≤ P ∧ b ≤ P ∧ f ≤ k ∧ k ≤ T ∧ (T - f) * (P + 1) + (P - i) < N ∧ Hid (R = mloop ps t N i k b f) ∧ Hid (Below w2.heap.size w2 wr)) (fun vi _ _ vf _ => (T - (intOf vf).toNat) * (P + 1) + (P - (intOf vi).toNat))
    case atStart => exact ⟨(T + 1) * (P + 1), 0, 0, 0, 0, rfl, rfl, rfl, rfl, by omega, by omega, by omega, by omega, by rw [Nat.succ_mul]; simp only [Nat.sub_zero]; omega, hM, Below.refl _ _⟩
    case round =>
      clear hM
      obtain ⟨N, i, k, b, f, rfl, rfl, rfl, rfl, hi, hb, hfk, hkT, hN, HR, Hb⟩ := hrel
      obtain ⟨M, rfl⟩ : ∃ M, N = M + 1 := ⟨N - 1, by omega⟩
      by_cases hk : k < T
      · have hkt : k < t.length := by rw [Ht.out]; exact hk
        have htk : t[k]? = some (t.getD k []) := by rw [List.getD, List.getElem?_eq_getElem hkt]; rfl
        obtain ⟨tb, to, rfl, htr⟩ := (Hto.out.below Hb.out) (by intro e; have := congrArg List.length e; rw [scells_len, List.length_nil] at this; omega)
        have ct := htr k _ (scells_get htk)
        have hkI0 : (0 : Int) ≤ (k : Int) := by omega
        have hkI : (k : Int) < (T : Int) := by omega
        have hiI0 : (0 : Int) ≤ (i : Int) := by omega
        by_cases hip : i < P
        · have hil : i < ps.length := by rw [Hp.out]; exact hip
          have hpi := List.getElem?_eq_getElem hil
          generalize hpt : ps[i] = pt at *
          obtain ⟨pb, po, rfl, hpr⟩ := (Hpo2.out.below Hb.out) (by intro e; have := congrArg List.length e; rw [pcells_len, List.length_nil] at this; omega)
          have c0 := hpr (i * 2) _ (pcell0 hpi)
          have c1 := hpr (i * 2 + 1) _ (pcell1 hpi)
          rw [← Nat.add_assoc] at c1
          have hiI : (i : Int) < (P : Int) := by omega
          obtain ⟨kd, lt⟩ := pt
          dsimp only at c0 c1
          by_cases h37 : kd = 37
          · subst h37
            rw [mloop_any hkt hpi rfl] at HR
            have hms := meas_next (P := P) hip hfk hk
            clear htr hpr hpt hpi hil htk
            go_wp2_with fail
            go_roundw
            case rel => exact ⟨M, i + 1, k, i + 1, k, by go_num, rfl, by go_num, rfl, by omega, by omega, by omega, by omega, by omega, HR, Hb⟩
            case measure => simp only [intOf, Int.toNat_natCast]; omega
          · have e37 : (kd == 37) = false := by rw [beq_eq_false_iff_ne]; exact h37
            generalize hlk : t.getD k [] = lk at *
            by_cases h95 : kd = 95
            · subst h95
              rw [mloop_one hkt hpi h37 (.inl rfl)] at HR
              have hms := meas_next (P := P) (k := f) hip (Nat.le_refl _) (show f < T by omega)
              clear htr hpr hpt hpi hil htk
              go_wp2_with fail
              go_quiet (fail)
              go_wp2_with fail
              go_roundw
              case rel => exact ⟨M, i + 1, k + 1, b, f, by go_num, by go_num, rfl, rfl, by omega, hb, by omega, by omega, by omega, HR, below_drewN' Hb.out _⟩
              case measure => simp only [intOf, Int.toNat_natCast]; omega
            · have e95 : (kd == 95) = false := by rw [beq_eq_false_iff_ne]; exact h95
              by_cases h0 : kd = 0
              · subst h0
                by_cases hl : lt = lk
                · subst hl
                  rw [mloop_one hkt hpi h37 (.inr (by rw [hlk]))] at HR
                  have hms := meas_next (P := P) (k := f) hip (Nat.le_refl _) (show f < T by omega)
                  clear htr hpr hpt hpi hil htk
                  go_wp2_with fail
                  go_quiet (fail)
                  go_wp2_with fail
                  go_roundw
                  case rel => exact ⟨M, i + 1, k + 1, b, f, by go_num, by go_num, rfl, rfl, by omega, hb, by omega, by omega, by omega, HR, below_drewN' Hb.out _⟩
                  case measure => simp only [intOf, Int.toNat_natCast]; omega
                · have h2 := St8_cmp lt lk
                  have h3 := St8_eq lt lk
                  rw [mloop_back hkt (by intro pt2 e; rw [hpi] at e; cases e; exact ⟨h37, h95, by intro e2; rw [hlk] at e2; cases e2; exact hl rfl⟩)] at HR
                  have hms := meas_back (T := T) (P := P) (i := i) (b := b) (f := f) (by omega)
                  clear htr hpr hpt hpi hil htk
                  by_cases hb0 : 0 < b
                  · rw [if_pos hb0] at HR
                    have hbI : (0 : Int) ≤ (b : Int) - 1 := by omega
                    go_wp2_with fail
                    go_quiet (fail)
                    go_wp2_with fail
                    go_roundw
                    case rel => exact ⟨M, b, f + 1, b, f + 1, by go_num, by go_num, rfl, by go_num, hb, hb, by omega, by omega, by omega, HR, below_drewN' Hb.out _⟩
                    case measure =>
                      have e1 : ((f : Int) + 1).toNat = f + 1 := by omega
                      simp only [intOf, Int.toNat_natCast, e1]
                      omega
                  · rw [if_neg hb0] at HR
                    obtain rfl : b = 0 := by omega
                    go_wp2_with fail
                    go_quiet (fail)
                    go_wp2_with fail
                    go_ret2
                    rw [HR.out]
                    exact ⟨⟨_, rfl⟩, below_drewN' (Hb2.out.trans (Hb.out.mono Hb2.out.size)) _⟩
              · have e0 : (kd == 0) = false := by rw [beq_eq_false_iff_ne]; exact h0
                rw [mloop_back hkt (by intro pt2 e; rw [hpi] at e; cases e; exact ⟨h37, h95, by intro e2; cases e2; exact h0 rfl⟩)] at HR
                have hms := meas_back (T := T) (P := P) (i := i) (b := b) (f := f) (by omega)
                clear htr hpr hpt hpi hil htk
                by_cases hb0 : 0 < b
                · rw [if_pos hb0] at HR
                  have hbI : (0 : Int) ≤ (b : Int) - 1 := by omega
                  go_wp2_with fail
                  go_quiet (fail)
                  go_wp2_with fail
                  go_roundw
                  case rel => exact ⟨M, b, f + 1, b, f + 1, by go_num, by go_num, rfl, by go_num, hb, hb, by omega, by omega, by omega, HR, below_drewN' Hb.out _⟩
                  case measure =>
                    have e1 : ((f : Int) + 1).toNat = f + 1 := by omega
                    simp only [intOf, Int.toNat_natCast, e1]
                    omega
                · rw [if_neg hb0] at HR
                  obtain rfl : b = 0 := by omega
                  go_wp2_with fail
                  go_quiet (fail)
                  go_wp2_with fail
                  go_ret2
                  rw [HR.out]
                  exact ⟨⟨_, rfl⟩, below_drewN' (Hb2.out.trans (Hb.out.mono Hb2.out.size)) _⟩
        · have hiI : ¬ (i : Int) < (P : Int) := by omega
          have hdi : decide ((i : Int) < (P : Int)) = false := decide_eq_false hiI
          have hpn : ps[i]? = none := List.getElem?_eq_none (by rw [Hp.out]; omega)
          rw [mloop_back hkt (by intro pt2 e; rw [hpn] at e; cases e)] at HR
          have hpi : True := trivial
          have hpr : True := trivial
          have hpt : True := trivial
          have hil : True := trivial
          have hms := meas_back (T := T) (P := P) (i := i) (b := b) (f := f) (by omega)
          clear htr hpr hpt hpi hil htk
          by_cases hb0 : 0 < b
          · rw [if_pos hb0] at HR
            have hbI : (0 : Int) ≤ (b : Int) - 1 := by omega
            go_wp2_with fail
            go_quiet (fail)
            go_wp2_with fail
            go_roundw
            case rel => exact ⟨M, b, f + 1, b, f + 1, by go_num, by go_num, rfl, by go_num, hb, hb, by omega, by omega, by omega, HR, below_drewN' Hb.out _⟩
            case measure =>
              have e1 : ((f : Int) + 1).toNat = f + 1 := by omega
              simp only [intOf, Int.toNat_natCast, e1]
              omega
          · rw [if_neg hb0] at HR
            obtain rfl : b = 0 := by omega
            go_wp2_with fail
            go_quiet (fail)
            go_wp2_with fail
            go_ret2
            rw [HR.out]
            exact ⟨⟨_, rfl⟩, below_drewN' (Hb2.out.trans (Hb.out.mono Hb2.out.size)) _⟩
      · rw [mloop_end (by rw [Ht.out]; exact hk)] at HR
        obtain ⟨wz, rfl⟩ : ∃ z : World, z = wr := ⟨_, rfl⟩
        have hkI : ¬ (k : Int) < (T : Int) := by omega
        go_wp2_with fail
        go_loopw [9] (fun vi wr => ∃ (i : Nat), vi = .int .i64 i ∧ i ≤ P ∧ Hid (R = (ps.drop i).all fun p => p.kind == 37) ∧ Hid (Below w2.heap.size w2 wr)) (fun vi _ => P - (intOf vi).toNat)
        case atStart => exact ⟨i, rfl, hi, HR, Hb⟩
        case round =>
          clear HR Hb
          obtain ⟨j, rfl, hj, HR, Hb⟩ := hrel
          by_cases hjp : j < P
          · have hil : j < ps.length := by rw [Hp.out]; exact hjp
            have hdc := List.drop_eq_getElem_cons hil
            have hpi := List.getElem?_eq_getElem hil
            generalize hpt : ps[j] = pt at *
            obtain ⟨pb, po, rfl, hpr⟩ := (Hpo2.out.below Hb.out) (by intro e; have := congrArg List.length e; rw [pcells_len, List.length_nil] at this; omega)
            have c0 := hpr (j * 2) _ (pcell0 hpi)
            rw [hdc, List.all_cons] at HR
            obtain ⟨kd, lt⟩ := pt
            dsimp only at c0 HR
            have hjI : (j : Int) < (P : Int) := by omega
            have hjI0 : (0 : Int) ≤ (j : Int) := by omega
            by_cases h37 : kd = 37
            · subst h37
              clear hpr hpt hpi hil hdc
              go_wp2_with fail
              go_roundw
              case rel => exact ⟨j + 1, by go_num, by omega, HR, Hb⟩
              case measure => simp [intOf]; omega
            · have e37 : (kd == 37) = false := by rw [beq_eq_false_iff_ne]; exact h37
              have HRf : Hid (R = false) := by show _ = _; rw [HR.out, e37]; rfl
              have hjne : ((j : Int) == (P : Int)) = false := by rw [beq_eq_false_iff_ne]; omega
              clear hpr hpt hpi hil hdc HR
              go_wp2_with fail
              go_ret2
              rw [HRf.out]
              exact ⟨⟨_, rfl⟩, Hb2.out.trans (Hb.out.mono Hb2.out.size)⟩
          · obtain rfl : j = P := by omega
            have HRt : Hid (R = true) := by show _ = _; rw [HR.out, List.drop_eq_nil_of_le (by rw [Hp.out]; omega)]; rfl
            clear HR
            go_wp2_with fail
            go_ret2
            rw [HRt.out]
            exact ⟨⟨_, rfl⟩, Hb2.out.trans (Hb.out.mono Hb2.out.size)⟩
  · rw [Bool.not_eq_true] at hb
    rw [hb] at hpw hM
    rw [Bool.false_and] at hM
    have Hpw := Lib.hid hpw
    clear hpw
    go_enter Tryd.func58, Tryd.ntmps58
    go_wp2_with fail
    refine Hpw.out.mono ?_
    rintro e w1 ⟨A, c, rfl, _, hb1⟩
    go_wp2_with fail
    go_ret2
    rw [hM.out]
    exact ⟨⟨_, rfl⟩, hb1⟩
end Go.Proofs.YtipnglidepfkbaaDoor
