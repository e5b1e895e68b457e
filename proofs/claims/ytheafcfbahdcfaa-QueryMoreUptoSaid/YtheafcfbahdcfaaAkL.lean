/- Walks: a text, letter by letter. -/
import Derived.Test.YtheafcfbahdcfaaAkS
namespace Go.Proofs.Ytheafcfbahdcfaa
open Go.RowKit

attribute [local go_sem ↓] Go.wp_at_zero Go.wp_at_succ

set_option maxRecDepth 100000 in
theorem letters_any (s : List UInt8) (w : World) (hs : s.length ≤ 1000000) :
    Calls Try.prog 67 #[.string (St8 s)] w fun e w' => ∃ A c, e = .returned (.slice A (letters s).length c) ∧ Own w' w.heap.size 9 1 A (letters s).length c (scells (letters s)) ∧ Below w.heap.size w w' := by
  have hz := St8_size s
  have Hz := Lib.hid hz
  clear hz
  have Hb0 := Lib.hid ((Below.refl w.heap.size w).alloc (Nat.le_refl _) (.stringIter (St8 s) 0))
  have Hit0 := Lib.hid (World.iter_heap w (St8 s) 0)
  go_enter Try.func67, Try.ntmps67
  go_wp2_with fail
  go_loopw [3, 4] (fun vo vf wr => ∃ (f p n c : Nat) (A : Option Addr) (pre : List (List UInt8)), vo = .slice A n c ∧ vf = .int .i64 f ∧ f ≤ p ∧ p ≤ s.length ∧ n ≤ f ∧ Hid (pre.length = n) ∧ Hid (pre ++ letters (s.drop f) = letters s) ∧ Hid ((p = 0 ∧ f = 0) ∨ (f < p ∧ p = f + (dec (s.drop f)).2)) ∧ Hid (Own wr w.heap.size 9 1 A n c (scells pre)) ∧ Hid (wr.heap[w.heap.size]? = some (.stringIter (St8 s) p)) ∧ Hid (Below w.heap.size w wr)) (fun _ _ wr => s.length - wr.iterPos w.heap.size)
  case atStart => exact ⟨0, 0, 0, 0, none, [], rfl, rfl, by omega, by omega, by omega, rfl, by show _ = _; rw [List.drop_zero, List.nil_append], .inl ⟨rfl, rfl⟩, Own.nil _ _ _ _, Hit0, Hb0⟩
  case round =>
    clear Hb0 Hit0
    obtain ⟨f, p, n, c, A, pre, rfl, rfl, hfp, hps, hnf, Hn, Heq, Hfp, Ho, Hit, Hb⟩ := hrel
    by_cases hp : p < s.length
    · have hnx := fun ty => Lib.run_next_any_at (P := Try.prog) wr w.heap.size (St8 s) p ty Hit.out (by rw [Hz.out]; exact hp)
      rw [dec_at] at hnx
      have hne : s.drop p ≠ [] := by
        intro e
        rw [List.drop_eq_nil_iff] at e
        omega
      have hdb := dec_bounds _ hne
      rw [List.length_drop] at hdb
      generalize hdw : dec (s.drop p) = D at *
      obtain ⟨dr, dw⟩ := D
      dsimp only at hnx hdb
      have Hdw := Lib.hid (congrArg Prod.snd hdw)
      have hit2 := Lib.iterAt_heap wr w.heap.size (St8 s) p (p + dw) Hit.out
      have ho2 := Own.iterAt Ho.out Hit.out (p + dw)
      have hb2 := Lib.below_iterAt Hb.out (Nat.le_refl _) (St8 s) (p + dw)
      have hpos := iterPos_at Hit.out
      have hpos2 := iterPos_at hit2
      clear hdw hne
      generalize wr.iterAt w.heap.size (St8 s) (p + dw) = wi at *
      have hzi := hb2.size
      by_cases hlt : f < p
      · have hfd : p = f + (dec (s.drop f)).2 := by
          rcases Hfp.out with ⟨h1, h2⟩ | ⟨h1, h2⟩
          · omega
          · exact h2
        have hnf2 : s.drop f ≠ [] := by
          intro e
          rw [List.drop_eq_nil_iff] at e
          omega
        have hlc := letters_cons hnf2
        rw [List.drop_drop, show (dec (s.drop f)).2 = p - f from by omega, show f + (p - f) = p from by omega] at hlc
        have heq := Heq.out
        rw [hlc] at heq
        have Heq2 := Lib.hid heq
        have hbW : Below wi.heap.size wi (wi.alloc (.cells #[.string ((St8 s).extract f p)] 9)) := (Below.refl _ _).alloc (Nat.le_refl _) _
        have hnew := (Blk.new wi 9 #[.string ((St8 s).extract f p)]).range
        have ho3 := Own.below ho2 hbW
        have hb3 := hb2.trans (hbW.mono hzi)
        have hit3 := iter_below hit2 hbW
        clear Heq heq hlc hfd hnf2 Hfp Ho Hb ho2 hb2 Hit
        go_wp2_with (first | (at_builtin; refine hold ?_) | (at_make; refine hold ?_))
        (with_reducible refine unhold ?_)
        refine wpList_apd rfl _ _ _ rfl Estr w.heap.size _ n _ (scells pre) rfl ho3 _ 1 _ [.string ((St8 s).extract f p)] rfl rfl (fun _ => ⟨_, _, rfl, hnew⟩) (by simp [Value.oneCell']) (n + 1) rfl _ rfl (by omega) (by omega) (by rw [World.size_alloc]; omega) ?_
        intro A5 c5 w9 ho10 hg10 _
        have hk10 := ho3.apd_keeps hg10
        have Hb10 := Lib.hid (hb3.grown hg10 hb3.size ho3.row_ge)
        have Hit10 := Lib.hid (iter_keeps hit3 hk10)
        have hpos10 := iterPos_at Hit10.out
        rw [St8_extract, scells_snoc] at ho10
        have Ho10 := Lib.hid ho10
        clear hbW hnew ho3 hb3 hit3 hit2 ho10 hg10 hk10 hnx
        go_wp2_with fail
        go_roundw
        case rel => exact ⟨p, p + dw, n + 1, c5, A5, _, rfl, rfl, by omega, by omega, by omega, (by show _ = _; rw [List.length_append, Hn.out]; rfl), (by show _ = _; rw [List.append_assoc]; exact Heq2.out), .inr ⟨by omega, by rw [Hdw.out]⟩, Ho10, Hit10, Hb10⟩
        case measure => rw [hpos, hpos10]; omega
      · obtain rfl : f = p := by omega
        have hp0 : f = 0 := by
          rcases Hfp.out with ⟨h1, h2⟩ | ⟨h1, h2⟩
          · omega
          · omega
        have Hit2 := Lib.hid hit2
        have Ho2 := Lib.hid ho2
        have Hb2 := Lib.hid hb2
        clear ho2 hb2 hit2 Hfp Ho Hb Hit
        go_wp2_with fail
        go_roundw
        case rel => exact ⟨f, f + dw, n, c, A, pre, rfl, rfl, by omega, by omega, by omega, Hn, Heq, .inr ⟨by omega, by rw [Hdw.out]⟩, Ho2, Hit2, Hb2⟩
        case measure => rw [hpos, hpos2]; omega
    · have hnx := fun ty => Lib.run_next_end_at (P := Try.prog) wr w.heap.size (St8 s) p ty Hit.out (by rw [Hz.out]; exact hp)
      obtain rfl : p = s.length := by omega
      have hzI := Hz.out
      have hzr := Hb.out.size
      by_cases hlt : f < s.length
      · have hfd : s.length = f + (dec (s.drop f)).2 := by
          rcases Hfp.out with ⟨h1, h2⟩ | ⟨h1, h2⟩
          · omega
          · exact h2
        have hnf2 : s.drop f ≠ [] := by
          intro e
          rw [List.drop_eq_nil_iff] at e
          omega
        have hlc := letters_cons hnf2
        rw [List.drop_drop, show (dec (s.drop f)).2 = s.length - f from by omega, show f + (s.length - f) = s.length from by omega, List.drop_length, letters_nil] at hlc
        have heq := Heq.out
        rw [hlc] at heq
        have Heq2 := Lib.hid heq
        have hltI : (f : Int) < ((s.length : Nat) : Int) := by omega
        have hbW : Below wr.heap.size wr (wr.alloc (.cells #[.string ((St8 s).extract f s.length)] 9)) := (Below.refl _ _).alloc (Nat.le_refl _) _
        have hnew := (Blk.new wr 9 #[.string ((St8 s).extract f s.length)]).range
        have ho3 := Own.below Ho.out hbW
        have hb3 := Hb.out.trans (hbW.mono hzr)
        clear Heq heq hlc hfd hnf2 Hfp Ho Hb Hit hbW
        go_wp2_with (first | (at_builtin; refine hold ?_) | (at_make; refine hold ?_))
        (with_reducible refine unhold ?_)
        refine wpList_apd rfl _ _ _ rfl Estr w.heap.size _ n _ (scells pre) rfl ho3 _ 1 _ [.string ((St8 s).extract f s.length)] rfl rfl (fun _ => ⟨_, _, rfl, hnew⟩) (by simp [Value.oneCell']) (n + 1) rfl _ rfl (by omega) (by omega) (by rw [World.size_alloc]; omega) ?_
        intro A5 c5 w9 ho10 hg10 _
        have hk10 := ho3.apd_keeps hg10
        have Hb10 := Lib.hid (hb3.grown hg10 hb3.size ho3.row_ge)
        rw [St8_extract, scells_snoc] at ho10
        have Ho10 := Lib.hid ho10
        clear hnew ho3 hb3 ho10 hg10 hk10 hnx
        go_wp2_with fail
        go_ret
        have hl1 : (pre ++ [List.take (s.length - f) (List.drop f s)]).length = n + 1 := by rw [List.length_append, Hn.out]; rfl
        rw [← Heq2.out]
        exact ⟨A5, c5, by rw [hl1]; rfl, by rw [hl1]; exact Ho10.out, Hb10.out⟩
      · have hp0 : s.length = 0 := by
          rcases Hfp.out with ⟨h1, h2⟩ | ⟨h1, h2⟩
          · omega
          · omega
        have hs0 : s.drop f = [] := by rw [List.drop_eq_nil_iff]; omega
        have heq := Heq.out
        rw [hs0, letters_nil, List.append_nil] at heq
        have hln : (letters s).length = n := by rw [← heq]; exact Hn.out
        have Heq2 := Lib.hid heq
        clear Heq heq Hfp hs0
        obtain rfl : f = s.length := by omega
        go_wp2_with fail
        go_ret
        rw [← Heq2.out]
        exact ⟨A, c, by rw [Hn.out]; rfl, by rw [Hn.out]; exact Ho.out, Hb.out⟩
end Go.Proofs.Ytheafcfbahdcfaa
