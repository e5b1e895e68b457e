/- Walks: a pattern's parts; whether a text is one. -/
import Derived.Test.YtheafcfbahdcfaaAkL
import Derived.Test.YtheafcfbahdcfaaJoW
namespace Go.Proofs.Ytheafcfbahdcfaa
open Go.RowKit

attribute [local go_sem ↓] Go.wp_at_zero Go.wp_at_succ

theorem letters_get {s : List UInt8} {pre : List (Nat × List UInt8)} {p : Nat} (h : pre ++ lets (s.drop p) = lets s) (hne : s.drop p ≠ []) : (letters s)[pre.length]? = some ((s.drop p).take (dec (s.drop p)).2) := by
  unfold letters
  rw [← h, List.map_append, List.getElem?_append_right (by rw [List.length_map]; omega), List.length_map, Nat.sub_self, lets_cons hne]
  rfl

set_option maxHeartbeats 4000000 in
set_option maxRecDepth 100000 in
theorem parts_any (s : List UInt8) (w : World) (hs : s.length ≤ 1000000) :
    Calls Try.prog 60 #[.string (St8 s)] w fun e w' => ∃ A c, e = .returned (.tuple #[.slice A (partsM s).1.length c, .bool (partsM s).2]) ∧ Own w' w.heap.size 118 2 A (partsM s).1.length c (pcells (partsM s).1) ∧ Below w.heap.size w w' := by
  have Hz := Lib.hid (St8_size s)
  have hlw := Lib.hid (letters_any s w hs)
  have hll := Lib.hid (letters_le s)
  go_enter Try.func60, Try.ntmps60
  go_wp2_with fail
  refine hlw.out.mono ?_
  rintro e w1 ⟨LA, lc, rfl, hlo, hb1⟩
  have Hlr := Lib.hid hlo.rd
  have Hb1 := Lib.hid hb1
  have hlc := hlo.cap
  have Hb0 := Lib.hid ((Below.refl w1.heap.size w1).alloc (Nat.le_refl _) (.stringIter (St8 s) 0))
  have Hit0 := Lib.hid (World.iter_heap w1 (St8 s) 0)
  clear hlo hb1 hlw
  go_wp2_with fail
  go_loopw [4, 5, 7] (fun vo ve vi wr => ∃ (m p n c : Nat) (A : Option Addr) (e : Bool) (pre : List (Nat × List UInt8)) (q : List Pt), vo = .slice A n c ∧ ve = .bool e ∧ vi = .int .i64 ((m : Int) - 1) ∧ m ≤ p ∧ n ≤ m ∧ p ≤ s.length ∧ Hid (pre.length = m) ∧ Hid (pre ++ lets (s.drop p) = lets s) ∧ Hid (q.length = n) ∧ Hid (q ++ (partsF e (lets (s.drop p))).1 = (partsM s).1) ∧ Hid ((partsF e (lets (s.drop p))).2 = (partsM s).2) ∧ Hid (Own wr w1.heap.size 118 2 A n c (pcells q)) ∧ Hid (wr.heap[w1.heap.size]? = some (.stringIter (St8 s) p)) ∧ Hid (Below w1.heap.size w1 wr)) (fun _ _ _ wr => s.length - wr.iterPos w1.heap.size)
  case atStart => exact ⟨0, 0, 0, 0, none, false, [], [], rfl, rfl, rfl, by omega, by omega, by omega, rfl, by show _ = _; rw [List.drop_zero]; rfl, rfl, by show _ = _; rw [List.drop_zero]; rfl, by show _ = _; rw [List.drop_zero]; rfl, Own.nil _ _ _ _, Hit0, Hb0⟩
  case round =>
    clear Hb0 Hit0
    obtain ⟨m, p, n, c, A, e, pre, q, rfl, rfl, rfl, hmp, hnm, hps, Hm, Heq, Hn, Hq1, Hq2, Ho, Hit, Hb⟩ := hrel
    by_cases hp : p < s.length
    · have hnx := fun ty => Lib.run_next_any_at (P := Try.prog) wr w1.heap.size (St8 s) p ty Hit.out (by rw [Hz.out]; exact hp)
      rw [dec_at] at hnx
      have hne : s.drop p ≠ [] := by
        intro e
        rw [List.drop_eq_nil_iff] at e
        omega
      have hdb := dec_bounds _ hne
      rw [List.length_drop] at hdb
      have hdr := dec_rune (s.drop p)
      have hlg := letters_get Heq.out hne
      have hle := lets_cons hne
      rw [hle] at Heq Hq1 Hq2
      rw [Hm.out] at hlg
      rw [List.drop_drop] at Heq Hq1 Hq2
      have hml : m < (letters s).length := (List.getElem?_eq_some_iff.1 hlg).1
      generalize hxt : (s.drop p).take (dec (s.drop p)).2 = x at *
      generalize hdw : dec (s.drop p) = D at *
      obtain ⟨dr, dw⟩ := D
      dsimp only at hnx hdb hdr Heq Hq1 Hq2
      obtain ⟨lb, lo, rfl, hlr⟩ := Hlr.out (by intro e; have := congrArg List.length e; rw [scells_len, List.length_nil] at this; omega)
      have cl1 := cell_keep Hb.out (hlr m _ (scells_get hlg))
      have hit2 := Lib.iterAt_heap wr w1.heap.size (St8 s) p (p + dw) Hit.out
      have ho2 := Own.iterAt Ho.out Hit.out (p + dw)
      have hb2 := Lib.below_iterAt Hb.out (Nat.le_refl _) (St8 s) (p + dw)
      have cl2 := cell_keep hb2 (hlr m _ (scells_get hlg))
      have hpos := iterPos_at Hit.out
      have hpos2 := iterPos_at hit2
      clear hdw hne hlr cl1 hxt hlg hle Ho Hb
      generalize wr.iterAt w1.heap.size (St8 s) (p + dw) = wi at *
      have hzi := hb2.size
      have hmI : (0 : Int) ≤ ((m : Int) - 1 + 1) := by omega
      have hmI2 : ((m : Int) - 1 + 1) < ((letters s).length : Int) := by omega
      have hwr : IntKind.i64.wrap ((m : Int) - 1 + 1) = (m : Int) := by rw [IntKind.wrap_i64]; omega
      have hwm : (m : Int) - 1 + 1 = (m : Int) := by omega
      cases e with
      | true =>
        have hst : stepP true (dr, x) = (false, [(Pt.mk 0 x)]) := rfl
        rw [partsF, hst] at Hq1 Hq2
        have hbX : Below wi.heap.size wi (wi.alloc (.cells #[.int .i32 0, .string (St8 x)] 118)) := (Below.refl _ _).alloc (Nat.le_refl _) _
        have hb3 := hb2.trans (hbX.mono hzi)
        have hbW : Below ((wi.alloc (.cells #[.int .i32 0, .string (St8 x)] 118))).heap.size (wi.alloc (.cells #[.int .i32 0, .string (St8 x)] 118)) (((wi.alloc (.cells #[.int .i32 0, .string (St8 x)] 118))).alloc (.cells #[.int .i32 0, .string (St8 x)] 118)) := (Below.refl _ _).alloc (Nat.le_refl _) _
        have hnew := (Blk.new (wi.alloc (.cells #[.int .i32 0, .string (St8 x)] 118)) 118 #[.int .i32 0, .string (St8 x)]).range
        rw [World.size_alloc] at hnew
        have ho3 := Own.below (Own.below ho2 hbX) hbW
        have hb4 := hb3.trans (hbW.mono hb3.size)
        have hit4 := iter_below (iter_below hit2 hbX) hbW
        have hz4 := hb4.size
        have hpc : (pcells q).length = n * 2 := by rw [pcells_len, Hn.out]
        have Hap : Hid (pcells q ++ [.int .i32 0, .string (St8 x)] = pcells (q ++ [(Pt.mk 0 x)])) := by show _ = _; rw [pcells_append]; rfl
        have Hpre : Hid ((pre ++ [(dr, x)]).length = m + 1) := by show _ = _; rw [List.length_append, Hm.out]; rfl
        have Heq2 : Hid ((pre ++ [(dr, x)]) ++ lets (s.drop (p + dw)) = lets s) := by show _ = _; rw [List.append_assoc]; exact Heq.out
        have Hq3 : Hid ((q ++ [(Pt.mk 0 x)]) ++ (partsF false (lets (s.drop (p + dw)))).1 = (partsM s).1) := by show _ = _; rw [List.append_assoc]; exact Hq1.out
        have Hq4 : Hid ((partsF false (lets (s.drop (p + dw)))).2 = (partsM s).2) := Hq2.out
        have Hql : Hid ((q ++ [(Pt.mk 0 x)]).length = n + 1) := by show _ = _; rw [List.length_append, Hn.out]; rfl
        clear hst Hq1 Hq2 hbX hbW ho2 hb2 hit2 hb3 Heq
        go_wp2_with (first | (at_builtin; refine hold ?_) | (at_make; refine hold ?_))
        (with_reducible refine unhold ?_)
        refine wpList_apd rfl _ _ _ rfl Ept w1.heap.size _ n _ (pcells q) rfl ho3 _ 1 _ [.int .i32 0, .string (St8 x)] rfl rfl (fun _ => ⟨_, _, rfl, hnew⟩) (by simp [Value.oneCell']) (n + 1) rfl _ rfl (by omega) (by omega) hz4 ?_
        intro A5 c5 w9 ho10 hg10 _
        have hk10 := ho3.apd_keeps hg10
        have Hb10 := Lib.hid (hb4.grown hg10 hb4.size ho3.row_ge)
        have Hit10 := Lib.hid (iter_keeps hit4 hk10)
        have hpos10 := iterPos_at Hit10.out
        rw [Hap.out] at ho10
        have Ho10 := Lib.hid ho10
        clear hnew ho3 hb4 hit4 ho10 hg10 hk10 hnx cl2
        go_wp2_with fail
        go_roundw
        case rel => exact ⟨m + 1, p + dw, n + 1, c5, A5, false, _, _, rfl, rfl, by go_num, by omega, by omega, by omega, Hpre, Heq2, Hql, Hq3, Hq4, Ho10, Hit10, Hb10⟩
        case measure => rw [hpos, hpos10]; omega
      | false =>
        by_cases h92 : dr = 92
        · subst h92
          have hst : stepP false (92, x) = (true, []) := rfl
          rw [partsF, hst] at Hq1 Hq2
          have Hpre : Hid ((pre ++ [(92, x)]).length = m + 1) := by show _ = _; rw [List.length_append, Hm.out]; rfl
          have Heq2 : Hid ((pre ++ [(92, x)]) ++ lets (s.drop (p + dw)) = lets s) := by show _ = _; rw [List.append_assoc]; exact Heq.out
          have hbX : Below wi.heap.size wi (wi.alloc (.cells #[.int .i32 0, .string (St8 x)] 118)) := (Below.refl _ _).alloc (Nat.le_refl _) _
          have Hb3 := Lib.hid (hb2.trans (hbX.mono hzi))
          have Ho3 := Lib.hid (Own.below ho2 hbX)
          have Hit3 := Lib.hid (iter_below hit2 hbX)
          have hpos3 := iterPos_at Hit3.out
          clear hst hbX hb2 ho2 hit2 Heq
          go_wp2_with fail
          go_roundw
          case rel => exact ⟨m + 1, p + dw, n, c, A, true, _, q, rfl, rfl, by go_num, by omega, by omega, by omega, Hpre, Heq2, Hn, Hq1, Hq2, Ho3, Hit3, Hb3⟩
          case measure => rw [hpos, hpos3]; omega
        · have e92 : ((dr : Int) == 92) = false := by rw [beq_eq_false_iff_ne]; omega
          by_cases h37 : dr = 37
          · subst h37
            have hst : stepP false (37, x) = (false, [(Pt.mk 37 [])]) := rfl
            rw [partsF, hst] at Hq1 Hq2
            have hbX : Below wi.heap.size wi (wi.alloc (.cells #[.int .i32 37, .string ⟨#[]⟩] 118)) := (Below.refl _ _).alloc (Nat.le_refl _) _
            have hb3 := hb2.trans (hbX.mono hzi)
            have hbW : Below ((wi.alloc (.cells #[.int .i32 37, .string ⟨#[]⟩] 118))).heap.size (wi.alloc (.cells #[.int .i32 37, .string ⟨#[]⟩] 118)) (((wi.alloc (.cells #[.int .i32 37, .string ⟨#[]⟩] 118))).alloc (.cells #[.int .i32 37, .string ⟨#[]⟩] 118)) := (Below.refl _ _).alloc (Nat.le_refl _) _
            have hnew := (Blk.new (wi.alloc (.cells #[.int .i32 37, .string ⟨#[]⟩] 118)) 118 #[.int .i32 37, .string ⟨#[]⟩]).range
            rw [World.size_alloc] at hnew
            have ho3 := Own.below (Own.below ho2 hbX) hbW
            have hb4 := hb3.trans (hbW.mono hb3.size)
            have hit4 := iter_below (iter_below hit2 hbX) hbW
            have hz4 := hb4.size
            have hpc : (pcells q).length = n * 2 := by rw [pcells_len, Hn.out]
            have Hap : Hid (pcells q ++ [.int .i32 37, .string ⟨#[]⟩] = pcells (q ++ [(Pt.mk 37 [])])) := by show _ = _; rw [pcells_append]; rfl
            have Hpre : Hid ((pre ++ [(37, x)]).length = m + 1) := by show _ = _; rw [List.length_append, Hm.out]; rfl
            have Heq2 : Hid ((pre ++ [(37, x)]) ++ lets (s.drop (p + dw)) = lets s) := by show _ = _; rw [List.append_assoc]; exact Heq.out
            have Hq3 : Hid ((q ++ [(Pt.mk 37 [])]) ++ (partsF false (lets (s.drop (p + dw)))).1 = (partsM s).1) := by show _ = _; rw [List.append_assoc]; exact Hq1.out
            have Hq4 : Hid ((partsF false (lets (s.drop (p + dw)))).2 = (partsM s).2) := Hq2.out
            have Hql : Hid ((q ++ [(Pt.mk 37 [])]).length = n + 1) := by show _ = _; rw [List.length_append, Hn.out]; rfl
            clear hst Hq1 Hq2 hbX hbW ho2 hb2 hit2 hb3 Heq
            go_wp2_with (first | (at_builtin; refine hold ?_) | (at_make; refine hold ?_))
            (with_reducible refine unhold ?_)
            refine wpList_apd rfl _ _ _ rfl Ept w1.heap.size _ n _ (pcells q) rfl ho3 _ 1 _ [.int .i32 37, .string ⟨#[]⟩] rfl rfl (fun _ => ⟨_, _, rfl, hnew⟩) (by simp [Value.oneCell']) (n + 1) rfl _ rfl (by omega) (by omega) hz4 ?_
            intro A5 c5 w9 ho10 hg10 _
            have hk10 := ho3.apd_keeps hg10
            have Hb10 := Lib.hid (hb4.grown hg10 hb4.size ho3.row_ge)
            have Hit10 := Lib.hid (iter_keeps hit4 hk10)
            have hpos10 := iterPos_at Hit10.out
            rw [Hap.out] at ho10
            have Ho10 := Lib.hid ho10
            clear hnew ho3 hb4 hit4 ho10 hg10 hk10 hnx cl2
            go_wp2_with fail
            go_roundw
            case rel => exact ⟨m + 1, p + dw, n + 1, c5, A5, false, _, _, rfl, rfl, by go_num, by omega, by omega, by omega, Hpre, Heq2, Hql, Hq3, Hq4, Ho10, Hit10, Hb10⟩
            case measure => rw [hpos, hpos10]; omega
          · have e37 : ((dr : Int) == 37) = false := by rw [beq_eq_false_iff_ne]; omega
            by_cases h95 : dr = 95
            · subst h95
              have hst : stepP false (95, x) = (false, [(Pt.mk 95 [])]) := rfl
              rw [partsF, hst] at Hq1 Hq2
              have hbX : Below wi.heap.size wi (wi.alloc (.cells #[.int .i32 95, .string ⟨#[]⟩] 118)) := (Below.refl _ _).alloc (Nat.le_refl _) _
              have hb3 := hb2.trans (hbX.mono hzi)
              have hbW : Below ((wi.alloc (.cells #[.int .i32 95, .string ⟨#[]⟩] 118))).heap.size (wi.alloc (.cells #[.int .i32 95, .string ⟨#[]⟩] 118)) (((wi.alloc (.cells #[.int .i32 95, .string ⟨#[]⟩] 118))).alloc (.cells #[.int .i32 95, .string ⟨#[]⟩] 118)) := (Below.refl _ _).alloc (Nat.le_refl _) _
              have hnew := (Blk.new (wi.alloc (.cells #[.int .i32 95, .string ⟨#[]⟩] 118)) 118 #[.int .i32 95, .string ⟨#[]⟩]).range
              rw [World.size_alloc] at hnew
              have ho3 := Own.below (Own.below ho2 hbX) hbW
              have hb4 := hb3.trans (hbW.mono hb3.size)
              have hit4 := iter_below (iter_below hit2 hbX) hbW
              have hz4 := hb4.size
              have hpc : (pcells q).length = n * 2 := by rw [pcells_len, Hn.out]
              have Hap : Hid (pcells q ++ [.int .i32 95, .string ⟨#[]⟩] = pcells (q ++ [(Pt.mk 95 [])])) := by show _ = _; rw [pcells_append]; rfl
              have Hpre : Hid ((pre ++ [(95, x)]).length = m + 1) := by show _ = _; rw [List.length_append, Hm.out]; rfl
              have Heq2 : Hid ((pre ++ [(95, x)]) ++ lets (s.drop (p + dw)) = lets s) := by show _ = _; rw [List.append_assoc]; exact Heq.out
              have Hq3 : Hid ((q ++ [(Pt.mk 95 [])]) ++ (partsF false (lets (s.drop (p + dw)))).1 = (partsM s).1) := by show _ = _; rw [List.append_assoc]; exact Hq1.out
              have Hq4 : Hid ((partsF false (lets (s.drop (p + dw)))).2 = (partsM s).2) := Hq2.out
              have Hql : Hid ((q ++ [(Pt.mk 95 [])]).length = n + 1) := by show _ = _; rw [List.length_append, Hn.out]; rfl
              clear hst Hq1 Hq2 hbX hbW ho2 hb2 hit2 hb3 Heq
              go_wp2_with (first | (at_builtin; refine hold ?_) | (at_make; refine hold ?_))
              (with_reducible refine unhold ?_)
              refine wpList_apd rfl _ _ _ rfl Ept w1.heap.size _ n _ (pcells q) rfl ho3 _ 1 _ [.int .i32 95, .string ⟨#[]⟩] rfl rfl (fun _ => ⟨_, _, rfl, hnew⟩) (by simp [Value.oneCell']) (n + 1) rfl _ rfl (by omega) (by omega) hz4 ?_
              intro A5 c5 w9 ho10 hg10 _
              have hk10 := ho3.apd_keeps hg10
              have Hb10 := Lib.hid (hb4.grown hg10 hb4.size ho3.row_ge)
              have Hit10 := Lib.hid (iter_keeps hit4 hk10)
              have hpos10 := iterPos_at Hit10.out
              rw [Hap.out] at ho10
              have Ho10 := Lib.hid ho10
              clear hnew ho3 hb4 hit4 ho10 hg10 hk10 hnx cl2
              go_wp2_with fail
              go_roundw
              case rel => exact ⟨m + 1, p + dw, n + 1, c5, A5, false, _, _, rfl, rfl, by go_num, by omega, by omega, by omega, Hpre, Heq2, Hql, Hq3, Hq4, Ho10, Hit10, Hb10⟩
              case measure => rw [hpos, hpos10]; omega
            · have e95 : ((dr : Int) == 95) = false := by rw [beq_eq_false_iff_ne]; omega
              have hst : stepP false (dr, x) = (false, [(Pt.mk 0 x)]) := by unfold stepP; rw [if_neg (by simp), if_neg h92, if_neg (by simp only; omega)]
              rw [partsF, hst] at Hq1 Hq2
              have hbX : Below wi.heap.size wi (wi.alloc (.cells #[.int .i32 0, .string (St8 x)] 118)) := (Below.refl _ _).alloc (Nat.le_refl _) _
              have hb3 := hb2.trans (hbX.mono hzi)
              have hbW : Below ((wi.alloc (.cells #[.int .i32 0, .string (St8 x)] 118))).heap.size (wi.alloc (.cells #[.int .i32 0, .string (St8 x)] 118)) (((wi.alloc (.cells #[.int .i32 0, .string (St8 x)] 118))).alloc (.cells #[.int .i32 0, .string (St8 x)] 118)) := (Below.refl _ _).alloc (Nat.le_refl _) _
              have hnew := (Blk.new (wi.alloc (.cells #[.int .i32 0, .string (St8 x)] 118)) 118 #[.int .i32 0, .string (St8 x)]).range
              rw [World.size_alloc] at hnew
              have ho3 := Own.below (Own.below ho2 hbX) hbW
              have hb4 := hb3.trans (hbW.mono hb3.size)
              have hit4 := iter_below (iter_below hit2 hbX) hbW
              have hz4 := hb4.size
              have hpc : (pcells q).length = n * 2 := by rw [pcells_len, Hn.out]
              have Hap : Hid (pcells q ++ [.int .i32 0, .string (St8 x)] = pcells (q ++ [(Pt.mk 0 x)])) := by show _ = _; rw [pcells_append]; rfl
              have Hpre : Hid ((pre ++ [(dr, x)]).length = m + 1) := by show _ = _; rw [List.length_append, Hm.out]; rfl
              have Heq2 : Hid ((pre ++ [(dr, x)]) ++ lets (s.drop (p + dw)) = lets s) := by show _ = _; rw [List.append_assoc]; exact Heq.out
              have Hq3 : Hid ((q ++ [(Pt.mk 0 x)]) ++ (partsF false (lets (s.drop (p + dw)))).1 = (partsM s).1) := by show _ = _; rw [List.append_assoc]; exact Hq1.out
              have Hq4 : Hid ((partsF false (lets (s.drop (p + dw)))).2 = (partsM s).2) := Hq2.out
              have Hql : Hid ((q ++ [(Pt.mk 0 x)]).length = n + 1) := by show _ = _; rw [List.length_append, Hn.out]; rfl
              clear hst Hq1 Hq2 hbX hbW ho2 hb2 hit2 hb3 Heq
              go_wp2_with (first | (at_builtin; refine hold ?_) | (at_make; refine hold ?_))
              (with_reducible refine unhold ?_)
              refine wpList_apd rfl _ _ _ rfl Ept w1.heap.size _ n _ (pcells q) rfl ho3 _ 1 _ [.int .i32 0, .string (St8 x)] rfl rfl (fun _ => ⟨_, _, rfl, hnew⟩) (by simp [Value.oneCell']) (n + 1) rfl _ rfl (by omega) (by omega) hz4 ?_
              intro A5 c5 w9 ho10 hg10 _
              have hk10 := ho3.apd_keeps hg10
              have Hb10 := Lib.hid (hb4.grown hg10 hb4.size ho3.row_ge)
              have Hit10 := Lib.hid (iter_keeps hit4 hk10)
              have hpos10 := iterPos_at Hit10.out
              rw [Hap.out] at ho10
              have Ho10 := Lib.hid ho10
              clear hnew ho3 hb4 hit4 ho10 hg10 hk10 hnx cl2
              go_wp2_with fail
              go_roundw
              case rel => exact ⟨m + 1, p + dw, n + 1, c5, A5, false, _, _, rfl, rfl, by go_num, by omega, by omega, by omega, Hpre, Heq2, Hql, Hq3, Hq4, Ho10, Hit10, Hb10⟩
              case measure => rw [hpos, hpos10]; omega
    · have hnx := fun ty => Lib.run_next_end_at (P := Try.prog) wr w1.heap.size (St8 s) p ty Hit.out (by rw [Hz.out]; exact hp)
      obtain rfl : p = s.length := by omega
      rw [List.drop_length, lets_nil, partsF] at Hq1 Hq2
      have hq1 := Hq1.out
      dsimp only at hq1
      rw [List.append_nil] at hq1
      have Hq3 := Lib.hid hq1
      have Hq4 : Hid ((partsM s).2 = !e) := Hq2.out.symm
      have Hbe := Lib.hid (Hb1.out.trans (Hb.out.mono Hb1.out.size))
      clear hq1 Hq1 Hq2
      go_wp2_with fail
      go_ret2
      rw [← Hq3.out, Hq4.out, Hn.out]
      exact ⟨A, c, rfl, Own.lower Ho.out Hb1.out.size, Hbe.out⟩
end Go.Proofs.Ytheafcfbahdcfaa
