/- Walks: what is there, by an encoding: the reference's. (Printed by gen_uaf.py.) Walks: the values of what is there: the reference's. (Printed by gen_uag.py.) -/
import Derived.Test.YtojppmnmhdgnnaaGreatMUCDE
import Derived.Test.YtojppmnmhdgnnaaGreatMUPQ
import Derived.Test.YtojppmnmhdgnnaaGreatMDwQ
import Derived.Test.YtojppmnmhdgnnaaGreatMTkYZ
import Derived.Test.YtojppmnmhdgnnaaGreatMUAB
import Derived.Test.YtojppmnmhdgnnaaGreatMTlAB
namespace Go.Proofs.YtojppmnmhdgnnaaGreat
set_option linter.unusedVariables false
set_option linter.unusedSimpArgs false
open Go.RowKit

attribute [local go_sem ↓] Go.wp_at_zero Go.wp_at_succ

theorem runs_inj {l m : List Int} (hl : NumL l) (hm : NumL m) (h : runsB l = runsB m) : l = m := by
  have h1 := runs_round hl.1 hl.2
  rw [h, runs_round hm.1 hm.2] at h1
  exact (Option.some.inj h1).symm
theorem frame_inj {l m : List Int} (hl : NumL l) (hm : NumL m) (h : frameB l = frameB m) : l = m := by
  have h1 := frame_round hl.1 hl.2
  rw [h, frame_round hm.1 hm.2] at h1
  exact (Option.some.inj h1).symm
theorem delta_inj {l m : List Int} {b : List UInt8} (hl : NumL l) (hm : NumL m) (h : deltaB l = some b) (h2 : deltaB m = some b) : l = m := by
  have h1 := delta_round hl.1 hl.2 h
  rw [delta_round hm.1 hm.2 h2] at h1
  exact (Option.some.inj h1).symm
theorem lay_in (kind how : Int) (l : RowM) : (layM kind how l).2 = 1 ∨ (layM kind how l).2 = 2 ∨ (layM kind how l).2 = 3 ∨ (layM kind how l).2 = 4 ∨ (layM kind how l).2 = 5 := by
  unfold layM
  repeat' split
  all_goals simp
theorem ColC.how_in {kind how : Int} {many : Nat} {x : List UInt8} {l : RowM} (h : ColC kind how many x l) : how = 1 ∨ how = 2 ∨ how = 3 ∨ how = 4 ∨ how = 5 := by
  have h1 := lay_in kind how l
  rw [h.lay] at h1
  exact h1
/-- How the reference takes numbers or texts by an encoding: what was put so; else whatever it be. -/
def RTkOK (kind how : Int) (many : Nat) (b : List UInt8) (w : World) (e : Ending) (w' : World) : Prop :=
  (∃ (N : List Int) (X : List (List UInt8)) (A1 : Option Addr) (d1 : Nat) (A2 : Option Addr) (d2 : Nat) (ok : Bool), e = .returned (.tuple #[.slice A1 N.length d1, .slice A2 X.length d2, .bool ok]) ∧ Rd w' A1 (icl N) ∧ Rd w' A2 (wcl X) ∧ NumL N ∧ (X.length ≤ 4096 ∧ ∀ s ∈ X, s.length ≤ 1024) ∧ ∀ l, ColC kind how many b l → ok = true ∧ N = (NT kind l).1 ∧ X = (NT kind l).2) ∧ Below w.heap.size w w'
theorem numL_nil : NumL [] := ⟨Nat.zero_le _, fun x hx => by cases hx⟩
theorem textL_nil : ([] : List (List UInt8)).length ≤ 4096 ∧ ∀ s ∈ ([] : List (List UInt8)), s.length ≤ 1024 := ⟨Nat.zero_le _, fun x hx => by cases hx⟩
/-- Whether these are a call's own bytes, with what room. -/
def OwnB (w : World) (b : List UInt8) (A : Option Addr) (n c : Nat) : Prop := b.length = n ∧ OwnX w 0 5 A n c (Bs b) ∧ n ≤ c ∧ c ≤ 9223372036854775807 ∧ ((A = none ∧ c = 0) ∨ ∃ g o, A = some ⟨g, o, none⟩)

set_option maxHeartbeats 8000000 in
set_option maxRecDepth 100000 in
theorem rtk_runs (kind : Int) (many : Nat) (b : List UInt8) (n c : Nat) (A : Option Addr) (w : World) (hl : b.length = n) (hr : Rd w A (Bs b)) (hn : n ≤ 500000) :
    Calls Tryz.prog 23 #[.int .u8 kind, .int .u8 2, .slice A n c, .int .i64 (many : Int)] w fun e w' => RTkOK kind 2 many b w e w' := by
  have hd := Lib.hid (rruntake_any b n c A w hl hr hn)
  clear hl hr
  go_enter Tryz.func23, Tryz.ntmps23
  go_wp2_with fail
  refine hd.out.mono ?_
  rintro e w1 ⟨⟨hno, E, hE, rfl⟩ | ⟨l, B, d, hN, hen, rfl, hR⟩, hb1⟩
  · have e1 : (E == 0) = false := by rw [beq_eq_false_iff_ne]; exact hE
    have Hno := Lib.hid hno
    have Hb1 := Lib.hid hb1
    clear hd hno hb1
    go_wp2_with fail
    go_ret3
    exact ⟨⟨[], [], none, 0, none, 0, false, rfl, Rd.nil _ _, Rd.nil _ _, numL_nil, textL_nil, fun l hc => by
      obtain ⟨h1, h2⟩ := hc.runs
      exact absurd (congrArg some h2) (Hno.out _ hc.nums)⟩, Hb1.out⟩
  · have HN := Lib.hid hN
    have Hen := Lib.hid hen
    have HR := Lib.hid hR
    have Hb1 := Lib.hid hb1
    obtain ⟨ln, hln⟩ : ∃ ln, l.length = ln := ⟨_, rfl⟩
    have Hln := Lib.hid hln
    rw [hln]
    clear hd hN hen hR hb1 hln
    go_wp2_with fail
    go_ret3
    refine ⟨⟨l, [], B, d, none, 0, true, by rw [Hln.out]; rfl, HR.out, Rd.nil _ _, HN.out, textL_nil, fun m hc => ?_⟩, Hb1.out⟩
    obtain ⟨h1, h2⟩ := hc.runs
    have h3 : l = numsM m := runs_inj HN.out hc.nums (by rw [Option.some.inj Hen.out, h2])
    unfold NT
    rw [if_neg h1]
    exact ⟨rfl, h3, rfl⟩
set_option maxHeartbeats 8000000 in
set_option maxRecDepth 100000 in
theorem rtk_frame (kind : Int) (many : Nat) (b : List UInt8) (n c : Nat) (A : Option Addr) (w : World) (hl : b.length = n) (hr : Rd w A (Bs b)) (hn : n ≤ 500000) :
    Calls Tryz.prog 23 #[.int .u8 kind, .int .u8 4, .slice A n c, .int .i64 (many : Int)] w fun e w' => RTkOK kind 4 many b w e w' := by
  have hd := Lib.hid (rrunframe_any b n c A w hl hr hn)
  clear hl hr
  go_enter Tryz.func23, Tryz.ntmps23
  go_wp2_with fail
  refine hd.out.mono ?_
  rintro e w1 ⟨⟨hno, E, hE, rfl⟩ | ⟨l, B, d, hN, hen, rfl, hR⟩, hb1⟩
  · have e1 : (E == 0) = false := by rw [beq_eq_false_iff_ne]; exact hE
    have Hno := Lib.hid hno
    have Hb1 := Lib.hid hb1
    clear hd hno hb1
    go_wp2_with fail
    go_ret3
    exact ⟨⟨[], [], none, 0, none, 0, false, rfl, Rd.nil _ _, Rd.nil _ _, numL_nil, textL_nil, fun l hc => by
      obtain ⟨h1, h2⟩ := hc.frame
      exact absurd (congrArg some h2) (Hno.out _ hc.nums)⟩, Hb1.out⟩
  · have HN := Lib.hid hN
    have Hen := Lib.hid hen
    have HR := Lib.hid hR
    have Hb1 := Lib.hid hb1
    obtain ⟨ln, hln⟩ : ∃ ln, l.length = ln := ⟨_, rfl⟩
    have Hln := Lib.hid hln
    rw [hln]
    clear hd hN hen hR hb1 hln
    go_wp2_with fail
    go_ret3
    refine ⟨⟨l, [], B, d, none, 0, true, by rw [Hln.out]; rfl, HR.out, Rd.nil _ _, HN.out, textL_nil, fun m hc => ?_⟩, Hb1.out⟩
    obtain ⟨h1, h2⟩ := hc.frame
    have h3 : l = numsM m := frame_inj HN.out hc.nums (by rw [Option.some.inj Hen.out, h2])
    unfold NT
    rw [if_neg h1]
    exact ⟨rfl, h3, rfl⟩
set_option maxHeartbeats 8000000 in
set_option maxRecDepth 100000 in
theorem rtk_delta (kind : Int) (many : Nat) (b : List UInt8) (n c : Nat) (A : Option Addr) (w : World) (hl : b.length = n) (hr : Rd w A (Bs b)) (hn : n ≤ 500000) :
    Calls Tryz.prog 23 #[.int .u8 kind, .int .u8 5, .slice A n c, .int .i64 (many : Int)] w fun e w' => RTkOK kind 5 many b w e w' := by
  have hd := Lib.hid (rdeltake_any b n c A w hl hr hn)
  clear hl hr
  go_enter Tryz.func23, Tryz.ntmps23
  go_wp2_with fail
  refine hd.out.mono ?_
  rintro e w1 ⟨⟨hno, E, hE, rfl⟩ | ⟨l, B, d, hN, hen, rfl, hR⟩, hb1⟩
  · have e1 : (E == 0) = false := by rw [beq_eq_false_iff_ne]; exact hE
    have Hno := Lib.hid hno
    have Hb1 := Lib.hid hb1
    clear hd hno hb1
    go_wp2_with fail
    go_ret3
    exact ⟨⟨[], [], none, 0, none, 0, false, rfl, Rd.nil _ _, Rd.nil _ _, numL_nil, textL_nil, fun l hc => by
      obtain ⟨h1, h2⟩ := hc.delta
      exact absurd (h2) (Hno.out _ hc.nums)⟩, Hb1.out⟩
  · have HN := Lib.hid hN
    have Hen := Lib.hid hen
    have HR := Lib.hid hR
    have Hb1 := Lib.hid hb1
    obtain ⟨ln, hln⟩ : ∃ ln, l.length = ln := ⟨_, rfl⟩
    have Hln := Lib.hid hln
    rw [hln]
    clear hd hN hen hR hb1 hln
    go_wp2_with fail
    go_ret3
    refine ⟨⟨l, [], B, d, none, 0, true, by rw [Hln.out]; rfl, HR.out, Rd.nil _ _, HN.out, textL_nil, fun m hc => ?_⟩, Hb1.out⟩
    obtain ⟨h1, h2⟩ := hc.delta
    have h3 : l = numsM m := delta_inj HN.out hc.nums Hen.out h2
    unfold NT
    rw [if_neg h1]
    exact ⟨rfl, h3, rfl⟩
set_option maxHeartbeats 16000000 in
set_option maxRecDepth 100000 in
theorem rtk_texts (kind : Int) (many : Nat) (b : List UInt8) (n c : Nat) (A : Option Addr) (w : World) (hk3 : kind = 3) (ho : OwnB w b A n c) (hm : many ≤ 4096) :
    Calls Tryz.prog 23 #[.int .u8 kind, .int .u8 1, .slice A n c, .int .i64 (many : Int)] w fun e w' => RTkOK kind 1 many b w e w' := by
  have Hk3 := Lib.hid hk3
  have hkI : (kind == 3) = true := by rw [hk3]; rfl
  obtain ⟨hl, hx, hnc, hcc, hA⟩ := ho
  have hbB : Below w.heap.size w (w.alloc (.cells #[.slice A n c, .bool false] 51)) := (Below.refl _ _).alloc (Nat.le_refl _) _
  have hrd1 : RRdr (w.alloc (.cells #[.slice A n c, .bool false] 51)) w.heap.size b false := ⟨A, n, c, Blk.new w _ _, hx.below hbB, hl, hnc, hcc, hA⟩
  have Hrd1 := Lib.hid hrd1
  have HbB := Lib.hid hbB
  clear hl hx hnc hcc hA hk3 hbB hrd1
  go_enter Tryz.func23, Tryz.ntmps23
  go_wp2_with fail
  have hz1 := Nat.le_refl w.heap.size
  generalize (w.alloc (.cells #[.slice A n c, .bool false] 51)) = wn at *
  obtain ⟨p, hp⟩ : ∃ p, p = w.heap.size := ⟨_, rfl⟩
  have hz1 : w.heap.size ≤ p := by omega
  rw [← hp] at Hrd1 ⊢
  clear hp
  go_loopw [17, 18, 20] (fun vn vx vi wr => ∃ (i d : Nat) (A' : Option Addr) (x : List (List UInt8)) (pc : List UInt8) (bad : Bool), vn = .slice none 0 0 ∧ vx = .slice A' i d ∧ vi = .int .i64 i ∧ i ≤ many ∧ Hid (x.length = i) ∧ Hid (RRdr wr p pc bad) ∧ Hid (Own wr w.heap.size 9 1 A' i d (wcl x)) ∧ Hid (Below w.heap.size w wr) ∧ Hid (∀ s ∈ x, s.length ≤ 1024) ∧ Hid (PtC many b x (many - i) pc bad)) (fun _ _ vi _ => many - (intOf vi).toNat)
  case atStart => exact ⟨0, 0, none, [], b, false, rfl, rfl, rfl, by omega, rfl, Hrd1, Own.nil _ _ _ _, HbB, (fun s hs => by cases hs), ptC_start many b⟩
  case round =>
    clear Hrd1 HbB
    obtain ⟨i, d, A', x, pc, bad, rfl, rfl, rfl, hi, Hxl, Hrd, Ho, Hb, Hin, Hpc⟩ := hrel
    by_cases him : i < many
    · have hiI : (i : Int) < (many : Int) := by omega
      have hca := Lib.hid (rrdr_text p pc bad wr Hrd.out)
      have hpr := Hrd.out.lt
      clear Hrd
      go_wp2_with fail
      refine hca.out.mono ?_
      clear hca
      intro e w4 hint
      obtain ⟨s, v, bad', rfl, hrd4, hs, hpc4, hk4⟩ : ∃ (s v : List UInt8) (bad' : Bool), e = .returned (.string (St8 s)) ∧ RRdr w4 p v bad' ∧ s.length ≤ 1024 ∧ PtC many b (x ++ [s]) (many - (i + 1)) v bad' ∧ Keeps RRdT p wr w4 := by
          obtain ⟨⟨ht, rfl, hrd⟩ | ⟨s', u', ht, rfl, hrd⟩, hk⟩ := hint
          · exact ⟨[], [], true, rfl, hrd.rdr, Nat.zero_le _, Hpc.out.no (by omega) ht, hk⟩
          · exact ⟨s', u', bad, rfl, hrd, (takeText_suf ht).1, Hpc.out.next (by omega) ht, hk⟩
      have Ho4 := Own.keeps Ho.out (by decide) hk4
      have Hb4 := Hb.out.trans (keeps_below hk4 hz1 (Nat.le_of_lt hpr))
      have hbX : Below w4.heap.size w4 (w4.alloc (.cells #[.string (St8 s)] 9)) := (Below.refl _ _).alloc (Nat.le_refl _) _
      have ho3 := Own.below Ho4 hbX
      have hr3 := hrd4.below hbX
      have hb3 := Hb4.trans (hbX.mono Hb4.size)
      have hz3 := hb3.size
      have hnew := (Blk.new w4 9 #[.string (St8 s)]).range
      have Hin8 : Hid (∀ s1 ∈ x ++ [s], s1.length ≤ 1024) := Lib.hid fun r hr => by
        rw [List.mem_append, List.mem_singleton] at hr
        rcases hr with hr | rfl
        · exact Hin.out r hr
        · exact hs
      have Hxl8 : Hid ((x ++ [s]).length = i + 1) := by show _ = _; rw [List.length_append, Hxl.out]; rfl
      have Hpc8 := Lib.hid hpc4
      clear hint hbX Ho4 Hb4 Ho Hb Hin Hxl Hpc hrd4 hpc4 hk4
      go_wp2_with (first | (at_builtin; refine hold ?_) | (at_make; refine hold ?_))
      (with_reducible refine unhold ?_)
      refine wpList_apd rfl _ _ _ rfl Estr w.heap.size _ i _ _ rfl ho3 _ 1 _ [.string (St8 s)] rfl rfl (fun _ => ⟨_, _, rfl, hnew⟩) (by simp [Value.oneCell']) (i + 1) rfl _ (by rw [wcl_append]; rfl : wcl x ++ [.string (St8 s)] = wcl (x ++ [s])) (by omega) (by omega) hz3 ?_
      intro A8 c8 w8 ho8 hg8 _
      have Hr8 : Hid (RRdr w8 p v bad') := hr3.keeps (by decide) (by decide) (ho3.apd_keeps hg8)
      have Ho8 := Lib.hid ho8
      have Hb8 := Lib.hid (hb3.grown hg8 hz3 ho3.row_ge)
      clear ho8 hg8 ho3 hb3 hr3 hnew hz3
      go_wp2_with fail
      go_roundw
      case rel => exact ⟨i + 1, c8, A8, x ++ [s], v, bad', rfl, rfl, by go_num, by omega, Hxl8, Hr8, Ho8, Hb8, Hin8, Hpc8⟩
      case measure => simp only [intOf, Int.toNat_natCast]; omega
    · obtain rfl : i = many := by omega
      have hiI : ¬ (i : Int) < (i : Int) := by omega
      have hen := Lib.hid (rrdr_end p pc bad wr Hrd.out)
      have hpc0 := Hpc.out
      rw [Nat.sub_self] at hpc0
      have Hpc0 := Lib.hid hpc0
      clear Hrd Hpc hpc0
      go_wp2_with fail
      refine hen.out.mono ?_
      rintro e w5 ⟨⟨hbf, hpe, rfl⟩ | ⟨hbp, rfl⟩, q5, rfl⟩
      · clear hen
        go_wp2_with fail
        go_ret3
        refine ⟨⟨[], x, none, 0, A', d, true, by rw [Hxl.out]; rfl, Rd.nil _ _, (by first | exact Ho.out.rd | exact Ho.out.rd.drewN _), numL_nil, ⟨by rw [Hxl.out]; omega, Hin.out⟩, fun l hc => ?_⟩, (by first | exact Hb.out | exact below_drewN' Hb.out _)⟩
        have h9 := Hpc0.out.done (Hk3.out ▸ hc)
        unfold NT
        rw [if_pos Hk3.out]
        exact ⟨rfl, rfl, h9.2.2⟩
      · have Hbp := Lib.hid hbp
        clear hen hbp
        go_wp2_with fail
        go_ret3
        refine ⟨⟨[], x, none, 0, A', d, false, by rw [Hxl.out]; rfl, Rd.nil _ _, (by first | exact Ho.out.rd | exact Ho.out.rd.drewN _), numL_nil, ⟨by rw [Hxl.out]; omega, Hin.out⟩, fun l hc => ?_⟩, (by first | exact Hb.out | exact below_drewN' Hb.out _)⟩
        have h9 := Hpc0.out.done (Hk3.out ▸ hc)
        exact absurd ⟨h9.1, h9.2.1⟩ Hbp.out
set_option maxHeartbeats 16000000 in
set_option maxRecDepth 100000 in
theorem rtk_nums (kind : Int) (many : Nat) (b : List UInt8) (n c : Nat) (A : Option Addr) (w : World) (hk3 : ¬ kind = 3) (ho : OwnB w b A n c) (hm : many ≤ 4096) :
    Calls Tryz.prog 23 #[.int .u8 kind, .int .u8 1, .slice A n c, .int .i64 (many : Int)] w fun e w' => RTkOK kind 1 many b w e w' := by
  have Hk3 := Lib.hid hk3
  have hkI : (kind == 3) = false := by rw [beq_eq_false_iff_ne]; exact hk3
  obtain ⟨hl, hx, hnc, hcc, hA⟩ := ho
  have hbB : Below w.heap.size w (w.alloc (.cells #[.slice A n c, .bool false] 51)) := (Below.refl _ _).alloc (Nat.le_refl _) _
  have hrd1 : RRdr (w.alloc (.cells #[.slice A n c, .bool false] 51)) w.heap.size b false := ⟨A, n, c, Blk.new w _ _, hx.below hbB, hl, hnc, hcc, hA⟩
  have Hrd1 := Lib.hid hrd1
  have HbB := Lib.hid hbB
  clear hl hx hnc hcc hA hk3 hbB hrd1
  go_enter Tryz.func23, Tryz.ntmps23
  go_wp2_with fail
  have hz1 := Nat.le_refl w.heap.size
  generalize (w.alloc (.cells #[.slice A n c, .bool false] 51)) = wn at *
  obtain ⟨p, hp⟩ : ∃ p, p = w.heap.size := ⟨_, rfl⟩
  have hz1 : w.heap.size ≤ p := by omega
  rw [← hp] at Hrd1 ⊢
  clear hp
  go_loopw [17, 18, 20] (fun vn vx vi wr => ∃ (i d : Nat) (A' : Option Addr) (x : List Int) (pc : List UInt8) (bad : Bool), vn = .slice A' i d ∧ vx = .slice none 0 0 ∧ vi = .int .i64 i ∧ i ≤ many ∧ Hid (x.length = i) ∧ Hid (RRdr wr p pc bad) ∧ Hid (Own wr w.heap.size 3 1 A' i d (icl x)) ∧ Hid (Below w.heap.size w wr) ∧ Hid (∀ y ∈ x, -9223372036854775808 ≤ y ∧ y ≤ 9223372036854775807) ∧ Hid (PnC kind many b x (many - i) pc bad)) (fun _ _ vi _ => many - (intOf vi).toNat)
  case atStart => exact ⟨0, 0, none, [], b, false, rfl, rfl, rfl, by omega, rfl, Hrd1, Own.nil _ _ _ _, HbB, (fun s hs => by cases hs), pnC_start Hk3.out many b⟩
  case round =>
    clear Hrd1 HbB
    obtain ⟨i, d, A', x, pc, bad, rfl, rfl, rfl, hi, Hxl, Hrd, Ho, Hb, Hin, Hpc⟩ := hrel
    by_cases him : i < many
    · have hiI : (i : Int) < (many : Int) := by omega
      have hca := Lib.hid (rrdr_int p pc bad wr Hrd.out)
      have hpr := Hrd.out.lt
      clear Hrd
      go_wp2_with fail
      refine hca.out.mono ?_
      clear hca
      intro e w4 hint
      obtain ⟨s, v, bad', rfl, hrd4, hs, hpc4, hk4⟩ : ∃ (s : Int) (v : List UInt8) (bad' : Bool), e = .returned (.int .i64 s) ∧ RRdr w4 p v bad' ∧ (-9223372036854775808 ≤ s ∧ s ≤ 9223372036854775807) ∧ PnC kind many b (x ++ [s]) (many - (i + 1)) v bad' ∧ Keeps RRdT p wr w4 := by
          obtain ⟨⟨ht, rfl, hrd⟩ | ⟨m', u', ht, rfl, hrd⟩, hk⟩ := hint
          · exact ⟨0, [], true, rfl, hrd.rdr, ⟨by decide, by decide⟩, Hpc.out.no (by omega) ht, hk⟩
          · exact ⟨unzig m', u', bad, rfl, hrd, unzig_in (takeNum_lt ht).1, Hpc.out.next (by omega) ht, hk⟩
      have Ho4 := Own.keeps Ho.out (by decide) hk4
      have Hb4 := Hb.out.trans (keeps_below hk4 hz1 (Nat.le_of_lt hpr))
      have hbX : Below w4.heap.size w4 (w4.alloc (.cells #[.int .i64 s] 3)) := (Below.refl _ _).alloc (Nat.le_refl _) _
      have ho3 := Own.below Ho4 hbX
      have hr3 := hrd4.below hbX
      have hb3 := Hb4.trans (hbX.mono Hb4.size)
      have hz3 := hb3.size
      have hnew := (Blk.new w4 3 #[.int .i64 s]).range
      have Hin8 : Hid (∀ y ∈ x ++ [s], -9223372036854775808 ≤ y ∧ y ≤ 9223372036854775807) := Lib.hid fun r hr => by
        rw [List.mem_append, List.mem_singleton] at hr
        rcases hr with hr | rfl
        · exact Hin.out r hr
        · exact hs
      have Hxl8 : Hid ((x ++ [s]).length = i + 1) := by show _ = _; rw [List.length_append, Hxl.out]; rfl
      have Hpc8 := Lib.hid hpc4
      clear hint hbX Ho4 Hb4 Ho Hb Hin Hxl Hpc hrd4 hpc4 hk4
      go_wp2_with (first | (at_builtin; refine hold ?_) | (at_make; refine hold ?_))
      (with_reducible refine unhold ?_)
      refine wpList_apd rfl _ _ _ rfl Eint' w.heap.size _ i _ _ rfl ho3 _ 1 _ [.int .i64 s] rfl rfl (fun _ => ⟨_, _, rfl, hnew⟩) (by simp [Value.oneCell']) (i + 1) rfl _ (icl_append x [s]).symm (by omega) (by omega) hz3 ?_
      intro A8 c8 w8 ho8 hg8 _
      have Hr8 : Hid (RRdr w8 p v bad') := hr3.keeps (by decide) (by decide) (ho3.apd_keeps hg8)
      have Ho8 := Lib.hid ho8
      have Hb8 := Lib.hid (hb3.grown hg8 hz3 ho3.row_ge)
      clear ho8 hg8 ho3 hb3 hr3 hnew hz3
      go_wp2_with fail
      go_roundw
      case rel => exact ⟨i + 1, c8, A8, x ++ [s], v, bad', rfl, rfl, by go_num, by omega, Hxl8, Hr8, Ho8, Hb8, Hin8, Hpc8⟩
      case measure => simp only [intOf, Int.toNat_natCast]; omega
    · obtain rfl : i = many := by omega
      have hiI : ¬ (i : Int) < (i : Int) := by omega
      have hen := Lib.hid (rrdr_end p pc bad wr Hrd.out)
      have hpc0 := Hpc.out
      rw [Nat.sub_self] at hpc0
      have Hpc0 := Lib.hid hpc0
      clear Hrd Hpc hpc0
      go_wp2_with fail
      refine hen.out.mono ?_
      rintro e w5 ⟨⟨hbf, hpe, rfl⟩ | ⟨hbp, rfl⟩, q5, rfl⟩
      · clear hen
        go_wp2_with fail
        go_ret3
        refine ⟨⟨x, [], A', d, none, 0, true, by rw [Hxl.out]; rfl, (by first | exact Ho.out.rd | exact Ho.out.rd.drewN _), Rd.nil _ _, ⟨by rw [Hxl.out]; omega, Hin.out⟩, textL_nil, fun l hc => ?_⟩, (by first | exact Hb.out | exact below_drewN' Hb.out _)⟩
        have h9 := Hpc0.out.done hc
        unfold NT
        rw [if_neg Hk3.out]
        exact ⟨rfl, h9.2.2, rfl⟩
      · have Hbp := Lib.hid hbp
        clear hen hbp
        go_wp2_with fail
        go_ret3
        refine ⟨⟨x, [], A', d, none, 0, false, by rw [Hxl.out]; rfl, (by first | exact Ho.out.rd | exact Ho.out.rd.drewN _), Rd.nil _ _, ⟨by rw [Hxl.out]; omega, Hin.out⟩, textL_nil, fun l hc => ?_⟩, (by first | exact Hb.out | exact below_drewN' Hb.out _)⟩
        have h9 := Hpc0.out.done hc
        exact absurd ⟨h9.1, h9.2.1⟩ Hbp.out
set_option maxHeartbeats 16000000 in
set_option maxRecDepth 100000 in
theorem rtk_dict (kind how : Int) (many : Nat) (b : List UInt8) (n c : Nat) (A : Option Addr) (w : World) (hh : how ≠ 1 ∧ how ≠ 2 ∧ how ≠ 4 ∧ how ≠ 5) (hl : b.length = n) (hr : Rd w A (Bs b)) (hn : n ≤ 500000) (hnc : n ≤ c) (hc : c ≤ 9223372036854775807) :
    Calls Tryz.prog 23 #[.int .u8 kind, .int .u8 how, .slice A n c, .int .i64 (many : Int)] w fun e w' => RTkOK kind how many b w e w' := by
  have h2 : (how == 2) = false := by rw [beq_eq_false_iff_ne]; exact hh.2.1
  have h4 : (how == 4) = false := by rw [beq_eq_false_iff_ne]; exact hh.2.2.1
  have h5 : (how == 5) = false := by rw [beq_eq_false_iff_ne]; exact hh.2.2.2
  have h1 : (how == 1) = false := by rw [beq_eq_false_iff_ne]; exact hh.1
  have hd := Lib.hid (drtake_any b n c A w hl hr hn hnc hc)
  have hth : ∀ l, ColC kind how many b l → kind = 3 ∧ wordsB (textsM l) = some b := fun l hc => by
    rcases hc.how_in with h | h | h | h | h
    · exact absurd h hh.1
    · exact absurd h hh.2.1
    · subst h
      exact hc.dict
    · exact absurd h hh.2.2.1
    · exact absurd h hh.2.2.2
  have Hth := Lib.hid hth
  have Hlb := Lib.hid hl
  clear hl hr hh hth
  go_enter Tryz.func23, Tryz.ntmps23
  go_wp2_with fail
  refine hd.out.mono ?_
  rintro e w1 ⟨⟨hno, rfl⟩ | ⟨W, r, WA, wc, RA, rc, hT, rfl, hW, hR⟩, hb1⟩
  · have Hno := Lib.hid hno
    have Hb1 := Lib.hid hb1
    clear hd hno hb1
    go_wp2_with fail
    go_ret3
    exact ⟨⟨[], [], none, 0, none, 0, false, rfl, Rd.nil _ _, Rd.nil _ _, numL_nil, textL_nil, fun l hc => by
      obtain ⟨_, p, h9, -⟩ := words_parts hc.texts.1 (Hth.out l hc).2
      rw [h9] at Hno
      exact absurd Hno.out (by simp)⟩, Hb1.out⟩
  · have hrl := takeM_le hT
    rw [Hlb.out] at hrl
    have hWr := rightW_le (takeM_put hT).1
    have Hb1 := Lib.hid hb1
    have HT := Lib.hid hT
    have HW := Lib.hid hW
    obtain ⟨rn, hrn⟩ : ∃ rn, r.length = rn := ⟨_, rfl⟩
    obtain ⟨wn, hwn⟩ : ∃ wn, W.length = wn := ⟨_, rfl⟩
    have hwn2 : wn ≤ 4096 := by rw [← hwn]; have := hWr.2; omega
    have hWs := Lib.hid hWr.1
    have Hwn := Lib.hid hwn
    rw [hrn, hwn]
    have hun := Lib.hid (rrunframe_any r rn rc RA w1 hrn hR (by omega))
    clear hd hT hW hR hb1 hrl hWr hrn hwn
    go_wp2_with fail
    refine hun.out.mono ?_
    rintro e w2 ⟨⟨hno, E, hE, rfl⟩ | ⟨L, B, d, hN, hen, rfl, hRL⟩, hb2⟩
    · have e1 : (E == 0) = false := by rw [beq_eq_false_iff_ne]; exact hE
      have Hno := Lib.hid hno
      have Hb2 := Lib.hid (Hb1.out.trans (hb2.mono Hb1.out.size))
      clear hun hno hb2
      go_wp2_with fail
      go_loopw [18, 25] (fun vt vi wr => vt = .slice none 0 0 ∧ vi = .int .i64 0 ∧ Hid (wr = w2)) (fun _ _ _ => 0)
      case atStart => exact ⟨rfl, rfl, rfl⟩
      case round =>
        obtain ⟨rfl, rfl, hwr⟩ := hrel
        have hwr2 := hwr.out
        subst hwr2
        go_wp2_with fail
        go_ret3
        exact ⟨⟨[], [], none, 0, none, 0, false, rfl, Rd.nil _ _, Rd.nil _ _, numL_nil, textL_nil, fun l hc => by
          obtain ⟨W0, p, h9, hNp, -⟩ := words_parts hc.texts.1 (Hth.out l hc).2
          rw [HT.out] at h9
          injection h9 with h9
          injection h9 with _ h9
          exact absurd (congrArg some h9.symm) (Hno.out p hNp)⟩, Hb2.out⟩
    · have HN := Lib.hid hN
      have Hen := Lib.hid hen
      have HRL := Lib.hid hRL
      have Hb2 := Lib.hid (Hb1.out.trans (hb2.mono Hb1.out.size))
      have HW2 := Lib.hid (HW.out.below hb2)
      obtain ⟨ln, hln⟩ : ∃ ln, L.length = ln := ⟨_, rfl⟩
      have hl4 : ln ≤ 4096 := by rw [← hln]; exact hN.1
      have Hln := Lib.hid hln
      rw [hln]
      -- what texts they are, if texts were put so
      have Hco : Hid (∀ l, ColC kind how many b l → kind = 3 ∧ (∀ k ∈ L, 0 ≤ k ∧ k < (wn : Int)) ∧ L.map (fun k => W.getD k.toNat []) = textsM l) := Lib.hid fun l hc => by
        obtain ⟨W0, p, h9, hNp, hin, hmap⟩ := words_parts hc.texts.1 (Hth.out l hc).2
        rw [HT.out] at h9
        injection h9 with h9
        injection h9 with h91 h92
        have h93 := frame_inj hN hNp (by rw [Option.some.inj hen, h92])
        rw [h93, h91]
        rw [← h91, Hwn.out] at hin
        exact ⟨(Hth.out l hc).1, hin, hmap⟩
      clear hun hN hen hRL hb2 hln
      go_wp2_with fail
      go_loopw [18, 25] (fun vt vi wr => ∃ (i d' : Nat) (A' : Option Addr), vt = .slice A' i d' ∧ vi = .int .i64 i ∧ i ≤ ln ∧ Hid (Own wr w2.heap.size 9 1 A' i d' (wcl ((L.take i).map fun k => W.getD k.toNat []))) ∧ Hid (Below w2.heap.size w2 wr)) (fun _ vi _ => ln - (intOf vi).toNat)
      case atStart => exact ⟨0, 0, none, rfl, rfl, by omega, Own.nil _ _ _ _, Below.refl _ _⟩
      case round =>
        obtain ⟨i, d', A', rfl, rfl, hi, Ho, Hb⟩ := hrel
        by_cases hil : i < ln
        · have hiI : (i : Int) < (ln : Int) := by omega
          have hiI0 : (0 : Int) ≤ (i : Int) := by omega
          have hiL : i < L.length := by rw [Hln.out]; exact hil
          obtain ⟨lb, lo, hBe, c0⟩ := icl_get (HRL.out.below Hb.out) hiL
          have hts := List.take_succ_eq_append_getElem hiL
          have hmem := List.getElem_mem hiL
          subst hBe
          have HbE := Lib.hid (Hb2.out.trans (Hb.out.mono Hb2.out.size))
          generalize L[i] = k at *
          by_cases hk0 : k < 0
          · have Hno : Hid (∀ l, ¬ ColC kind how many b l) := Lib.hid fun l hc => by
              have := ((Hco.out l hc).2.1 k hmem).1
              omega
            have e1 : decide (k < 0) = true := decide_eq_true hk0
            clear hts hmem Hco
            go_wp2_with fail
            try (go_quiet (fail); go_wp2_with fail)
            go_ret3
            exact ⟨⟨[], [], none, 0, none, 0, false, rfl, Rd.nil _ _, Rd.nil _ _, numL_nil, textL_nil, fun l hc => absurd hc (Hno.out l)⟩, (by first | exact HbE.out | exact below_drewN' HbE.out _)⟩
          · have e1 : decide (k < 0) = false := decide_eq_false hk0
            by_cases hkw : (wn : Int) ≤ k
            · have Hno : Hid (∀ l, ¬ ColC kind how many b l) := Lib.hid fun l hc => by
                have := ((Hco.out l hc).2.1 k hmem).2
                omega
              have e2 : decide ((wn : Int) ≤ k) = true := decide_eq_true hkw
              clear hts hmem Hco
              go_wp2_with fail
              try (go_quiet (fail); go_wp2_with fail)
              go_ret3
              exact ⟨⟨[], [], none, 0, none, 0, false, rfl, Rd.nil _ _, Rd.nil _ _, numL_nil, textL_nil, fun l hc => absurd hc (Hno.out l)⟩, (by first | exact HbE.out | exact below_drewN' HbE.out _)⟩
            · have e2 : decide ((wn : Int) ≤ k) = false := decide_eq_false hkw
              obtain ⟨kN, rfl⟩ := Int.eq_ofNat_of_zero_le (show (0 : Int) ≤ k by omega)
              have hkN : kN < W.length := by rw [Hwn.out]; omega
              have hkI : (kN : Int) < (wn : Int) := by omega
              have hkI0 : (0 : Int) ≤ (kN : Int) := by omega
              have e2' : decide (wn ≤ kN) = false := decide_eq_false (by omega)
              obtain ⟨gb, go_, hWe, x0⟩ := (HW2.out.below Hb.out).word hkN
              subst hWe
              have hgd : W.getD ((kN : Int)).toNat [] = W[kN] := by rw [Int.toNat_natCast, List.getD_eq_getElem?_getD, List.getElem?_eq_getElem hkN]; rfl
              have Hys : Hid (wcl ((L.take i).map fun k => W.getD k.toNat []) ++ [.string (St8 W[kN])] = wcl ((L.take (i + 1)).map fun k => W.getD k.toNat [])) := by
                show _ = _
                rw [hts, List.map_append, wcl_append]
                show _ = _ ++ wcl [W.getD ((kN : Int)).toNat []]
                rw [hgd]
                rfl
              generalize W[kN] = s at *
              have hbD : Below wr.heap.size wr (wr.alloc (.cells #[.string (St8 s)] 9)) := (Below.refl _ _).alloc (Nat.le_refl _) _
              have hoD := Own.below Ho.out hbD
              have hbE := Hb.out.trans (hbD.mono Hb.out.size)
              have hnew := (Blk.new wr 9 #[.string (St8 s)]).range
              clear hts hmem hgd hbD hkN hiL
              go_wp2_with (first | (at_builtin; refine hold ?_) | (at_make; refine hold ?_))
              (with_reducible refine unhold ?_)
              refine wpList_apd rfl _ _ _ rfl Estr w2.heap.size _ i _ _ rfl hoD _ 1 _ [.string (St8 s)] rfl rfl (fun _ => ⟨_, _, rfl, hnew⟩) (by simp [Value.oneCell']) (i + 1) rfl _ Hys.out (by omega) (by omega) hbE.size ?_
              intro A8 c8 w8 ho8 hg8 _
              have Ho8 := Lib.hid ho8
              have Hb8 := Lib.hid (hbE.grown hg8 hbE.size hoD.row_ge)
              clear ho8 hg8 hoD hbE hnew Ho Hb HbE
              go_wp2_with fail
              go_roundw
              case rel => exact ⟨i + 1, c8, A8, rfl, by go_num, by omega, Ho8, Hb8⟩
              case measure => simp only [intOf, Int.toNat_natCast]; omega
        · obtain rfl : i = ln := by omega
          have hiI : ¬ (i : Int) < (i : Int) := by omega
          have htk : L.take i = L := List.take_of_length_le (by rw [Hln.out]; exact Nat.le_refl _)
          have hrO := Ho.out.rd
          rw [htk] at hrO
          have HrO := Lib.hid hrO
          have Hfin := Lib.hid (Hb2.out.trans (Hb.out.mono Hb2.out.size))
          have Hml : Hid ((L.map fun k => W.getD k.toNat []).length = i) := by show _ = _; rw [List.length_map, Hln.out]
          have Hms : Hid (∀ s ∈ L.map (fun k => W.getD k.toNat []), s.length ≤ 1024) := Lib.hid fun s hs => by
            obtain ⟨k, -, rfl⟩ := List.mem_map.1 hs
            rw [List.getD_eq_getElem?_getD]
            cases h9 : W[k.toNat]? with
            | none => exact Nat.zero_le _
            | some y => exact hWs.out y (List.mem_of_getElem? h9)
          clear htk hrO Ho
          go_wp2_with fail
          go_ret3
          refine ⟨⟨[], L.map fun k => W.getD k.toNat [], none, 0, A', d', true, by rw [Hml.out]; rfl, Rd.nil _ _, HrO.out, numL_nil, ⟨by rw [Hml.out]; exact hl4, Hms.out⟩, fun l hc => ?_⟩, Hfin.out⟩
          obtain ⟨h1, -, h3⟩ := Hco.out l hc
          unfold NT
          rw [if_pos h1]
          exact ⟨rfl, rfl, h3⟩
end Go.Proofs.YtojppmnmhdgnnaaGreat
namespace Go.Proofs.YtojppmnmhdgnnaaGreat
set_option linter.unusedVariables false
set_option linter.unusedSimpArgs false
open Go.RowKit

attribute [local go_sem ↓] Go.wp_at_zero Go.wp_at_succ

set_option maxHeartbeats 16000000 in
set_option maxRecDepth 100000 in
theorem rvals_texts (kind : Int) (t z : List Int) (x : List (List UInt8)) (tn tc zn zc xn xc : Nat) (T Z X : Option Addr) (w : World) (hk3 : kind = 3) (hkr : 0 ≤ kind ∧ kind ≤ 255) (htl : t.length = tn) (hzl : z.length = zn) (hxl : x.length = xn) (hrt : Rd w T (icl t)) (hrz : Rd w Z (icl z)) (hrx : Rd w X (wcl x)) (htn : tn ≤ 4096) (hzn : zn ≤ 4096) (hxn : xn ≤ 4096) :
    Calls Tryz.prog 24 #[.int .u8 kind, .slice T tn tc, .slice Z zn zc, .slice X xn xc] w fun e w' => JoinOK (joinF kind t z x) w e w' := by
  have Htl := Lib.hid htl
  have Hzl := Lib.hid hzl
  have Hxl := Lib.hid hxl
  have Hrt := Lib.hid hrt
  have Hrz := Lib.hid hrz
  have Hrx := Lib.hid hrx
  have Hk3 := Lib.hid hk3
  have hkI : (kind == 3) = true := by rw [hk3]; rfl
  have hkJ : (kind != 3) = false := by rw [hk3]; rfl
  clear htl hzl hxl hrt hrz hrx hk3
  go_enter Tryz.func24, Tryz.ntmps24
  go_wp2_with fail
  go_loopw [10, 11, 12] (fun v6 v7 v8 wr => ∃ (i k : Nat) (A : Option Addr) (d : Nat) (l : RowM), v6 = .slice A i d ∧ v7 = .int .i64 (k : Int) ∧ v8 = .int .i64 (i : Int) ∧ i ≤ tn ∧ k ≤ xn ∧ k ≤ i ∧ Hid (Own wr w.heap.size 60 3 A i d (rcells l)) ∧ Hid (Below w.heap.size w wr) ∧ Hid (joinF kind t z x = (joinF kind (t.drop i) z (x.drop k)).map (l ++ ·))) (fun _ _ v8 _ => tn - (intOf v8).toNat)
  case atStart => exact ⟨0, 0, none, 0, [], rfl, rfl, rfl, by omega, by omega, by omega, Own.nil _ _ _ _, Below.refl _ _, (by show _ = _; simp)⟩
  case round =>
    obtain ⟨i, k, A, d, l, rfl, rfl, rfl, hi, hk, hki, Ho, Hb, HJ⟩ := hrel
    by_cases hin : i < tn
    · have hiI : (i : Int) < (tn : Int) := by omega
      have hi0 : (0 : Int) ≤ (i : Int) := by omega
      have hil : i < t.length := by rw [Htl.out]; exact hin
      obtain ⟨bt, ot, hTA, ci⟩ := icl_get (Hrt.out.below Hb.out) hil
      have Hdr : Hid (t.drop i = t[i] :: t.drop (i + 1)) := List.drop_eq_getElem_cons hil
      subst hTA
      generalize t[i] = ti at *
      clear hil
      by_cases ht0 : ti = 0
      · have Ht0 := Lib.hid ht0
        have e0 : (ti == 0) = true := by rw [ht0]; rfl
        have HJ2 : Hid (joinF kind t z x = (joinF kind (t.drop (i + 1)) z (x.drop k)).map ((l ++ [⟨0, 0, []⟩]) ++ ·)) := by
          show _ = _
          rw [HJ.out, Hdr.out, Ht0.out, joinF_null, Option.map_map]
          congr 1
          funext y
          show l ++ (_ :: y) = _
          rw [List.append_assoc]
          rfl
        subst ht0
        clear HJ Ht0 Hdr
        have hb1 : Below wr.heap.size wr (wr.alloc (.cells #[.int .u8 0, .int .i64 0, .string ⟨#[]⟩] 60)) := (Below.refl _ _).alloc (Nat.le_refl _) _
        have hoa := Own.below Ho.out hb1
        have hrn := (Blk.new wr 60 #[.int .u8 0, .int .i64 0, .string ⟨#[]⟩]).range
        have hB := Hb.out.trans (hb1.mono Hb.out.size)
        have hzB := hB.size
        clear hb1
        go_wp2_with (first | (at_builtin; refine hold ?_) | (at_make; refine hold ?_))
        (with_reducible refine unhold ?_)
        refine wpList_apd rfl _ _ _ rfl EvalC w.heap.size _ i _ (rcells l) rfl hoa _ 1 _ [.int .u8 0, .int .i64 0, .string ⟨#[]⟩] rfl rfl (fun _ => ⟨_, _, rfl, hrn⟩) (by simp [Value.oneCell']) (i + 1) rfl (rcells (l ++ [⟨0, 0, []⟩])) (by rw [rcells_append]; rfl) (by omega) (by omega) hzB ?_
        intro A8 c8 w8 ho8 hg8 _
        have Hb8 := Lib.hid (hB.grown hg8 hzB hoa.row_ge)
        have Ho8 := Lib.hid ho8
        clear ho8 hg8 hoa hrn hB hzB Ho Hb
        go_wp2_with fail
        go_roundw
        case rel => exact ⟨i + 1, k, A8, c8, l ++ [⟨0, 0, []⟩], rfl, rfl, by go_num, by omega, by omega, by omega, Ho8, Hb8, HJ2⟩
        case measure => simp only [intOf, Int.toNat_natCast]; omega
      · have e0 : (ti == 0) = false := by rw [beq_eq_false_iff_ne]; exact ht0
        have e0' : (ti != 0) = true := by rw [bne_iff_ne]; exact ht0
        have Ht0 := Lib.hid ht0
        by_cases hkx : k < xn
        · have hkl : k < x.length := by rw [Hxl.out]; exact hkx
          have hrx3 : Rd wr X (wcl x) := Hrx.out.below Hb.out
          obtain ⟨bx, ox, hXA, -⟩ := hrx3.word hkl
          subst hXA
          have cx : (wr.alloc (.cells #[.int .u8 kind, .int .i64 0, .string ⟨#[]⟩] 60)).cell? ⟨bx, ox + k, none⟩ = some (.string (St8 x[k])) := by
            obtain ⟨b, o', h1, h2⟩ := (hrx3.alloc (.cells #[.int .u8 kind, .int .i64 0, .string ⟨#[]⟩] 60)).word hkl
            cases h1
            exact h2
          have Hdx : Hid (x.drop k = x[k] :: x.drop (k + 1)) := List.drop_eq_getElem_cons hkl
          generalize x[k] = s at *
          clear hrx3 hkl
          have hkI : (k : Int) < (xn : Int) := by omega
          have hkI0 : (0 : Int) ≤ (k : Int) := by omega
          have ek : decide ((k : Int) < (xn : Int)) = true := decide_eq_true hkI
          have HJ2 : Hid (joinF kind t z x = (joinF kind (t.drop (i + 1)) z (x.drop (k + 1))).map ((l ++ [⟨kind, 0, s⟩]) ++ ·)) := by
            show _ = _
            rw [HJ.out, Hdr.out, joinF_nz _ _ _ _ Ht0.out, if_pos Hk3.out, Hdx.out]
            dsimp only
            rw [Option.map_map]
            congr 1
            funext y
            show l ++ (_ :: y) = _
            rw [List.append_assoc]
            rfl
          have hb1 : Below wr.heap.size wr ((wr.alloc (.cells #[.int .u8 kind, .int .i64 0, .string (St8 s)] 60)).alloc (.cells #[.int .u8 kind, .int .i64 0, .string (St8 s)] 60)) := ((Below.refl _ _).alloc (Nat.le_refl _) _).alloc (by rw [World.size_alloc]; omega) _
          have hoa : Own ((wr.alloc (.cells #[.int .u8 kind, .int .i64 0, .string (St8 s)] 60)).alloc (.cells #[.int .u8 kind, .int .i64 0, .string (St8 s)] 60)) w.heap.size 60 3 A i d (rcells l) := Own.below Ho.out hb1
          have hrn := (Blk.new (wr.alloc (.cells #[.int .u8 kind, .int .i64 0, .string (St8 s)] 60)) 60 #[.int .u8 kind, .int .i64 0, .string (St8 s)]).range
          rw [World.size_alloc] at hrn
          have hB := Hb.out.trans (hb1.mono Hb.out.size)
          have hzB := hB.size
          have HXX := Lib.hid (And.intro hoa (And.intro hrn (And.intro hB hzB)))
          clear ht0 HJ Ht0 Hdr Hdx hb1 hoa hrn hB hzB
          go_wp2_with (first | (at_builtin; refine hold ?_) | (at_make; refine hold ?_))
          (with_reducible refine unhold ?_)
          obtain ⟨hoa, hrn, hB, hzB⟩ := HXX.out
          refine wpList_apd rfl _ _ _ rfl EvalC w.heap.size _ i _ (rcells l) rfl hoa _ 1 _ [.int .u8 kind, .int .i64 0, .string (St8 s)] rfl rfl (fun _ => ⟨_, _, rfl, hrn⟩) (by simp [Value.oneCell']) (i + 1) rfl (rcells (l ++ [⟨kind, 0, s⟩])) (by rw [rcells_append]; rfl) (by omega) (by omega) hzB ?_
          intro A8 c8 w8 ho8 hg8 _
          have Hb8 := Lib.hid (hB.grown hg8 hzB hoa.row_ge)
          have Ho8 := Lib.hid ho8
          clear ho8 hg8 hoa hrn hB hzB HXX Ho Hb
          go_wp2_with fail
          go_roundw
          case rel => exact ⟨i + 1, k + 1, A8, c8, l ++ [⟨kind, 0, s⟩], rfl, by go_num, by go_num, by omega, by omega, by omega, Ho8, Hb8, HJ2⟩
          case measure => simp only [intOf, Int.toNat_natCast]; omega
        · obtain rfl : k = xn := by omega
          have hkI : ¬ (k : Int) < (k : Int) := by omega
          have ek : decide ((k : Int) < (k : Int)) = false := decide_eq_false hkI
          have HJ2 : Hid (joinF kind t z x = none) := by
            show _ = _
            rw [HJ.out, Hdr.out, joinF_nz _ _ _ _ Ht0.out, if_pos Hk3.out, List.drop_of_length_le (by rw [Hxl.out]; exact Nat.le_refl _)]
            rfl
          have hbx := Blk.new wr 60 #[.int .u8 kind, .int .i64 0, .string ⟨#[]⟩]
          have x0 := hbx.cell 0
          have HbE := Lib.hid (Hb.out.alloc Hb.out.size (.cells #[.int .u8 kind, .int .i64 0, .string ⟨#[]⟩] 60))
          simp only [List.getElem?_cons_zero] at x0
          clear ht0 HJ Ht0 Hdr hbx
          go_wp2_with fail
          go_ret2
          exact ⟨.inl ⟨HJ2.out, rfl⟩, by first | exact HbE.out | exact below_drewN' HbE.out _⟩
    · obtain rfl : i = tn := by omega
      have hiI : ¬ (i : Int) < (i : Int) := by omega
      have HJ2 : Hid (joinF kind t z x = some l) := by
        show _ = _
        rw [HJ.out, List.drop_of_length_le (by rw [Htl.out]; exact Nat.le_refl _)]
        show some (l ++ []) = _
        rw [List.append_nil]
      have Hll : Hid (l.length = i) := by
        show _ = _
        have := Ho.out.1
        rw [rcells_len] at this
        omega
      go_wp2_with fail
      go_ret2
      exact ⟨.inr ⟨l, A, d, HJ2.out, by rw [Hll.out]; rfl, Ho.out.rd⟩, Hb.out⟩
set_option maxHeartbeats 16000000 in
set_option maxRecDepth 100000 in
theorem rvals_nums (kind : Int) (t z : List Int) (x : List (List UInt8)) (tn tc zn zc xn xc : Nat) (T Z X : Option Addr) (w : World) (hk3 : ¬ kind = 3) (hkr : 0 ≤ kind ∧ kind ≤ 255) (htl : t.length = tn) (hzl : z.length = zn) (hxl : x.length = xn) (hrt : Rd w T (icl t)) (hrz : Rd w Z (icl z)) (hrx : Rd w X (wcl x)) (htn : tn ≤ 4096) (hzn : zn ≤ 4096) (hxn : xn ≤ 4096) :
    Calls Tryz.prog 24 #[.int .u8 kind, .slice T tn tc, .slice Z zn zc, .slice X xn xc] w fun e w' => JoinOK (joinF kind t z x) w e w' := by
  have Htl := Lib.hid htl
  have Hzl := Lib.hid hzl
  have Hxl := Lib.hid hxl
  have Hrt := Lib.hid hrt
  have Hrz := Lib.hid hrz
  have Hrx := Lib.hid hrx
  have Hk3 := Lib.hid hk3
  have hkI : (kind == 3) = false := by rw [beq_eq_false_iff_ne]; exact hk3
  have hkJ : (kind != 3) = true := by rw [bne_iff_ne]; exact hk3
  clear htl hzl hxl hrt hrz hrx hk3
  go_enter Tryz.func24, Tryz.ntmps24
  go_wp2_with fail
  go_loopw [10, 11, 12] (fun v6 v7 v8 wr => ∃ (i k : Nat) (A : Option Addr) (d : Nat) (l : RowM), v6 = .slice A i d ∧ v7 = .int .i64 (k : Int) ∧ v8 = .int .i64 (i : Int) ∧ i ≤ tn ∧ k ≤ zn ∧ k ≤ i ∧ Hid (Own wr w.heap.size 60 3 A i d (rcells l)) ∧ Hid (Below w.heap.size w wr) ∧ Hid (joinF kind t z x = (joinF kind (t.drop i) (z.drop k) x).map (l ++ ·))) (fun _ _ v8 _ => tn - (intOf v8).toNat)
  case atStart => exact ⟨0, 0, none, 0, [], rfl, rfl, rfl, by omega, by omega, by omega, Own.nil _ _ _ _, Below.refl _ _, (by show _ = _; simp)⟩
  case round =>
    obtain ⟨i, k, A, d, l, rfl, rfl, rfl, hi, hk, hki, Ho, Hb, HJ⟩ := hrel
    by_cases hin : i < tn
    · have hiI : (i : Int) < (tn : Int) := by omega
      have hi0 : (0 : Int) ≤ (i : Int) := by omega
      have hil : i < t.length := by rw [Htl.out]; exact hin
      obtain ⟨bt, ot, hTA, ci⟩ := icl_get (Hrt.out.below Hb.out) hil
      have Hdr : Hid (t.drop i = t[i] :: t.drop (i + 1)) := List.drop_eq_getElem_cons hil
      subst hTA
      generalize t[i] = ti at *
      clear hil
      by_cases ht0 : ti = 0
      · have Ht0 := Lib.hid ht0
        have e0 : (ti == 0) = true := by rw [ht0]; rfl
        have HJ2 : Hid (joinF kind t z x = (joinF kind (t.drop (i + 1)) (z.drop k) x).map ((l ++ [⟨0, 0, []⟩]) ++ ·)) := by
          show _ = _
          rw [HJ.out, Hdr.out, Ht0.out, joinF_null, Option.map_map]
          congr 1
          funext y
          show l ++ (_ :: y) = _
          rw [List.append_assoc]
          rfl
        subst ht0
        clear HJ Ht0 Hdr
        have hb1 : Below wr.heap.size wr (wr.alloc (.cells #[.int .u8 0, .int .i64 0, .string ⟨#[]⟩] 60)) := (Below.refl _ _).alloc (Nat.le_refl _) _
        have hoa := Own.below Ho.out hb1
        have hrn := (Blk.new wr 60 #[.int .u8 0, .int .i64 0, .string ⟨#[]⟩]).range
        have hB := Hb.out.trans (hb1.mono Hb.out.size)
        have hzB := hB.size
        clear hb1
        go_wp2_with (first | (at_builtin; refine hold ?_) | (at_make; refine hold ?_))
        (with_reducible refine unhold ?_)
        refine wpList_apd rfl _ _ _ rfl EvalC w.heap.size _ i _ (rcells l) rfl hoa _ 1 _ [.int .u8 0, .int .i64 0, .string ⟨#[]⟩] rfl rfl (fun _ => ⟨_, _, rfl, hrn⟩) (by simp [Value.oneCell']) (i + 1) rfl (rcells (l ++ [⟨0, 0, []⟩])) (by rw [rcells_append]; rfl) (by omega) (by omega) hzB ?_
        intro A8 c8 w8 ho8 hg8 _
        have Hb8 := Lib.hid (hB.grown hg8 hzB hoa.row_ge)
        have Ho8 := Lib.hid ho8
        clear ho8 hg8 hoa hrn hB hzB Ho Hb
        go_wp2_with fail
        go_roundw
        case rel => exact ⟨i + 1, k, A8, c8, l ++ [⟨0, 0, []⟩], rfl, rfl, by go_num, by omega, by omega, by omega, Ho8, Hb8, HJ2⟩
        case measure => simp only [intOf, Int.toNat_natCast]; omega
      · have e0 : (ti == 0) = false := by rw [beq_eq_false_iff_ne]; exact ht0
        have e0' : (ti != 0) = true := by rw [bne_iff_ne]; exact ht0
        have Ht0 := Lib.hid ht0
        by_cases hkx : k < zn
        · have hkl : k < z.length := by rw [Hzl.out]; exact hkx
          have hrx3 : Rd wr Z (icl z) := Hrz.out.below Hb.out
          obtain ⟨bx, ox, hXA, -⟩ := icl_get hrx3 hkl
          subst hXA
          have cx : (wr.alloc (.cells #[.int .u8 kind, .int .i64 0, .string ⟨#[]⟩] 60)).cell? ⟨bx, ox + k, none⟩ = some (.int .i64 z[k]) := by
            obtain ⟨b, o', h1, h2⟩ := icl_get (hrx3.alloc (.cells #[.int .u8 kind, .int .i64 0, .string ⟨#[]⟩] 60)) hkl
            cases h1
            exact h2
          have Hdx : Hid (z.drop k = z[k] :: z.drop (k + 1)) := List.drop_eq_getElem_cons hkl
          generalize z[k] = s at *
          clear hrx3 hkl
          have hkI : (k : Int) < (zn : Int) := by omega
          have hkI0 : (0 : Int) ≤ (k : Int) := by omega
          have ek : decide ((k : Int) < (zn : Int)) = true := decide_eq_true hkI
          have HJ2 : Hid (joinF kind t z x = (joinF kind (t.drop (i + 1)) (z.drop (k + 1)) x).map ((l ++ [⟨kind, s, []⟩]) ++ ·)) := by
            show _ = _
            rw [HJ.out, Hdr.out, joinF_nz _ _ _ _ Ht0.out, if_neg Hk3.out, Hdx.out]
            dsimp only
            rw [Option.map_map]
            congr 1
            funext y
            show l ++ (_ :: y) = _
            rw [List.append_assoc]
            rfl
          have hb1 : Below wr.heap.size wr ((wr.alloc (.cells #[.int .u8 kind, .int .i64 s, .string ⟨#[]⟩] 60)).alloc (.cells #[.int .u8 kind, .int .i64 s, .string ⟨#[]⟩] 60)) := ((Below.refl _ _).alloc (Nat.le_refl _) _).alloc (by rw [World.size_alloc]; omega) _
          have hoa : Own ((wr.alloc (.cells #[.int .u8 kind, .int .i64 s, .string ⟨#[]⟩] 60)).alloc (.cells #[.int .u8 kind, .int .i64 s, .string ⟨#[]⟩] 60)) w.heap.size 60 3 A i d (rcells l) := Own.below Ho.out hb1
          have hrn := (Blk.new (wr.alloc (.cells #[.int .u8 kind, .int .i64 s, .string ⟨#[]⟩] 60)) 60 #[.int .u8 kind, .int .i64 s, .string ⟨#[]⟩]).range
          rw [World.size_alloc] at hrn
          have hB := Hb.out.trans (hb1.mono Hb.out.size)
          have hzB := hB.size
          have HXX := Lib.hid (And.intro hoa (And.intro hrn (And.intro hB hzB)))
          clear ht0 HJ Ht0 Hdr Hdx hb1 hoa hrn hB hzB
          go_wp2_with (first | (at_builtin; refine hold ?_) | (at_make; refine hold ?_))
          (with_reducible refine unhold ?_)
          obtain ⟨hoa, hrn, hB, hzB⟩ := HXX.out
          refine wpList_apd rfl _ _ _ rfl EvalC w.heap.size _ i _ (rcells l) rfl hoa _ 1 _ [.int .u8 kind, .int .i64 s, .string ⟨#[]⟩] rfl rfl (fun _ => ⟨_, _, rfl, hrn⟩) (by simp [Value.oneCell']) (i + 1) rfl (rcells (l ++ [⟨kind, s, []⟩])) (by rw [rcells_append]; rfl) (by omega) (by omega) hzB ?_
          intro A8 c8 w8 ho8 hg8 _
          have Hb8 := Lib.hid (hB.grown hg8 hzB hoa.row_ge)
          have Ho8 := Lib.hid ho8
          clear ho8 hg8 hoa hrn hB hzB HXX Ho Hb
          go_wp2_with fail
          go_roundw
          case rel => exact ⟨i + 1, k + 1, A8, c8, l ++ [⟨kind, s, []⟩], rfl, by go_num, by go_num, by omega, by omega, by omega, Ho8, Hb8, HJ2⟩
          case measure => simp only [intOf, Int.toNat_natCast]; omega
        · obtain rfl : k = zn := by omega
          have hkI : ¬ (k : Int) < (k : Int) := by omega
          have ek : decide ((k : Int) < (k : Int)) = false := decide_eq_false hkI
          have HJ2 : Hid (joinF kind t z x = none) := by
            show _ = _
            rw [HJ.out, Hdr.out, joinF_nz _ _ _ _ Ht0.out, if_neg Hk3.out, List.drop_of_length_le (by rw [Hzl.out]; exact Nat.le_refl _)]
            rfl
          have hbx := Blk.new wr 60 #[.int .u8 kind, .int .i64 0, .string ⟨#[]⟩]
          have x0 := hbx.cell 0
          have HbE := Lib.hid (Hb.out.alloc Hb.out.size (.cells #[.int .u8 kind, .int .i64 0, .string ⟨#[]⟩] 60))
          simp only [List.getElem?_cons_zero] at x0
          clear ht0 HJ Ht0 Hdr hbx
          go_wp2_with fail
          go_ret2
          exact ⟨.inl ⟨HJ2.out, rfl⟩, by first | exact HbE.out | exact below_drewN' HbE.out _⟩
    · obtain rfl : i = tn := by omega
      have hiI : ¬ (i : Int) < (i : Int) := by omega
      have HJ2 : Hid (joinF kind t z x = some l) := by
        show _ = _
        rw [HJ.out, List.drop_of_length_le (by rw [Htl.out]; exact Nat.le_refl _)]
        show some (l ++ []) = _
        rw [List.append_nil]
      have Hll : Hid (l.length = i) := by
        show _ = _
        have := Ho.out.1
        rw [rcells_len] at this
        omega
      go_wp2_with fail
      go_ret2
      exact ⟨.inr ⟨l, A, d, HJ2.out, by rw [Hll.out]; rfl, Ho.out.rd⟩, Hb.out⟩
end Go.Proofs.YtojppmnmhdgnnaaGreat
