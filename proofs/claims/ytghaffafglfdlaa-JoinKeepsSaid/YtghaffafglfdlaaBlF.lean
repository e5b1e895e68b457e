/- Walks: rows that are left out by a filter. -/
import Derived.Test.YtghaffafglfdlaaBlC
import Derived.Test.YtghaffafglfdlaaJoV
import Derived.Lib.SliceRun
namespace Go.Proofs.Ytghaffafglfdlaa
open Go.RowKit

attribute [local go_sem ↓] Go.wp_at_zero Go.wp_at_succ

theorem q_nil (w : World) (A : Option Addr) (n c n' c' : Nat) : (binOp .eql 28 (.slice A n c) (.slice none n' c')).run Try.prog w = .ok (.bool A.isNone) w := by
  have hu : Try.prog.underlying 28 = some (.slice 30) := by kernel_rfl
  exact Lib.run_eql_slice_nil w 28 30 A n c n' c' hu
set_option maxRecDepth 100000 in
theorem clone_nil (n c : Nat) (w : World) : Calls Try.prog 40 #[.slice none n c] w fun e w' => e = .returned (.slice none 0 0) ∧ w = w' := by
  have hq := fun w => q_nil w none n c 0 0
  rw [Option.isNone_none] at hq
  go_enter Try.func40, Try.ntmps40
  go_wp2_with fail
  go_ret
  exact ⟨rfl, rfl⟩
set_option maxRecDepth 100000 in
theorem clone_some (r : RowM) (n c : Nat) (a : Addr) (w : World) (hn : r.length = n) (hr : Rd w (some a) (rcells r)) (hl : n ≤ 1000000) :
    Calls Try.prog 40 #[.slice (some a) n c] w fun e w' => ∃ A' c', e = .returned (.slice A' n c') ∧ Own w' w.heap.size 30 3 A' n c' (rcells r) ∧ Below w.heap.size w w' := by
  have Hn := Lib.hid hn
  have ho1 : Own (w.alloc (.cells #[] 30)) w.heap.size 30 3 (some ⟨w.heap.size, 0, none⟩) 0 0 [] := World.ownsRow_made w #[] 0 (Nat.le_refl _) (by unfold maxLen; omega) rfl
  have hbA : Below w.heap.size w (w.alloc (.cells #[] 30)) := (Below.refl _ _).alloc (Nat.le_refl _) _
  have hq := fun w => q_nil w (some a) n c 0 0
  rw [Option.isNone_some] at hq
  clear hn
  go_enter Try.func40, Try.ntmps40
  go_wp2_with (first | (at_builtin; refine hold ?_) | (at_make; refine hold ?_))
  (with_reducible refine unhold ?_)
  refine wpList_apd rfl _ _ _ rfl Eval w.heap.size _ 0 _ [] rfl ho1 _ n _ (rcells r) rfl (by rw [rcells_len, Hn.out]) (hr.below hbA) (rcells_one r) n (Nat.zero_add _) (rcells r) rfl (by omega) (by omega) hbA.size ?_
  intro A2 c2 w2 ho2 hg2 _
  have hb2 := hbA.grown hg2 hbA.size ho1.row_ge
  go_wp2_with fail
  go_ret
  exact ⟨_, _, rfl, ho2, hb2⟩
theorem clone_any (r : RowM) (n c : Nat) (A : Option Addr) (w : World) (hn : r.length = n) (hr : Rd w A (rcells r)) (hl : n ≤ 1000000) :
    Calls Try.prog 40 #[.slice A n c] w fun e w' => ∃ A' c', e = .returned (.slice A' n c') ∧ Own w' w.heap.size 30 3 A' n c' (rcells r) ∧ Below w.heap.size w w' := by
  cases A with
  | none =>
    have h0 : rcells r = [] := by
      refine Classical.byContradiction fun hne => ?_
      obtain ⟨b, o, h, _⟩ := hr hne
      cases h
    have hl0 : n = 0 := by
      have := congrArg List.length h0
      rw [rcells_len, hn, List.length_nil] at this
      omega
    subst hl0
    refine (clone_nil 0 c w).mono ?_
    rintro e w' ⟨rfl, rfl⟩
    rw [h0]
    exact ⟨none, 0, rfl, Own.nil _ _ _ _, Below.refl _ _⟩
  | some a => exact clone_some r n c a w hn hr hl

/-- The values of rows in a column, but nothing. -/
def colVals (rs : List RowM) (c : Int) : List Va := (rs.map (colAt · c)).filter fun v => decide (v.k ≠ 0)
theorem colVals_take (rs : List RowM) (c : Int) {i : Nat} (hi : i < rs.length) : colVals (rs.take (i + 1)) c = colVals (rs.take i) c ++ (if (colAt rs[i] c).k = 0 then [] else [colAt rs[i] c]) := by
  unfold colVals
  rw [List.take_succ_eq_append_getElem hi, List.map_append, List.filter_append]
  congr 1
  by_cases h : (colAt rs[i] c).k = 0 <;> simp [h]
theorem colAt_right {r : RowM} (h : ∀ v ∈ r, rightV v = true) (c : Int) : rightV (colAt r c) = true := by
  unfold colAt
  split
  · rfl
  · rename_i hc
    have hlt : c.toNat < r.length := by omega
    rw [List.getD_eq_getElem?_getD, List.getElem?_eq_getElem hlt]
    exact h _ (List.getElem_mem hlt)

theorem filter_no (A : Option Addr) (n c : Nat) (col k : Int) (w : World) : Calls Try.prog 18 #[.slice A n c, .int .i64 col, .int .i64 0, .int .i64 k] w fun e w' => e = .returned (.tuple #[.pointer none, .int .i64 1]) ∧ w = w' := by
  go_enter Try.func18, Try.ntmps18
  go_wp2_with fail
  refine (bnew_no k _).mono ?_
  rintro e w' ⟨rfl, rfl⟩
  go_wp2_with fail
  go_returns
  exact ⟨rfl, rfl⟩

set_option maxHeartbeats 4000000 in
set_option maxRecDepth 100000 in
theorem filter_any (rs : List RowM) (hs : List Value) (N c : Nat) (A : Option Addr) (col : Int) (m n : Nat) (w : World) (hn : rs.length = N) (hA : Rd w A hs) (hR : Rows w hs rs) (hn1 : N ≤ 1000000) (h1 : 1 ≤ m) (h2 : m ≤ 8192) (h3 : 1 ≤ n) (h4 : n ≤ 8) (hrt : ∀ x ∈ rs, ∀ v ∈ x, rightV v = true) :
    Calls Try.prog 18 #[.slice A N c, .int .i64 col, .int .i64 (m : Int), .int .i64 (n : Int)] w fun e w' => ∃ F G, e = .returned (.tuple #[.pointer (some ⟨F, 0, none⟩), .int .i64 0]) ∧ Flt w' w.heap.size F G m n (addB m n (colVals rs col)) ∧ Below w.heap.size w w' := by
  have Hn := Lib.hid hn
  have Hrt := Lib.hid hrt
  have hadd : Hid (addB m n (colVals rs col) = addAll m n (colVals rs col) (List.replicate ((m + 7) / 8) 0)) := rfl
  have hnew := Lib.hid (bnew_any m n w h1 h2 h3 h4)
  have ha0 : Hid (List.replicate ((m + 7) / 8) 0 = addAll m n (colVals (rs.take 0) col) (List.replicate ((m + 7) / 8) 0)) := rfl
  have HA := Lib.hid hA
  have HR := Lib.hid hR
  clear hn hrt hA hR
  go_enter Try.func18, Try.ntmps18
  go_wp2_with fail
  refine hnew.out.mono ?_
  rintro e w1 ⟨F, G, rfl, hF1, hb1⟩
  rw [ha0.out] at hF1
  have HF1 := Lib.hid hF1
  have Hb1 := Lib.hid hb1
  clear hF1 hb1 hnew
  go_wp2_with fail
  go_loopw [26] (fun i wr => ∃ j : Nat, j ≤ N ∧ i = .int .i64 (j : Int) ∧ Hid (Flt wr w.heap.size F G m n (addAll m n (colVals (rs.take j) col) (List.replicate ((m + 7) / 8) 0)) ∧ Below w.heap.size w wr)) (fun i _ => N - (intOf i).toNat)
  case atStart => exact ⟨0, by omega, by go_num, HF1.out, Hb1.out⟩
  case round =>
    clear HF1 Hb1
    obtain ⟨j, hj, rfl, hrest⟩ := hrel
    by_cases hlt : j < N
    · have hjl : j < rs.length := by rw [Hn.out]; exact hlt
      obtain ⟨E, d, hh1, hcc, hcm, hr, hok⟩ := HR.out.at_ j rs[j] (List.getElem?_eq_getElem hjl)
      obtain ⟨b, o, rfl, hh⟩ := (HA.out.below hrest.out.2) (fun e => by rw [e] at hh1; simp at hh1)
      have c0 := hh j _ hh1
      have hnx := Lib.hid (colVals_take rs col hjl)
      have hr2 := hr.below hrest.out.2
      have hvr := Lib.hid (colAt_right (Hrt.out rs[j] (List.getElem_mem hjl)) col)
      have hat := at_any rs[j] E rs[j].length d col wr rfl hr2
      have hvok := Lib.hid (colAt_ok hok col)
      unfold Va.agg at hat
      generalize colAt rs[j] col = v at *
      generalize rs[j].length = xl at *
      have Hat := Lib.hid hat
      clear hat hr2 hr hh hh1 hjl hok hcc hcm
      go_wp2_with fail
      refine Hat.out.mono ?_
      rintro e w2 ⟨rfl, hb2⟩
      have hF2 := hrest.out.1.below hb2
      have hb02 := hrest.out.2.trans (hb2.mono hrest.out.2.size)
      have hbA : Below w2.heap.size w2 (w2.alloc (.cells #[.int .u8 v.k, .int .i64 v.n, .string (St8 v.s)] 30)) := (Below.refl _ _).alloc (Nat.le_refl _) _
      have hFA := Lib.hid (hF2.below hbA)
      have hbWA := Lib.hid (hb02.trans (hbA.mono hb02.size))
      have hAl := Lib.hid (Blk.new w2 30 #[.int .u8 v.k, .int .i64 v.n, .string (St8 v.s)])
      clear hF2 hb02 hbA hb2 c0 hrest Hat
      by_cases hv0 : v.k = 0
      · have hne : (v.k == 0) = true := by simpa using hv0
        have hnx2 : Hid (colVals (rs.take (j + 1)) col = colVals (rs.take j) col) := Lib.hid (by rw [hnx.out, if_pos hv0, List.append_nil])
        rw [hv0] at hFA hbWA
        clear hnx
        go_wp2_with fail
        go_roundw
        case rel => exact ⟨j + 1, by omega, by go_num, by rw [hnx2.out]; exact hFA.out, hbWA.out⟩
        case measure => first | (simp [intOf]; done) | (simp [intOf]; omega)
      · have hne : (v.k == 0) = false := by simpa using hv0
        have hnx2 : Hid (addAll m n (colVals (rs.take (j + 1)) col) (List.replicate ((m + 7) / 8) 0) = addN m v n (addAll m n (colVals (rs.take j) col) (List.replicate ((m + 7) / 8) 0))) := Lib.hid (by rw [hnx.out, if_neg hv0]; unfold addAll; rw [List.foldl_append]; rfl)
        have had := Lib.hid (add1_any w.heap.size F G m n _ v _ hFA.out hbWA.out.size hvr.out hvok.out)
        have l0 := hAl.out.cell 0
        have l1 := hAl.out.cell 1
        have l2 := hAl.out.cell 2
        simp only [List.getElem?_cons_zero, List.getElem?_cons_succ] at l0 l1 l2
        unfold Va.agg at had
        obtain ⟨W, hW⟩ : ∃ W, W = w2.alloc (.cells #[.int .u8 v.k, .int .i64 v.n, .string (St8 v.s)] 30) := ⟨_, rfl⟩
        clear hnx
        go_wp2_with fail
        refine had.out.mono ?_
        rintro e w3 ⟨rfl, hF3, hk3⟩
        have hb3 := Lib.hid (hbWA.out.trans (hk3.below hbWA.out.size))
        have HF3 := Lib.hid hF3
        clear hF3 hk3 l0 l1 l2 had hFA hbWA hAl hW
        go_wp2_with fail
        go_roundw
        case rel => exact ⟨j + 1, by omega, by go_num, by rw [hnx2.out]; exact HF3.out, hb3.out⟩
        case measure => first | (simp [intOf]; done) | (simp [intOf]; omega)
    · obtain rfl : j = N := by omega
      have hfull : rs.take j = rs := by rw [← Hn.out]; exact List.take_length
      rw [hfull] at hrest
      clear hfull
      go_wp2_with fail
      go_returns
      rw [hadd.out]
      exact ⟨_, _, rfl, hrest.out.1, hrest.out.2⟩

/-- Rows whose value may be there. -/
def keptRows (rs : List RowM) (col : Int) (m n : Nat) (bs : List UInt8) : List RowM := rs.filter fun r => decide ((colAt r col).k ≠ 0) && mayB m n (colAt r col) bs
theorem keptRows_take (rs : List RowM) (col : Int) (m n : Nat) (bs : List UInt8) {i : Nat} (hi : i < rs.length) : keptRows (rs.take (i + 1)) col m n bs = keptRows (rs.take i) col m n bs ++ (if decide ((colAt rs[i] col).k ≠ 0) && mayB m n (colAt rs[i] col) bs then [rs[i]] else []) := by
  unfold keptRows
  rw [List.take_succ_eq_append_getElem hi, List.filter_append]
  congr 1
  by_cases h : (decide ((colAt rs[i] col).k ≠ 0) && mayB m n (colAt rs[i] col) bs) = true
  · rw [if_pos h, List.filter_cons, if_pos h, List.filter_nil]
  · rw [if_neg h, List.filter_cons, if_neg h, List.filter_nil]
theorem keptRows_le (rs : List RowM) (col : Int) (m n : Nat) (bs : List UInt8) : (keptRows rs col m n bs).length ≤ rs.length := List.length_filter_le _ _

set_option maxHeartbeats 4000000 in
set_option maxRecDepth 100000 in
theorem keep_any (rs : List RowM) (hs : List Value) (N c K : Nat) (A : Option Addr) (col : Int) (B F G m n : Nat) (bs : List UInt8) (w : World) (hn : rs.length = N) (hA : Rd w A hs) (hR : Rows w hs rs) (hn1 : N ≤ 1000) (hF : Flt w B F G m n bs) (hrt : ∀ x ∈ rs, x.length ≤ 1000 ∧ ∀ v ∈ x, rightV v = true) (hK : (keptRows rs col m n bs).length = K) :
    Calls Try.prog 22 #[.slice A N c, .int .i64 col, .pointer (some ⟨F, 0, none⟩)] w fun e w' => ∃ A' c' hs', e = .returned (.slice A' K c') ∧ Own w' w.heap.size 28 1 A' K c' hs' ∧ RowsO w' w.heap.size hs' (keptRows rs col m n bs) ∧ Below w.heap.size w w' := by
  have Hn := Lib.hid hn
  have HK := Lib.hid hK
  have Hrt := Lib.hid hrt
  have HA := Lib.hid hA
  have HR := Lib.hid hR
  have HF := Lib.hid hF
  clear hn hrt hA hR hF hK
  go_enter Try.func22, Try.ntmps22
  go_wp2_with fail
  go_loopw [7, 13] (fun s i wr => ∃ (j k : Nat) (A' : Option Addr) (c' : Nat) (hs' : List Value), j ≤ N ∧ i = .int .i64 (j : Int) ∧ s = .slice A' k c' ∧ k ≤ j ∧ Hid ((keptRows (rs.take j) col m n bs).length = k ∧ Own wr w.heap.size 28 1 A' k c' hs' ∧ RowsO wr w.heap.size hs' (keptRows (rs.take j) col m n bs) ∧ Below w.heap.size w wr)) (fun _ i _ => N - (intOf i).toNat)
  case atStart => exact ⟨0, 0, none, 0, [], by omega, by go_num, rfl, by omega, rfl, Own.nil _ _ _ _, RowsO.nil _ _, Below.refl _ _⟩
  case round =>
    obtain ⟨j, k, A', c', hs', hj, rfl, rfl, hkj, hrest⟩ := hrel
    obtain ⟨hkl, hown, hrows, hbr⟩ := hrest.out
    by_cases hlt : j < N
    · have hjl : j < rs.length := by rw [Hn.out]; exact hlt
      obtain ⟨E, d, hh1, hcc, hcm, hr, hok⟩ := HR.out.at_ j rs[j] (List.getElem?_eq_getElem hjl)
      obtain ⟨b, o, rfl, hh⟩ := (HA.out.below hbr) (fun e => by rw [e] at hh1; simp at hh1)
      have c0 := hh j _ hh1
      have hnx := Lib.hid (keptRows_take rs col m n bs hjl)
      have hr2 := hr.below hbr
      have hxr := Hrt.out rs[j] (List.getElem_mem hjl)
      have hvr := Lib.hid (colAt_right hxr.2 col)
      have hxl := hxr.1
      have hat := at_any rs[j] E rs[j].length d col wr rfl hr2
      have hvok := Lib.hid (colAt_ok hok col)
      have Hok := Lib.hid hok
      have Hr2 := Lib.hid hr2
      unfold Va.agg at hat
      generalize colAt rs[j] col = v at *
      generalize rs[j] = x at *
      generalize hxx : x.length = xl at *
      have Hxx := Lib.hid hxx
      have Hat := Lib.hid hat
      have Hkl := Lib.hid hkl
      have Hown := Lib.hid hown
      have Hrows := Lib.hid hrows
      have Hbr := Lib.hid hbr
      clear hat hr2 hr hh hh1 hjl hok hcc hcm hxr hxx hrest hkl hown hrows hbr
      go_wp2_with fail
      refine Hat.out.mono ?_
      rintro e w2 ⟨rfl, hb2⟩
      have hb02 := Hbr.out.trans (hb2.mono Hbr.out.size)
      have hbA : Below w2.heap.size w2 (w2.alloc (.cells #[.int .u8 v.k, .int .i64 v.n, .string (St8 v.s)] 30)) := (Below.refl _ _).alloc (Nat.le_refl _) _
      have hbrA := hb2.trans (hbA.mono hb2.size)
      have hbWA := Lib.hid (hb02.trans (hbA.mono hb02.size))
      have hownA := Lib.hid (Hown.out.below hbrA)
      have hrowsA := Lib.hid (Hrows.out.below hbrA)
      have hrA := Lib.hid (Hr2.out.below hbrA)
      have hFA := Lib.hid (HF.out.below hbWA.out)
      have hAl := Lib.hid (Blk.new w2 30 #[.int .u8 v.k, .int .i64 v.n, .string (St8 v.s)])
      clear hb02 hbA hb2 c0 Hat Hown Hrows Hbr Hr2 hbrA
      by_cases hv0 : v.k = 0
      · have hne : (v.k == 0) = true := by simpa using hv0
        have hnx2 : Hid (keptRows (rs.take (j + 1)) col m n bs = keptRows (rs.take j) col m n bs) := Lib.hid (by rw [hnx.out]; simp [hv0])
        rw [hv0] at hownA hrowsA hbWA
        clear hnx
        go_wp2_with fail
        go_roundw
        case rel => exact ⟨j + 1, k, A', c', hs', by omega, by go_num, rfl, by omega, by rw [hnx2.out]; exact Hkl.out, hownA.out, by rw [hnx2.out]; exact hrowsA.out, hbWA.out⟩
        case measure => first | (simp [intOf]; done) | (simp [intOf]; omega)
      · have hne : (v.k == 0) = false := by simpa using hv0
        have hmay := Lib.hid (bmay_any B F G m n bs v _ hFA.out hvr.out hvok.out)
        have l0 := hAl.out.cell 0
        have l1 := hAl.out.cell 1
        have l2 := hAl.out.cell 2
        simp only [List.getElem?_cons_zero, List.getElem?_cons_succ] at l0 l1 l2
        unfold Va.agg at hmay
        by_cases hm : mayB m n v bs = true
        · have hnx2 : Hid (keptRows (rs.take (j + 1)) col m n bs = keptRows (rs.take j) col m n bs ++ [x]) := Lib.hid (by rw [hnx.out]; simp [hv0, hm])
          rw [hm] at hmay
          clear hnx
          go_wp2_with fail
          refine hmay.out.mono ?_
          rintro e w3 ⟨rfl, hb3⟩
          have hb03 := hbWA.out.trans (hb3.mono hbWA.out.size)
          have hz3 := hb03.size
          have hown3 := hownA.out.below hb3
          have hrows3 := hrowsA.out.below hb3
          have hcl := Lib.hid (clone_any x xl d E w3 Hxx.out (hrA.out.below hb3) (by omega))
          have Hown3 := Lib.hid hown3
          have Hrows3 := Lib.hid hrows3
          have Hb03 := Lib.hid hb03
          clear hb3 hown3 hrows3 hb03 l0 l1 l2 hmay hFA hbWA hAl hownA hrowsA hrA
          go_wp2_with fail
          refine hcl.out.mono ?_
          rintro e w4 ⟨E4, d4, rfl, ho4, hb4⟩
          have hown4 := Hown3.out.below hb4
          have hrows4 := Hrows3.out.below hb4
          have hb04 := Hb03.out.trans (hb4.mono Hb03.out.size)
          have hbB : Below w4.heap.size w4 (w4.alloc (.cells #[.slice E4 xl d4] 28)) := (Below.refl _ _).alloc (Nat.le_refl _) _
          have hn5 := (Blk.new w4 28 #[.slice E4 xl d4]).range
          have hown5 := hown4.below hbB
          have hrows5 := (RowsO.snoc hrows4 (A := E4) (r := x) (c := d4) (by rw [Hxx.out]; exact ho4.base hz3) Hok.out).below hbB
          have hb05 := hb04.trans (hbB.mono hb04.size)
          rw [Hxx.out] at hrows5
          clear hown4 hrows4 hb04 hbB ho4 hcl
          have Hrows5 := Lib.hid hrows5
          clear hrows5
          go_wp2_with (first | (at_builtin; refine hold ?_) | (at_make; refine hold ?_))
          (with_reducible refine unhold ?_)
          refine wpList_apd rfl _ _ _ rfl Erow w.heap.size _ k _ _ rfl hown5 _ 1 _ [.slice E4 xl d4] rfl rfl (fun _ => ⟨_, _, rfl, hn5⟩) (by simp [Value.oneCell']) (k + 1) rfl _ rfl (by omega) (by omega) hb05.size ?_
          intro A6 c6 w6 ho6 hg6 _
          have hb6 := hb05.grown hg6 hb05.size hown5.row_ge
          have hr6 := Lib.hid (Hrows5.out.keeps (T := [28]) (by decide) (hown5.apd_keeps hg6))
          clear hg6 hown5 hn5 hb05 Hrows5
          go_wp2_with fail
          go_roundw
          case rel => exact ⟨j + 1, k + 1, A6, c6, _, by omega, by go_num, rfl, by omega, by rw [hnx2.out, List.length_append, Hkl.out]; rfl, ho6, by rw [hnx2.out]; exact hr6.out, hb6⟩
          case measure => first | (simp [intOf]; done) | (simp [intOf]; omega)
        · have hm' := Bool.eq_false_iff.2 hm
          have hnx2 : Hid (keptRows (rs.take (j + 1)) col m n bs = keptRows (rs.take j) col m n bs) := Lib.hid (by rw [hnx.out]; simp [hm'])
          rw [hm'] at hmay
          clear hnx
          go_wp2_with fail
          refine hmay.out.mono ?_
          rintro e w3 ⟨rfl, hb3⟩
          have hb03 := Lib.hid (hbWA.out.trans (hb3.mono hbWA.out.size))
          have hown3 := Lib.hid (hownA.out.below hb3)
          have hrows3 := Lib.hid (hrowsA.out.below hb3)
          clear hb3 l0 l1 l2 hmay hFA hbWA hAl hownA hrowsA hrA
          go_wp2_with fail
          go_roundw
          case rel => exact ⟨j + 1, k, A', c', hs', by omega, by go_num, rfl, by omega, by rw [hnx2.out]; exact Hkl.out, hown3.out, by rw [hnx2.out]; exact hrows3.out, hb03.out⟩
          case measure => first | (simp [intOf]; done) | (simp [intOf]; omega)
    · obtain rfl : j = N := by omega
      have hfull : rs.take j = rs := by rw [← Hn.out]; exact List.take_length
      rw [hfull] at hkl hrows
      have HH := Lib.hid (hkl.symm.trans HK.out)
      have Hown := Lib.hid hown
      have Hrows := Lib.hid hrows
      clear hfull hrest hkl hown hrows
      go_wp2_with fail
      go_ret
      rw [← HH.out]
      exact ⟨_, _, _, rfl, Hown.out, Hrows.out, hbr⟩
end Go.Proofs.Ytghaffafglfdlaa
