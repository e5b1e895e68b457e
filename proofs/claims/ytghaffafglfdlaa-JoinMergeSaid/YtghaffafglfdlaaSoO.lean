/- Walks: rows in memory of their own, in order. -/
import Derived.Test.YtghaffafglfdlaaSoT
namespace Go.Proofs.Ytghaffafglfdlaa
open Go.RowKit

attribute [local go_sem ↓] Go.wp_at_zero Go.wp_at_succ

theorem qr_nil (w : World) (A : Option Addr) (n c n' c' : Nat) : (binOp .eql 28 (.slice A n c) (.slice none n' c')).run Try.prog w = .ok (.bool A.isNone) w := by
  have hu : Try.prog.underlying 28 = some (.slice 30) := by kernel_rfl
  exact Lib.run_eql_slice_nil w 28 30 A n c n' c' hu
set_option maxRecDepth 100000 in
theorem cloner_any (r : RowM) (n c : Nat) (A : Option Addr) (w : World) (hn : r.length = n) (hr : Rd w A (rcells r)) (hl : n ≤ 1000000) :
    Calls Try.prog 40 #[.slice A n c] w fun e w' => ∃ A' c', e = .returned (.slice A' n c') ∧ Own w' w.heap.size 30 3 A' n c' (rcells r) ∧ Below w.heap.size w w' := by
  have Hn := Lib.hid hn
  clear hn
  cases A with
  | none =>
    have h0 : rcells r = [] := by
      refine Classical.byContradiction fun hne => ?_
      obtain ⟨b, o, h, _⟩ := hr hne
      cases h
    have hl0 := rcells_len r
    rw [h0] at hl0
    obtain rfl : 0 = n := by have := Hn.out; simp only [List.length_nil] at hl0; omega
    have hr0 := Lib.hid h0
    have hq := fun w => qr_nil w none 0 c 0 0
    rw [Option.isNone_none] at hq
    clear h0 hl0
    go_enter Try.func40, Try.ntmps40
    go_wp2_with fail
    go_ret
    rw [hr0.out]
    exact ⟨none, 0, rfl, Own.nil _ _ _ _, Below.refl _ _⟩
  | some a =>
    have ho1 : Own (w.alloc (.cells #[] 30)) w.heap.size 30 3 (some ⟨w.heap.size, 0, none⟩) 0 0 [] := World.ownsRow_made w #[] 0 (Nat.le_refl _) (by unfold maxLen; omega) rfl
    have hbA : Below w.heap.size w (w.alloc (.cells #[] 30)) := (Below.refl _ _).alloc (Nat.le_refl _) _
    have hq := fun w => qr_nil w (some a) n c 0 0
    rw [Option.isNone_some] at hq
    go_enter Try.func40, Try.ntmps40
    go_wp2_with (first | (at_builtin; refine hold ?_) | (at_make; refine hold ?_))
    (with_reducible refine unhold ?_)
    refine wpList_apd rfl _ _ _ rfl Eval w.heap.size _ 0 _ [] rfl ho1 _ n _ (rcells r) rfl (by rw [rcells_len, Hn.out]) (hr.below hbA) (rcells_one r) n (Nat.zero_add _) (rcells r) rfl (by omega) (by omega) hbA.size ?_
    intro A2 c2 w2 ho2 hg2 _
    have hb2 := hbA.grown hg2 hbA.size ho1.row_ge
    go_wp2_with fail
    go_ret
    exact ⟨_, _, rfl, ho2, hb2⟩

/-- One header more. -/
theorem Dat.put {w : World} {B g n : Nat} {d : Nat → Hr} (h : Dat w B g n d) {i : Nat} {A : Option Addr} {c : Nat} {r : RowM} (ho : Own w B 30 3 A r.length c (rcells r)) (hok : ∀ v ∈ r, v.ok) : Dat (w.setCell ⟨g, i, none⟩ (.slice A r.length c)) B g n (fun p => if p = i then (.slice A r.length c, r) else d p) := by
  have hk := h.keep1 i (.slice A r.length c)
  have hb := h.blk.set_ i (.slice A r.length c)
  rw [tab_set] at hb
  refine ⟨h.lo, ?_, fun p hp => ?_⟩
  · have e : (tab n fun p => if p = i then Value.slice A r.length c else (d p).1) = tab n fun p => (if p = i then ((Value.slice A r.length c, r) : Hr) else d p).1 := tab_ext fun p _ => by split <;> rfl
    rw [e] at hb
    exact hb
  · by_cases e : p = i
    · simp only [e, if_true]
      exact ⟨A, c, rfl, Own.keeps ho (by decide) hk, hok⟩
    · simp only [e, if_false]
      obtain ⟨A', c', h1, h2, h3⟩ := h.row p hp
      exact ⟨A', c', h1, Own.keeps h2 (by decide) hk, h3⟩

set_option maxHeartbeats 4000000 in
set_option maxRecDepth 100000 in
theorem own_c (rs : List RowM) (hs : List Value) (n c : Nat) (A : Option Addr) (w : World) (hn : rs.length = n) (hA : Rd w A hs) (hR : Rows w hs rs) (hn1 : n ≤ 1000000) (hl : ∀ r ∈ rs, r.length ≤ 1000000) :
    Calls Try.prog 41 #[.slice A n c] w fun e w' => ∃ g d, e = .returned (.slice (some ⟨g, 0, none⟩) n n) ∧ Dat w' w.heap.size g n d ∧ (∀ p, p < n → rs[p]? = some (d p).2) ∧ Below w.heap.size w w' := by
  have Hn := Lib.hid hn
  have HA := Lib.hid hA
  have HR := Lib.hid hR
  have Hl := Lib.hid hl
  clear hn hA hR hl
  go_enter Try.func41, Try.ntmps41
  go_wp2_with (first | (at_builtin; refine hold ?_) | (at_make; refine hold ?_))
  (with_reducible refine unhold ?_)
  refine wpList_mkn rfl _ _ _ rfl Erow w.heap.size _ _ _ _ n rfl rfl rfl rfl (by omega) (by unfold maxLen; omega) (Nat.le_refl _) ?_
  intro w1 ho1 hb1 hlt1
  rw [Nat.mul_one] at ho1
  have hk := ho1.blk.1
  rw [show (Value.cells (.slice none 0 0)) = #[.slice none 0 0] from rfl, toList_madeCells_one] at hk
  have ht : List.replicate n (Value.slice none 0 0) = tab n fun p => (((Value.slice none 0 0), ([] : RowM)) : Hr).1 := by
    apply List.ext_getElem?
    intro j
    by_cases hj : j < n
    · rw [tab_get hj, List.getElem?_replicate, if_pos hj]
    · rw [List.getElem?_eq_none (by rw [List.length_replicate]; omega), List.getElem?_eq_none (by rw [tab_len]; omega)]
  rw [ht] at hk
  have hd1 : Dat w1 w.heap.size w.heap.size n fun _ => (.slice none 0 0, []) := ⟨Nat.le_refl _, hk, fun p _ => ⟨none, 0, rfl, Own.nil _ _ _ _, fun v h => by cases h⟩⟩
  have Hd1 := Lib.hid hd1
  have Hb1 := Lib.hid hb1
  clear ho1 hk hd1 hb1 ht
  go_wp2_with fail
  go_loopw [11] (fun vi wr => ∃ (i : Nat) (d : Nat → Hr), i ≤ n ∧ vi = .int .i64 i ∧ Hid (Dat wr w.heap.size w.heap.size n d) ∧ Hid (∀ p, p < i → rs[p]? = some (d p).2) ∧ Hid (∀ p, i ≤ p → d p = (.slice none 0 0, [])) ∧ Hid (Below w.heap.size w wr)) (fun i _ => n - (intOf i).toNat)
  case atStart => exact ⟨0, _, by omega, rfl, Hd1.out, fun p h => by omega, fun _ _ => rfl, Hb1.out⟩
  case round =>
    clear Hd1 Hb1
    obtain ⟨i, d, hi, rfl, Hd, Hp, He, Hb⟩ := hrel
    have hzr := Hb.out.size
    by_cases hlt : i < n
    · have hil : i < rs.length := by rw [Hn.out]; exact hlt
      obtain ⟨E, ec, h1, h2, h3, h4, h5⟩ := HR.out.at_ i rs[i] (List.getElem?_eq_getElem hil)
      obtain ⟨b, o, E', d', rfl, ca, _, _, hrx⟩ := head_cell (HA.out.below Hb.out) (HR.out.below Hb.out) hil
      have hrl := Hl.out _ (List.getElem_mem hil)
      have hgi := Lib.hid (List.getElem?_eq_getElem hil)
      have hc := Lib.hid (cloner_any rs[i] _ d' E' wr rfl hrx hrl)
      have Hok := Lib.hid h5
      generalize rs[i] = r at *
      have hput := Lib.hid (fun (w' : World) (hd : Dat w' w.heap.size w.heap.size n d) (A : Option Addr) (c : Nat) (ho : Own w' w.heap.size 30 3 A r.length c (rcells r)) => hd.put (i := i) ho Hok.out)
      generalize hln : r.length = rl at *
      have Hln := Lib.hid hln
      clear hln h1 h2 h3 h4 h5 hrx
      go_wp2_with fail
      refine hc.out.mono ?_
      rintro e w3 ⟨A3, c3, rfl, ho3, hb3⟩
      have hd3 := Hd.out.below hb3
      have kc := hd3.cell hlt
      have kf := hd3.blk.frozen i
      rw [He.out i (Nat.le_refl _)] at kc
      have hput3 := Lib.hid (hput.out w3 hd3 A3 c3 (Own.lower ho3 hzr))
      have Hb3 := Lib.hid (Hb.out.trans (hb3.mono hzr))
      clear hd3 ho3 hb3 hc hput
      go_wp2_with fail
      go_roundw
      case rel =>
        refine ⟨i + 1, _, by omega, by go_num, hput3.out, fun p hp => ?_, fun p hp => ?_, Hb3.out.setCell (Nat.le_refl _) _⟩
        · by_cases e : p = i
          · simp only [e, if_true]; exact hgi.out
          · simp only [e, if_false]; exact Hp.out p (by omega)
        · have : ¬ p = i := by omega
          simp only [this, if_false]
          exact He.out p (by omega)
      case measure => simp [intOf]; omega
    · obtain rfl : i = n := by omega
      go_wp2_with fail
      go_ret
      exact ⟨_, d, rfl, Hd.out, Hp.out, Hb.out⟩

theorem Dat.lower {w : World} {B B' g n : Nat} {d : Nat → Hr} (h : Dat w B g n d) (hB : B' ≤ B) : Dat w B' g n d := ⟨Nat.le_trans hB h.lo, h.blk, fun p hp => by
  obtain ⟨A, c, h1, h2, h3⟩ := h.row p hp
  exact ⟨A, c, h1, Own.lower h2 hB, h3⟩⟩
/-- As lists. -/
theorem Dat.rows {w : World} {B g n : Nat} {d : Nat → Hr} (h : Dat w B g n d) : Rd w (some ⟨g, 0, none⟩) (tab n fun p => (d p).1) ∧ Rows w (tab n fun p => (d p).1) ((List.range n).map fun p => (d p).2) := by
  refine ⟨Rd.of_blk h.blk, ⟨by rw [tab_len, List.length_map, List.length_range], fun i r hi => ?_⟩⟩
  have hin : i < n := by
    have := (List.getElem?_eq_some_iff.1 hi).1
    rw [List.length_map, List.length_range] at this
    exact this
  rw [List.getElem?_map, List.getElem?_range hin] at hi
  injection hi with hi
  subst hi
  obtain ⟨A, c, h1, h2, h3⟩ := h.row i hin
  have hc := h2.cap
  exact ⟨A, c, by rw [tab_get hin, h1], hc.1, hc.2, h2.rd, h3⟩
theorem srt_order {d : Nat → Hr} {n : Nat} {col : Int} (h : So.Srt (leR col) d 0 n) : inOrder ((List.range n).map fun p => (d p).2) col := by
  refine of_ord ?_
  unfold Ord
  rw [List.pairwise_iff_getElem]
  intro i j hi hj hij
  rw [List.length_map, List.length_range] at hi hj
  rw [List.getElem_map, List.getElem_map, List.getElem_range, List.getElem_range]
  exact h i j (Nat.zero_le _) hij hj

set_option maxRecDepth 100000 in
theorem sortstable_c (kb g2 kc : Nat) (col : Int) (B g n c : Nat) (d : Nat → Hr) (w : World) (h : Dat w B g n d) (hK : KeyAt w kb g2 kc col) (hn : n ≤ 1000000) (hnc : n ≤ c) :
    Calls Try.prog 42 #[.slice (some ⟨g, 0, none⟩) n c, .func (Fn.func 43) #[] #[.pointer (some ⟨kb, 0, none⟩)]] w fun e w' => ∃ d', e = .returned (.tuple #[]) ∧ Dat w' B g n d' ∧ So.Sub d d' 0 n ∧ So.Srt (leR col) d' 0 n ∧ Keeps [28] B w w' := by
  have hs := Lib.hid (stable_c kb g2 kc col B g n c d w h hK hn hnc)
  clear h hK
  go_enter Try.func42, Try.ntmps42
  go_wp2_with fail
  refine hs.out.mono ?_
  rintro e w5 ⟨d5, rfl, hd5, hs5, ho5, hk5⟩
  go_wp2_with fail
  go_end0
  first | exact ⟨d5, rfl, hd5, hs5, ho5, hk5⟩ | exact ⟨rfl, d5, hd5, hs5, ho5, hk5⟩

set_option maxHeartbeats 4000000 in
set_option maxRecDepth 100000 in
theorem sort_c (rs : List RowM) (hs : List Value) (n c : Nat) (A : Option Addr) (gk kc : Nat) (col : Int) (w : World) (hn : rs.length = n) (hA : Rd w A hs) (hR : Rows w hs rs) (hn1 : n ≤ 1000000) (hl : ∀ r ∈ rs, r.length ≤ 1000000) (hK : Blk w gk 54 [.int .i64 col, .bool false]) :
    Calls Try.prog 23 #[.slice A n c, .slice (some ⟨gk, 0, none⟩) 1 kc] w fun e w' => ∃ g d, e = .returned (.slice (some ⟨g, 0, none⟩) n n) ∧ Dat w' w.heap.size g n d ∧ (∀ p, p < n → (d p).2 ∈ rs) ∧ So.Srt (leR col) d 0 n ∧ Below w.heap.size w w' := by
  have hb1 : Below w.heap.size w (w.alloc (.cells #[.slice (some ⟨gk, 0, none⟩) 1 kc] 55)) := (Below.refl _ _).alloc (Nat.le_refl _) _
  have hk1 : KeyAt (w.alloc (.cells #[.slice (some ⟨gk, 0, none⟩) 1 kc] 55)) w.heap.size gk kc col := ⟨Blk.new w _ _, hK.below hb1⟩
  have how := Lib.hid (own_c rs hs n c A (w.alloc (.cells #[.slice (some ⟨gk, 0, none⟩) 1 kc] 55)) hn (hA.below hb1) (hR.below hb1) hn1 hl)
  have Hk1 := Lib.hid hk1
  have Hb1 := Lib.hid hb1
  clear hn hA hR hl hK hk1 hb1
  go_enter Try.func23, Try.ntmps23
  go_wp2_with fail
  refine how.out.mono ?_
  rintro e w2 ⟨g, d, rfl, hd2, hp2, hb2⟩
  have hz1 := Hb1.out.size
  have hz2 := hb2.size
  have Hb2 := Lib.hid (Hb1.out.trans (hb2.mono hz1))
  have hst := Lib.hid (sortstable_c w.heap.size gk kc col _ g n n d w2 hd2 (Hk1.out.below hb2) hn1 (Nat.le_refl _))
  have Hp2 := Lib.hid hp2
  clear hd2 hp2 hb2 how Hk1
  go_wp2_with fail
  refine hst.out.mono ?_
  rintro e w3 ⟨d3, rfl, hd3, hs3, ho3, hk3⟩
  have Hd3 := Lib.hid (hd3.lower hz1)
  have Hb3 := Lib.hid (Hb2.out.trans ((hk3.below hz2).mono hz1))
  have Hm3 : Hid (∀ p, p < n → (d3 p).2 ∈ rs) := fun p hp => by
    obtain ⟨q, _, hq, e⟩ := hs3.in_ p (Nat.zero_le _) hp
    rw [e]
    exact List.mem_of_getElem? (Hp2.out q hq)
  have Ho3 := Lib.hid ho3
  clear hd3 hs3 ho3 hk3 hst Hp2
  go_wp2_with fail
  go_ret
  exact ⟨g, d3, rfl, Hd3.out, Hm3.out, Ho3.out, Hb3.out⟩
end Go.Proofs.Ytghaffafglfdlaa
