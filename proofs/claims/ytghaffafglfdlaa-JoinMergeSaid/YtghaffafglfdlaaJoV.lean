/- Walks: a table is made of rows; what a row and those of a table come to; rows joined by a table. -/
import Derived.Test.YtghaffafglfdlaaJoS
import Derived.Deep.RegionLaw
namespace Go.Proofs.Ytghaffafglfdlaa
open Go.RowKit

attribute [local go_sem ↓] Go.wp_at_zero Go.wp_at_succ

theorem colAt_ok {r : RowM} (h : ∀ v ∈ r, v.ok) (c : Int) : (colAt r c).ok := by
  unfold colAt
  split
  · exact Va.nil_ok
  · rw [List.getD]
    cases e : r[c.toNat]? with
    | none => exact Va.nil_ok
    | some v => exact h v (List.mem_of_getElem? e)

set_option maxHeartbeats 4000000 in
set_option maxRecDepth 100000 in
theorem made_any (rs : List RowM) (hs : List Value) (n c : Nat) (A : Option Addr) (col : Int) (w : World) (hn : rs.length = n) (hA : Rd w A hs) (hR : Rows w hs rs) (hn1 : n ≤ 1000000) :
    Calls Try.prog 29 #[.slice A n c, .int .i64 col] w fun e w' => ∃ tb mb, e = .returned (.pointer (some ⟨tb, 0, none⟩)) ∧ Blk w' tb 85 [.int .i64 col, .map (some mb)] ∧ Tab w' w.heap.size mb col (hs.zip rs) ∧ Below w.heap.size w w' := by
  have Hn := Lib.hid hn
  clear hn
  have hmm := @run_makeMap Try.prog
  obtain ⟨w1, hw1⟩ : ∃ x, x = (w.alloc (.map #[] 0)).alloc (.cells #[.int .i64 col, .map (some w.heap.size)] 85) := ⟨_, rfl⟩
  have hb1 : Below w.heap.size w w1 := by rw [hw1]; go_grown
  have ht1 : Tab w1 w.heap.size w.heap.size col [] := by rw [hw1]; exact (Tab.made w col).below ((Below.refl _ _).alloc (Nat.le_refl _) _)
  have hk1 : Blk w1 (w.heap.size + 1) 85 [.int .i64 col, .map (some w.heap.size)] := by
    rw [hw1]
    have := Blk.new (w.alloc (.map #[] 0)) 85 #[.int .i64 col, .map (some w.heap.size)]
    rwa [World.size_alloc] at this
  subst hw1
  have Ht1 := Lib.hid ht1
  have Hk1 := Lib.hid hk1
  have Hb1 := Lib.hid hb1
  clear ht1 hk1 hb1
  go_enter Try.func29, Try.ntmps29
  go_wp2_with fail
  go_loopw [15] (fun i wr => ∃ j : Nat, j ≤ n ∧ i = .int .i64 j ∧ Blk wr (w.heap.size + 1) 85 [.int .i64 col, .map (some w.heap.size)] ∧ Tab wr w.heap.size w.heap.size col ((hs.zip rs).take j) ∧ Below w.heap.size w wr) (fun i _ => n - (intOf i).toNat)
  case atStart => exact ⟨0, by omega, rfl, Hk1.out, Ht1.out, Hb1.out⟩
  case round =>
    obtain ⟨j, hj, rfl, hk, ht, hb⟩ := hrel
    by_cases hlt : j < n
    · have hjl : j < rs.length := by rw [Hn.out]; exact hlt
      obtain ⟨E, d, hh1, hcc, hcm, hr, hok⟩ := hR.at_ j rs[j] (List.getElem?_eq_getElem hjl)
      obtain ⟨b, o, rfl, hh⟩ := (hA.below hb) (fun e => by rw [e] at hh1; simp at hh1)
      have c0 := hh j _ hh1
      have hps : (hs.zip rs).take (j + 1) = (hs.zip rs).take j ++ [(.slice E rs[j].length d, rs[j])] := by
        have hz : (hs.zip rs)[j]? = some (.slice E rs[j].length d, rs[j]) := by
          rw [List.getElem?_zip_eq_some]
          exact ⟨hh1, List.getElem?_eq_getElem hjl⟩
        rw [List.take_add_one, hz]
        rfl
      have Hps := Lib.hid hps
      have hpl : ((hs.zip rs).take j).length ≤ 1000000 := by rw [List.length_take]; omega
      have Hok := Lib.hid hok
      have hr2 := hr.below hb
      clear hps hok hr hh hh1 hA hR
      generalize (hs.zip rs).take j = ps at *
      generalize rs[j] = x at *
      generalize hxl : x.length = xl at *
      have Hxl := Lib.hid hxl
      clear hxl hjl
      have hat := at_any x E xl d col wr Hxl.out hr2
      have hvok := Lib.hid (colAt_ok Hok.out col)
      unfold Va.agg at hat
      generalize hv : colAt x col = v at *
      have Hv := Lib.hid hv
      have Hat := Lib.hid hat
      clear hv hat
      have hlt1 := hk.lt
      have hz1 := hb.size
      go_wp2_with fail
      refine Hat.out.mono ?_
      rintro e w2 ⟨rfl, hb2⟩
      have hk2 := hk.below hb2
      have ht2 := ht.below hb2
      have hbw2 := hb.trans (hb2.mono hz1)
      clear hk ht hb hr2 c0
      have hz2 := hbw2.size
      by_cases hv0 : v.k = 0
      · have hsk := ht2.skip (.slice E xl d) (x := x) (by rw [Hv.out]; exact hv0)
        go_wp2_with fail
        go_roundw
        case rel => exact ⟨j + 1, by omega, by go_num, hk2.alloc _, by rw [Hps.out]; exact hsk.below ((Below.refl _ _).alloc (Nat.le_refl _) _), hbw2.alloc (by omega) _⟩
        case measure => simp [intOf]; omega
      · obtain ⟨W, hW⟩ : ∃ W, W = w2.alloc (.cells #[.int .u8 v.k, .int .i64 v.n, .string (St8 v.s)] 30) := ⟨_, rfl⟩
        have hkW : Blk W (w.heap.size + 1) 85 [.int .i64 col, .map (some w.heap.size)] := by rw [hW]; exact hk2.alloc _
        have hvW : Blk W w2.heap.size 30 [.int .u8 v.k, .int .i64 v.n, .string (St8 v.s)] := by rw [hW]; exact Blk.new w2 _ _
        have htW : Tab W w.heap.size w.heap.size col ps := by rw [hW]; exact ht2.below ((Below.refl _ _).alloc (Nat.le_refl _) _)
        have hbW : Below w.heap.size w W := by rw [hW]; exact hbw2.alloc (by omega) _
        have hne : ¬ (v.k == 0) = true := by simpa using hv0
        clear hk2 ht2 hbw2
        go_wp2_with fail
        rw [← hW]
        have hbW2 : Below W.heap.size W (W.alloc (.cells #[.slice E xl d] 28)).drew := by go_grown
        have htW2 := htW.below hbW2
        have hkW2 := hkW.below hbW2
        have hvW2 := hvW.below hbW2
        have hhW2 : Blk (W.alloc (.cells #[.slice E xl d] 28)).drew W.heap.size 28 [.slice E xl d] := Blk.new W _ _
        obtain ⟨A3, m, c3, w3, st, hm, hent, ho3, hcel, hstore⟩ := htW2.step (.slice E xl d) Hv.out hvok.out hv0 hpl
        unfold Va.agg at hent
        have hrd := (hcel.blk hhW2).range
        have hml : m ≤ 1000000 := by rw [hm]; exact Nat.le_trans (selP_le _ _ _) hpl
        have hk3 := hcel.blk hkW2
        have hbW3 := (hbW.trans (hbW2.mono hbW.size)).trans hcel.below
        have hm1 := hkW.cell 1
        have hm2 := hkW2.cell 1
        have hm3 := hk3.cell 1
        have hx0 := hvW.cell 0
        have hx1 := hvW.cell 1
        have hx2 := hvW.cell 2
        have hy0 := hvW2.cell 0
        have hy1 := hvW2.cell 1
        have hy2 := hvW2.cell 2
        simp only [List.getElem?_cons_zero, List.getElem?_cons_succ] at hm1 hm2 hm3 hx0 hx1 hx2 hy0 hy1 hy2
        have Hstore := Lib.hid hstore
        have Hk3 := Lib.hid hk3
        have Ho3 := Lib.hid ho3
        have HbW3 := Lib.hid hbW3
        clear hstore hkW hvW htW hbW hbW2 htW2 hkW2 hvW2 hhW2 hcel hm hk3 ho3 hbW3 hW
        go_region_law (refine step_apd rfl (.tmp 30) (.tmp 32) 22 rfl Erow w.heap.size A3 m c3 _ (by simp [Act.eval, Act.put]) Ho3.out (some ⟨W.heap.size, 0, none⟩) 1 1 [.slice E xl d] (by simp [Act.eval, Act.put]) rfl (fun _ => ⟨_, _, rfl, hrd⟩) (by simp [Value.oneCell']) (m + 1) rfl _ rfl (by omega) (by omega) HbW3.out.size ?_; intro A4 c4 w4 ho4 hg4 hat4; obtain ⟨w5, hs5, ht5, hcel5⟩ := Hstore.out A4 c4 w4 ho4 hg4 hat4)
        all_goals
          have hk5 := hcel5.blk (Blk.keeps Hk3.out (by decide) (Ho3.out.apd_keeps hg4))
          have hb5 := (HbW3.out.grown hg4 HbW3.out.size Ho3.out.row_ge).trans hcel5.below
          go_wp2_with fail
          go_roundw
          case rel => exact ⟨j + 1, by omega, by go_num, hk5, by rw [Hps.out]; exact ht5, hb5⟩
          case measure => simp [intOf]; omega
    · obtain rfl : j = n := by omega
      have hta : (hs.zip rs).take j = hs.zip rs := List.take_of_length_le (by rw [List.length_zip, Hn.out]; omega)
      rw [hta] at ht
      go_wp2_with fail
      go_ret
      exact ⟨_, _, rfl, hk, ht, hb⟩

/-- The rows that a row goes together with, as pairs. -/
theorem selP_rows {w : World} {hs : List Value} {rs : List RowM} (hR : Rows w hs rs) (col : Int) (v : Va) {q : Nat} (hq : q < (selP (hs.zip rs) col v).length) :
    ∃ E d, ((selP (hs.zip rs) col v)[q]).1 = .slice E ((selP (hs.zip rs) col v)[q]).2.length d ∧ ((selP (hs.zip rs) col v)[q]).2.length ≤ d ∧ d ≤ maxLen ∧ Rd w E (rcells ((selP (hs.zip rs) col v)[q]).2) ∧ (∀ u ∈ ((selP (hs.zip rs) col v)[q]).2, u.ok) ∧ ((selP (hs.zip rs) col v)[q]).2 ∈ rs := by
  have hm : (selP (hs.zip rs) col v)[q] ∈ hs.zip rs := (List.mem_filter.1 (List.getElem_mem hq)).1
  generalize (selP (hs.zip rs) col v)[q] = p at *
  obtain ⟨i, hi, hp⟩ := List.getElem_of_mem hm
  rw [List.length_zip] at hi
  rw [List.getElem_zip] at hp
  obtain ⟨E, d, h1, h2, h3, h4, h5⟩ := hR.at_ i (rs[i]'(by omega)) (List.getElem?_eq_getElem (by omega))
  rw [List.getElem?_eq_getElem (by omega)] at h1
  have h1 := Option.some.inj h1
  subst hp
  exact ⟨E, d, h1, h2, h3, h4, h5, List.getElem_mem _⟩

end Go.Proofs.Ytghaffafglfdlaa
