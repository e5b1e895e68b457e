/- Walks: the first rows of a list, of not too many bytes; those that may be laid; the document's example. The walk of shown: the document's example. -/
import Derived.Test.YtjjmnjgkodiibaaMSpU
import Derived.Test.YtjjmnjgkodiibaaMLw5a
namespace Go.Proofs.Ytjjmnjgkodiibaa
open Go.RowKit

attribute [local go_sem ↓] Go.wp_at_zero Go.wp_at_succ

theorem rdTake {w : World} {A : Option Addr} {xs : List Value} (h : Rd w A xs) (n : Nat) : Rd w A (xs.take n) := by
  intro hn
  obtain ⟨b, o, e, hr⟩ := h (fun h0 => hn (by rw [h0, List.take_nil]))
  have := Rd.part hr 0 n
  rw [List.drop_zero, Nat.add_zero] at this
  exact ⟨b, o, e, this⟩
theorem used_none (n : Nat) : Pg.used (List.replicate n none) = 0 := by simp [Pg.used]
/-- How many bytes all texts have. -/
def txtR (r : RowM) : Nat := (r.map fun v => v.s.length).sum
def txts (rs : List RowM) : Nat := (rs.map txtR).sum
theorem txtR_snoc (r : RowM) (v : Va) : txtR (r ++ [v]) = txtR r + v.s.length := by simp [txtR]
theorem txts_snoc (rs : List RowM) (r : RowM) : txts (rs ++ [r]) = txts rs + txtR r := by simp [txts]
/-- Rows that are not too long together. -/
structure Fewer (rs : List RowM) : Prop where
  len : rs.length ≤ 60
  row : ∀ r ∈ rs, r.length ≤ 40
  txt : txts rs ≤ 10000
theorem vput_le2 {v : Va} (hv : rightV v = true) (hok : v.ok) : (vput v).length ≤ 10 + v.s.length := by
  rcases right_kinds hv with rfl | ⟨t, rfl⟩ | ⟨n, rfl⟩ | ⟨s, rfl, hs⟩
  · rw [vput_nil]; decide
  · have h0 : -9223372036854775808 ≤ (if t = true then (1 : Int) else 0) ∧ (if t = true then (1 : Int) else 0) ≤ 9223372036854775807 := by split <;> omega
    have := numB_len (zigN_lt h0)
    rw [vput_bool, List.length_cons]
    omega
  · have := numB_len (zigN_lt (n := n) hok.n)
    rw [vput_int, List.length_cons]
    omega
  · have := numB_len (n := s.length) (by omega)
    rw [vput_txt, List.length_cons, List.length_append]
    show _ ≤ 10 + s.length
    omega
theorem vputs_le2 : ∀ {r : RowM}, (∀ v ∈ r, rightV v = true) → (∀ v ∈ r, v.ok) → (r.flatMap vput).length ≤ 10 * r.length + txtR r
  | [], _, _ => by simp
  | v :: r, h1, h2 => by
    have := vputs_le2 (r := r) (fun u hu => h1 u (by simp [hu])) (fun u hu => h2 u (by simp [hu]))
    have := vput_le2 (h1 v (by simp)) (h2 v (by simp))
    rw [List.flatMap_cons, List.length_append, List.length_cons]
    have : txtR (v :: r) = v.s.length + txtR r := by simp [txtR]
    omega
theorem rowB_le2 {r : RowM} (hm : mayR r = 0) (h2 : ∀ v ∈ r, v.ok) : (rowB r).length ≤ 321 + txtR r := by
  obtain ⟨h32, h1⟩ := may_right hm
  have := vputs_le2 h1 h2
  have : (numB r.length).length = 1 := by unfold numB; rw [if_pos (by omega)]; rfl
  unfold rowB
  rw [List.length_append]
  omega
theorem rowsB_le2 : ∀ {rs : List RowM}, (∀ r ∈ rs, mayR r = 0) → (∀ r ∈ rs, ∀ v ∈ r, v.ok) → (rowsB rs).length ≤ 321 * rs.length + txts rs
  | [], _, _ => by simp [rowsB]
  | r :: rs, h1, h2 => by
    have := rowsB_le2 (rs := rs) (fun u hu => h1 u (by simp [hu])) (fun u hu => h2 u (by simp [hu]))
    have := rowB_le2 (h1 r (by simp)) (h2 r (by simp))
    have e : rowsB (r :: rs) = rowB r ++ rowsB rs := by simp [rowsB]
    have : txts (r :: rs) = txtR r + txts rs := by simp [txts]
    rw [e, List.length_append, List.length_cons]
    omega

/-- Those that may be laid. -/
def laidR (rs : List RowM) : List RowM := rs.filter fun r => decide (mayR r = 0)
theorem laidR_may (rs : List RowM) : ∀ r ∈ laidR rs, mayR r = 0 := fun r hr => by simpa using (List.mem_filter.1 hr).2
theorem laidR_len (rs : List RowM) : (laidR rs).length ≤ rs.length := List.length_filter_le _ _
theorem laidR_txt : ∀ rs : List RowM, txts (laidR rs) ≤ txts rs
  | [] => by simp [laidR, txts]
  | r :: rs => by
    have := laidR_txt rs
    unfold laidR at *
    rw [List.filter_cons]
    split
    · simp only [txts, List.map_cons, List.sum_cons] at *
      omega
    · simp only [txts, List.map_cons, List.sum_cons] at *
      omega
theorem Fewer.laid {rs : List RowM} (h : Fewer rs) : Fewer (laidR rs) :=
  ⟨Nat.le_trans (laidR_len rs) h.len, fun r hr => h.row r (List.mem_filter.1 hr).1, Nat.le_trans (laidR_txt rs) h.txt⟩

set_option maxHeartbeats 4000000 in
set_option maxRecDepth 100000 in
theorem few17 (rs : List RowM) (hs : List Value) (n c : Nat) (A : Option Addr) (w : World) (hn : rs.length = n) (hnc : n ≤ c) (hc : c ≤ 9223372036854775807) (hA : Rd w A hs) (hR : Rows w hs rs) :
    Calls Try.prog 22 #[.slice A n c] w fun e w' => (∃ k, k ≤ n ∧ Fewer (rs.take k) ∧ e = .returned (.slice A k c)) ∧ Below w.heap.size w w' := by
  have Hn := Lib.hid hn
  clear hn
  go_enter Try.func22, Try.ntmps22
  go_wp2_with fail
  go_loopw [3, 10] (fun s i wr => ∃ (j z : Nat), j ≤ n ∧ j ≤ 60 ∧ i = .int .i64 j ∧ s = .int .i64 (z : Nat) ∧ z ≤ 10000 ∧ Below w.heap.size w wr ∧ Hid ((∀ r ∈ rs.take j, r.length ≤ 40) ∧ txts (rs.take j) + z = 10000)) (fun _ i _ => n - (intOf i).toNat)
  case atStart => exact ⟨0, 10000, by omega, by omega, rfl, rfl, by omega, Below.refl _ _, (fun v h => by simp at h), by simp [txts]⟩
  case round =>
    obtain ⟨j, z, hj, hj60, rfl, rfl, hz1, hb, hall⟩ := hrel
    have hfin : Hid (Fewer (rs.take j)) := ⟨by rw [List.length_take]; omega, hall.out.1, by have := hall.out.2; omega⟩
    by_cases hlt : j < n
    · have hjl : j < rs.length := by rw [Hn.out]; exact hlt
      obtain ⟨b, o, E, d, rfl, c0, hcc, hcm, hrr, hok⟩ := (hR.below hb).hdr (hA.below hb) hjl
      have htk := Lib.hid (List.take_succ_eq_append_getElem (l := rs) (i := j) hjl)
      unfold maxLen at hcm
      clear hok hA hR
      generalize rs[j] = x at *
      generalize hx : x.length = xl at *
      have Hx := Lib.hid hx
      clear hx
      by_cases h60 : 60 ≤ j
      · go_wp2_with fail
        go_ret
        exact ⟨⟨j, by omega, hfin.out, rfl⟩, hb⟩
      · by_cases h40 : 40 < xl
        · go_wp2_with fail
          go_ret
          exact ⟨⟨j, by omega, hfin.out, rfl⟩, hb⟩
        · have hzw := hb.size
          go_wp2_with fail
          go_loopw [3, 27] (fun s i wr2 => ∃ (q z2 : Nat), q ≤ xl ∧ i = .int .i64 q ∧ s = .int .i64 (z2 : Nat) ∧ z2 ≤ 10000 ∧ Below wr.heap.size wr wr2 ∧ Hid (txtR (x.take q) + z2 = z)) (fun _ i _ => xl - (intOf i).toNat)
          case atStart => exact ⟨0, z, by omega, rfl, rfl, by omega, Below.refl _ _, by show _ = _; simp [txtR]⟩
          case round =>
            obtain ⟨q, z2, hq, rfl, rfl, hz2, hbq, htx⟩ := hrel
            have hbwr := hb.trans (hbq.mono hzw)
            by_cases hlq : q < xl
            · have hql : q < x.length := by rw [Hx.out]; exact hlq
              obtain ⟨g, o2, rfl, d0, d1, d2⟩ := row_cells (hrr.below hbq) hql
              have htq := Lib.hid (List.take_succ_eq_append_getElem (l := x) (i := q) hql)
              generalize x[q] = v at *
              obtain ⟨vk, vn, vs⟩ := v
              dsimp only at d0 d1 d2
              have hsz := St8_size vs
              obtain ⟨wq, rfl⟩ : ∃ x : World, x = wr := ⟨_, rfl⟩
              have hbx : Below wq.heap.size wq (wq.alloc (.cells #[.int .u8 vk, .int .i64 vn, .string (St8 vs)] 37)) := (Below.refl _ _).alloc (Nat.le_refl _) _
              by_cases h200 : 1100 < vs.length
              · go_wp2_with fail
                go_ret
                exact ⟨⟨j, by omega, hfin.out, rfl⟩, hbwr.trans (hbx.mono hbwr.size)⟩
              · by_cases hvz : z2 < vs.length
                · go_wp2_with fail
                  go_ret
                  exact ⟨⟨j, by omega, hfin.out, rfl⟩, hbwr.trans (hbx.mono hbwr.size)⟩
                · go_wp2_with fail
                  go_roundw
                  case rel =>
                    refine ⟨q + 1, z2 - vs.length, by omega, by go_num, by go_num, by omega, hbq.trans (hbx.mono hbq.size), ?_⟩
                    show _ = _
                    rw [htq.out, txtR_snoc]
                    have := htx.out
                    show _ + vs.length + _ = _
                    omega
                  case measure => simp [intOf]; omega
            · obtain rfl : q = xl := by omega
              have hsm : Hid (txtR x + z2 = z) := by
                have := htx.out
                rwa [List.take_of_length_le (by rw [Hx.out]; exact Nat.le_refl _)] at this
              go_wp2_with fail
              go_roundw
              case rel =>
                refine ⟨j + 1, z2, by omega, by omega, by go_num, rfl, hz2, hbwr, fun r hr => ?_, ?_⟩
                · rw [htk.out] at hr
                  rcases List.mem_append.1 hr with hr | hr
                  · exact hall.out.1 r hr
                  · rw [List.mem_singleton.1 hr]; have := Hx.out; omega
                · rw [htk.out, txts_snoc]
                  have := hall.out.2; have := hsm.out; omega
              case measure => simp [intOf]; omega
    · obtain rfl : j = n := by omega
      go_wp2_with fail
      go_ret
      exact ⟨⟨j, by omega, hfin.out, rfl⟩, hb⟩

set_option maxRecDepth 100000 in
theorem laid17 (wb : World) (rs : List RowM) (hs : List Value) (n c : Nat) (A : Option Addr) (w : World) (hwb : Below wb.heap.size wb w) (hn : rs.length = n) (hA : Rd w A hs) (hR : Rows wb hs rs) (hn6 : n ≤ 1000) :
    Calls Try.prog 29 #[.slice A n c] w fun e w' => ∃ A' L c' hs', e = .returned (.slice A' L c') ∧ (laidR rs).length = L ∧ Own w' w.heap.size 33 1 A' L c' hs' ∧ Rows wb hs' (laidR rs) ∧ Below w.heap.size w w' := by
  have Hn := Lib.hid hn
  clear hn
  go_enter Try.func29, Try.ntmps29
  go_wp2_with fail
  go_loopw [3, 8] (fun s i wr => ∃ (j L d : Nat) (E : Option Addr) (hs' : List Value), j ≤ n ∧ L ≤ j ∧ i = .int .i64 j ∧ s = .slice E L d ∧ Hid ((laidR (rs.take j)).length = L) ∧ Own wr w.heap.size 33 1 E L d hs' ∧ Hid (Rows wb hs' (laidR (rs.take j))) ∧ Below w.heap.size w wr) (fun _ i _ => n - (intOf i).toNat)
  case atStart => exact ⟨0, 0, 0, none, [], by omega, by omega, rfl, rfl, rfl, Own.nil _ _ _ _, Rows.nil _, Below.refl _ _⟩
  case round =>
    obtain ⟨j, L, d, E, hs', hj, hLj, rfl, rfl, hlen, hown, hrows, hb⟩ := hrel
    by_cases hlt : j < n
    · have hjl : j < rs.length := by rw [Hn.out]; exact hlt
      obtain ⟨b, o, F, f, rfl, c0, hcc, hcm, hrr, hok⟩ := (hR.below (hwb.trans (hb.mono hwb.size))).hdr (hA.below hb) hjl
      obtain ⟨F', f', hF, hF2, hF3, hF4, hF5⟩ := hR.at_ j _ (List.getElem?_eq_getElem hjl)
      have hsame : F' = F ∧ f' = f := by
        have h := (hA.below hb) (by intro e; rw [e] at hF; simp at hF)
        obtain ⟨b', o', e, hr⟩ := h
        injection e with e
        injection e with e1 e2
        subst e1; subst e2
        have := hr j _ hF
        rw [c0] at this
        injection this with this
        injection this with h1 h2 h3
        exact ⟨h1.symm, h3.symm⟩
      obtain ⟨rfl, rfl⟩ := hsame
      have htk := Lib.hid (List.take_succ_eq_append_getElem (l := rs) (i := j) hjl)
      have HF := Lib.hid (And.intro hF2 (And.intro hF3 (And.intro hF4 hF5)))
      unfold maxLen at hcm
      clear hok hA hR hF hF2 hF3 hF4 hF5
      generalize rs[j] = x at *
      have hsnoc : Hid (mayR x = 0 → Rows wb (hs' ++ [.slice F' x.length f']) (laidR (rs.take j) ++ [x])) := fun _ => by
        refine ⟨by rw [List.length_append, List.length_append, hrows.out.len]; rfl, fun i q hi => ?_⟩
        rw [List.getElem?_append] at hi
        split at hi
        · obtain ⟨A', c', e1, e2⟩ := hrows.out.at_ i q hi
          exact ⟨A', c', by rw [List.getElem?_append_left (List.getElem?_eq_some_iff.1 e1).1]; exact e1, e2⟩
        · have e : i = (laidR (rs.take j)).length := by
            have := (List.getElem?_eq_some_iff.1 hi).1
            simp at this
            omega
          subst e
          simp at hi
          subst hi
          exact ⟨F', f', by rw [← hrows.out.len]; simp, HF.out⟩
      generalize hx : x.length = xl at *
      have Hx := Lib.hid hx
      have hmy := Lib.hid (may_any x xl f' F' wr hx hrr (by omega))
      clear hx hrr
      by_cases hm : mayR x = 0
      · rw [hm] at hmy
        have hnext : Hid (laidR (rs.take (j + 1)) = laidR (rs.take j) ++ [x]) := by show _ = _; rw [htk.out]; simp [laidR, hm]
        have Hsn := Lib.hid (hsnoc.out hm)
        have Hown := Lib.hid hown
        clear hm hsnoc hown
        go_wp2_with fail
        refine hmy.out.mono ?_
        rintro e w2 ⟨rfl, hb2⟩
        have hown2 := Own.below Hown.out hb2
        have hb02 := hb.trans (hb2.mono hb.size)
        have hbB : Below w2.heap.size w2 (w2.alloc (.cells #[.slice F' xl f'] 33)) := (Below.refl _ _).alloc (Nat.le_refl _) _
        have hn5 := (Blk.new w2 33 #[.slice F' xl f']).range
        have hown5 := Own.below hown2 hbB
        have hb05 := hb02.trans (hbB.mono hb02.size)
        clear hown2 hb02 hb2 hbB hmy
        go_wp2_with (first | (at_builtin; refine hold ?_) | (at_make; refine hold ?_))
        (with_reducible refine unhold ?_)
        refine wpList_apd rfl _ _ _ rfl Erow w.heap.size _ L d _ rfl hown5 _ 1 _ [.slice F' xl f'] rfl rfl (fun _ => ⟨_, _, rfl, hn5⟩) (by simp [Value.oneCell']) (L + 1) rfl _ rfl (by omega) (by omega) hb05.size ?_
        intro A6 c6 w6 ho6 hg6 _
        have hb6 := hb05.grown hg6 hb05.size hown5.row_ge
        go_wp2_with fail
        go_roundw
        case rel =>
          refine ⟨j + 1, L + 1, c6, A6, _, by omega, by omega, by go_num, rfl, ?_, ho6, ?_, hb6⟩
          · show _ = _
            rw [hnext.out, List.length_append, hlen.out]
            rfl
          · rw [hnext.out]
            exact Hsn.out
        case measure => simp [intOf]; omega
      · have hnext : Hid (laidR (rs.take (j + 1)) = laidR (rs.take j)) := by show _ = _; rw [htk.out]; simp [laidR, hm]
        have hne : (mayR x == 0) = false := beq_eq_false_iff_ne.2 hm
        have Hown := Lib.hid hown
        generalize mayR x = m at *
        clear hm hsnoc hown
        go_wp2_with fail
        refine hmy.out.mono ?_
        rintro e w2 ⟨rfl, hb2⟩
        have hown2 := Lib.hid (Own.below Hown.out hb2)
        have hb02 := hb.trans (hb2.mono hb.size)
        go_wp2_with fail
        go_roundw
        case rel =>
          refine ⟨j + 1, L, d, E, hs', by omega, by omega, by go_num, rfl, ?_, hown2.out, ?_, hb02⟩
          · show _ = _
            rw [hnext.out]
            exact hlen.out
          · rw [hnext.out]
            exact hrows.out
        case measure => simp [intOf]; omega
    · obtain rfl : j = n := by omega
      have htk : rs.take j = rs := List.take_of_length_le (by rw [Hn.out]; exact Nat.le_refl _)
      rw [htk] at hlen hrows
      go_wp2_with fail
      go_ret
      exact ⟨_, _, _, _, rfl, hlen.out, hown, hrows.out, hb⟩
end Go.Proofs.Ytjjmnjgkodiibaa
namespace Go.Proofs.Ytjjmnjgkodiibaa
open Go.RowKit

attribute [local go_sem ↓] Go.wp_at_zero Go.wp_at_succ

def exRow : RowM := [⟨2, 5, []⟩, ⟨0, 0, []⟩]
def exStore : Pg.St := List.replicate 4 none
theorem exB : rowB exRow = [2, 2, 10, 0] := by decide
theorem exMay : mayR exRow = 0 := by decide
theorem ex_put : Pg.putRE exStore [exRow] = 0 ∧ Pg.putRL exStore [exRow] = [0] ∧ Pg.putRS exStore [exRow] = exStore.set 0 (some (Pg.page 0 [2, 2, 10, 0])) := by
  have h : Pg.run exStore [] [] [exRow] = (exStore, [], [2, 2, 10, 0], 0) := by
    rw [Pg.run_on (s' := exStore) (l' := []) (b' := [2, 2, 10, 0]) exMay (by rw [exB]; exact Pg.lay_end (by decide)) (by decide), Pg.run]
  exact Pg.putR_some h (by decide) (i := 0) (by decide)
theorem ex_read : Pg.readE (exStore.set 0 (some (Pg.page 0 [2, 2, 10, 0]))) 0 = 0 ∧ Pg.readB (exStore.set 0 (some (Pg.page 0 [2, 2, 10, 0]))) 0 = [2, 2, 10, 0] ++ List.replicate 52 0 :=
  Pg.read_page (i := 0) (x := [2, 2, 10, 0]) (by decide) rfl

theorem ex_rows {w : World} {g : Nat} (h1 : Blk w g 37 (rcells exRow)) : Rows w [.slice (some ⟨g, 0, none⟩) 2 2] [exRow] :=
  ⟨rfl, fun i r hi => by
    cases i with
    | zero =>
      obtain rfl : exRow = r := by simpa using hi
      exact ⟨some ⟨g, 0, none⟩, 2, rfl, by decide, by unfold maxLen; decide, Rd.of_blk h1, fun v hv => by
        simp [exRow] at hv
        rcases hv with rfl | rfl <;> exact ⟨by decide, by decide, by decide⟩⟩
    | succ i => simp at hi⟩

set_option maxHeartbeats 4000000 in
set_option maxRecDepth 100000 in
theorem shown17 (w : World) : Calls Try.prog 9 #[] w fun e w' => e = .returned (.bool true) ∧ Below w.heap.size w w' := by
  go_enter Try.func9, Try.ntmps9
  go_wp2_with fail
  refine (new_yes 4 w (by omega)).mono ?_
  rintro e w1 ⟨bs, rfl, hs1, hb1⟩
  have Hs1 := Lib.hid hs1
  have Hb1 := Lib.hid hb1
  have hz1 := hb1.size
  clear hs1 hb1
  go_wp2_with fail
  have hbA : Below w1.heap.size w1 (w1.alloc (.cells #[.int .u8 2, .int .i64 5, .string ⟨#[]⟩, .int .u8 0, .int .i64 0, .string ⟨#[]⟩] 37)) := (Below.refl _ _).alloc (Nat.le_refl _) _
  have kA : Blk (w1.alloc (.cells #[.int .u8 2, .int .i64 5, .string ⟨#[]⟩, .int .u8 0, .int .i64 0, .string ⟨#[]⟩] 37)) w1.heap.size 37 (rcells exRow) := Blk.new w1 _ _
  have hzA : (w1.alloc (.cells #[.int .u8 2, .int .i64 5, .string ⟨#[]⟩, .int .u8 0, .int .i64 0, .string ⟨#[]⟩] 37)).heap.size = w1.heap.size + 1 := by simp
  generalize w1.alloc (.cells #[.int .u8 2, .int .i64 5, .string ⟨#[]⟩, .int .u8 0, .int .i64 0, .string ⟨#[]⟩] 37) = wA at *
  have hbC : Below wA.heap.size wA (wA.alloc (.cells #[.slice (some ⟨w1.heap.size, 0, none⟩) 2 2] 33)) := (Below.refl _ _).alloc (Nat.le_refl _) _
  have kC := kA.below hbC
  have kR : Blk (wA.alloc (.cells #[.slice (some ⟨w1.heap.size, 0, none⟩) 2 2] 33)) wA.heap.size 33 [.slice (some ⟨w1.heap.size, 0, none⟩) 2 2] := Blk.new wA _ _
  rw [hzA] at kR
  generalize wA.alloc (.cells #[.slice (some ⟨w1.heap.size, 0, none⟩) 2 2] 33) = wC at *
  have hb1C := hbA.trans (hbC.mono hbA.size)
  have hbwC := Hb1.out.trans (hb1C.mono hz1)
  have hzC := hbwC.size
  have hrows : ∀ (T : List TypeId) (w' : World), 37 ∉ T → 33 ∉ T → Keeps T w.heap.size wC w' → Rd w' (some ⟨w1.heap.size + 1, 0, none⟩) [.slice (some ⟨w1.heap.size, 0, none⟩) 2 2] ∧ Rows w' [.slice (some ⟨w1.heap.size, 0, none⟩) 2 2] [exRow] := fun T w' h1 h2 hk =>
    ⟨Rd.of_blk (kR.keeps h2 hk), ex_rows (kC.keeps h1 hk)⟩
  have Hrows := Lib.hid hrows
  obtain ⟨ex1, ex2, ex3⟩ := ex_put
  have hput := sput_c w.heap.size bs exStore [exRow] _ 1 1 _ wC (Hs1.out.below hb1C) hzC rfl (fun w' hk => hrows StT w' (by decide) (by decide) hk) (by omega) (by omega) (by omega)
  rw [ex3] at hput
  have Hput := Lib.hid hput
  have Hex := Lib.hid (And.intro ex1 ex2)
  have HbwC := Lib.hid hbwC
  clear hput hrows kC kR hbA hbC kA hzA hb1C hbwC ex1 ex2 ex3 Hs1 Hb1
  refine Hput.out.mono ?_
  rintro e w3 ⟨hput, hs3, hk3⟩
  rcases hput with ⟨_, bf, k, ic, I, rfl, hf⟩ | ⟨h, _⟩
  · rw [Hex.out.2] at hf
    obtain rfl : k = 1 := hf.klen.symm
    have hrd := read_c w.heap.size bs _ 0 w3 hs3 (by omega) (by omega)
    rw [ex_read.1, ex_read.2] at hrd
    have Hrd := Lib.hid hrd
    have Hf := Lib.hid hf
    have hk3w := hk3.below hzC
    have Hk3 := Lib.hid hk3
    have Hb3 := Lib.hid (HbwC.out.trans hk3w)
    clear hs3 hrd hf hk3 hk3w Hput Hex
    go_wp2_with fail
    refine Hrd.out.mono ?_
    rintro e w4 ⟨A4, c4, rfl, ho4, hb4⟩
    have hcp := ho4.cap
    have Ho4 := Lib.hid ho4
    have hpg := Lib.hid (pages_c _ bs bf _ _ _ _ _ w4 (Hf.out.below hb4) (by omega))
    have Hk4 := Lib.hid (Hk3.out.then_below hb4)
    have Hb4 := Lib.hid (Hb3.out.trans (hb4.mono Hb3.out.size))
    clear ho4 hb4 Hrd Hf Hk3 Hb3
    have e56 : ([2, 2, 10, 0] ++ List.replicate 52 0 : List UInt8).length = 56 := by decide
    rw [e56] at hcp
    obtain ⟨g4, o4, rfl, _⟩ := Ho4.out.rd (by decide)
    have Ho4x := Lib.hid ((OwnX.of_own Ho4.out).take (k := 4) (by decide))
    rw [e56]
    go_wp2_with fail
    refine hpg.out.mono ?_
    rintro e w5 ⟨A5, c5, rfl, ho5, hb5⟩
    have Hk5 := Lib.hid (Hk4.out.then_below hb5)
    have Hb5 := Lib.hid (Hb4.out.trans (hb5.mono Hb4.out.size))
    have Ho45 := Lib.hid (Ho4x.out.below hb5)
    have Ho5 := Lib.hid ho5
    clear ho5 hb5 hpg Hk4 Hb4 Ho4 Ho4x
    have hbD : Below w5.heap.size w5 (w5.alloc (.cells #[.int .i64 0] 3)) := (Below.refl _ _).alloc (Nat.le_refl _) _
    have hnD := Rd.of_blk (Blk.new w5 3 #[.int .i64 0])
    have hin := Lib.hid (ints_any [0] [0] 1 1 A5 (some ⟨w5.heap.size, 0, none⟩) c5 1 (w5.alloc (.cells #[.int .i64 0] 3)) rfl rfl (Ho5.out.rd.below hbD) hnD (by omega) (by omega))
    have Hk6 := Lib.hid (Hk5.out.then_below hbD)
    have Hb6 := Lib.hid (Hb5.out.trans (hbD.mono Hb5.out.size))
    have Ho46 := Lib.hid (Ho45.out.below hbD)
    clear hbD hnD Ho5 Hk5 Hb5 Ho45
    go_wp2_with fail
    refine hin.out.mono ?_
    rintro e w7 ⟨rfl, q, rfl⟩
    have Hk7 := Lib.hid (Hk6.out.drewN q)
    have Hb7 := Lib.hid (below_drewN' Hb6.out q)
    have hst := run_str ((w5.alloc (.cells #[.int .i64 0] 3)).drewN q) (some ⟨g4, o4, none⟩) [2, 2, 10, 0] 4 c4 rfl (by
      have := Ho46.out.rd
      rw [← List.map_take] at this
      exact this)
    have hrr := Hrows.out _ _ (by decide) (by decide) Hk7.out
    have hcb := Lib.hid (cbytes_any [exRow] _ 1 1 _ _ rfl hrr.1 hrr.2 (by omega) (fun r hr => by rw [List.mem_singleton.1 hr]; exact exMay))
    have h4 : (rowsB [exRow]).length = 4 := by decide
    rw [h4] at hcb
    generalize (w5.alloc (.cells #[.int .i64 0] 3)).drewN q = w7 at *
    have hS : (St8 [2, 2, 10, 0] : ByteArray) = ⟨#[2, 2, 10, 0]⟩ := rfl
    rw [hS] at hst
    clear Hrows hrr Hk7 Hk6 Hb6 Ho46 hin HbwC h4 hS
    go_wp2_with fail
    refine hcb.out.mono ?_
    rintro e w8 ⟨rfl, hb8⟩
    have hb08 := Hb7.out.trans (hb8.mono Hb7.out.size)
    go_wp2_with fail
    go_ret
    exact ⟨rfl, hb08⟩
  · exact absurd Hex.out.1 h
end Go.Proofs.Ytjjmnjgkodiibaa
