/- The walk of JoinKeeps: it returns true, and turns nothing that was there. -/
import Derived.Test.YtghaffafglfdlaaJoL
import Derived.Test.YtghaffafglfdlaaBlF
namespace Go.Proofs.Ytghaffafglfdlaa
open Go.RowKit

attribute [local go_sem ↓] Go.wp_at_zero Go.wp_at_succ

theorem EvalsB : ElemT Try.prog 27 30 3 32 (.agg #[.int .u8 0, .int .i64 0, .string ⟨#[]⟩]) := ElemT.mk' (by kernel_rfl) (by kernel_rfl) rfl (by omega)
theorem rcells_single (v : Va) : rcells [v] = [.int .u8 v.k, .int .i64 v.n, .string (St8 v.s)] := rfl
theorem Rows.snoc {w : World} {hs : List Value} {rs : List RowM} (h : Rows w hs rs) {A : Option Addr} {r : RowM} {c : Nat} (h1 : r.length ≤ c) (h2 : c ≤ maxLen) (hr : Rd w A (rcells r)) (hok : ∀ v ∈ r, v.ok) : Rows w (hs ++ [.slice A r.length c]) (rs ++ [r]) :=
  ⟨by rw [List.length_append, List.length_append, h.len]; rfl, fun i q hi => by
    rw [List.getElem?_append] at hi
    split at hi
    · obtain ⟨A', c', g1, g2⟩ := h.at_ i q hi
      exact ⟨A', c', by rw [List.getElem?_append_left (List.getElem?_eq_some_iff.1 g1).1]; exact g1, g2⟩
    · rename_i hlt
      have e : i = rs.length := by
        have := (List.getElem?_eq_some_iff.1 hi).1
        simp at this
        omega
      subst e
      simp at hi
      subst hi
      exact ⟨A, c, by rw [← h.len]; simp, h1, h2, hr, hok⟩⟩
theorem Own.rcl {w : World} {B n c : Nat} {A : Option Addr} {vs : List Va} (h : Own w B 30 3 A n c (rcells vs)) : vs.length = n := by
  have := h.1
  rw [rcells_len] at this
  omega

/-! The plain law. -/
theorem kept_same (rs : List RowM) (col : Int) (m n : Nat) (vs : List Va) (hm : 0 < m) : keptRows rs col m n (addB m n vs) = keptRows rs col m n (bitsB m n vs) := by
  unfold keptRows
  congr 1
  funext r
  rw [may_same m n vs hm]
theorem nestRow_none (l r : Int) (x : RowM) (b : List RowM) (m n : Nat) (hm : 0 < m) (h : (decide ((colAt x l).k ≠ 0) && mayB m n (colAt x l) (addB m n (colVals b r))) = false) : nestRow l r x b = [] := by
  unfold nestRow
  rw [List.map_eq_nil_iff, List.filter_eq_nil_iff]
  intro y hy hg
  unfold goes at hg
  have hg := of_decide_eq_true hg
  unfold eqV at hg
  split at hg
  · cases hg
  · rename_i hk
    split at hg
    · rename_i he
      have hx : (colAt x l).k ≠ 0 := fun e => hk (.inl e)
      have hmem : colAt x l ∈ colVals b r := by
        unfold colVals
        rw [List.mem_filter]
        refine ⟨?_, by simpa using hx⟩
        rw [he]
        exact List.mem_map.2 ⟨y, hy, rfl⟩
      rw [may_mem m n _ hm _ hmem] at h
      simp [hx] at h
    · cases hg
theorem nested_kept (l r : Int) (b : List RowM) (m n : Nat) (hm : 0 < m) : ∀ a : List RowM, nested (keptRows a l m n (addB m n (colVals b r))) b l r = nested a b l r
  | [] => rfl
  | x :: a => by
    have ih := nested_kept l r b m n hm a
    unfold nested keptRows at *
    rw [List.filter_cons]
    by_cases h : (decide ((colAt x l).k ≠ 0) && mayB m n (colAt x l) (addB m n (colVals b r))) = true
    · rw [if_pos h, List.flatMap_cons, List.flatMap_cons, ih]
    · rw [if_neg h, List.flatMap_cons, ih, nestRow_none l r x b m n hm (Bool.eq_false_iff.2 h), List.nil_append]

set_option maxHeartbeats 8000000 in
set_option maxRecDepth 100000 in
theorem keeps_walk (ra rb : List RowM) (ha hb : List Value) (n c n' c' bi ea : Nat) (A A' : Option Addr) (left right : Int) (w : World) (hn : ra.length = n) (hn' : rb.length = n') (hnc : n ≤ c) (hc : c ≤ 9223372036854775807) (hnc' : n' ≤ c') (hc' : c' ≤ 9223372036854775807) (hA : Rd w A ha) (hA' : Rd w A' hb) (hRa : Rows w ha ra) (hRb : Rows w hb rb)
    (hbi : bi ≤ 65535) (hea : ea ≤ 255) :
    Calls Try.prog 5 #[.slice A n c, .slice A' n' c', .int .i64 left, .int .i64 right, .int .u16 (bi : Int), .int .u8 (ea : Int)] w fun e w' => e = .returned (.bool true) ∧ Below w.heap.size w w' := by
  have Hn := Lib.hid hn
  have Hn' := Lib.hid hn'
  clear hn hn'
  obtain ⟨M, hM, hM0, hM1⟩ : ∃ M : Nat, (bi : Int) % 8192 + 1 = (M : Int) ∧ 1 ≤ M ∧ M ≤ 8192 := ⟨bi % 8192 + 1, by omega, by omega, by omega⟩
  obtain ⟨E, hE, hE0, hE1⟩ : ∃ E : Nat, (ea : Int) % 8 + 1 = (E : Int) ∧ 1 ≤ E ∧ E ≤ 8 := ⟨ea % 8 + 1, by omega, by omega, by omega⟩
  go_enter Try.func5, Try.ntmps5
  go_wp2_with fail
  refine (shown_any w).mono ?_
  rintro e w1 ⟨rfl, hb1⟩
  have hA1 := hA.below hb1
  have hA1' := hA'.below hb1
  have hRa1 := hRa.below hb1
  have hRb1 := hRb.below hb1
  clear hA hA' hRa hRb
  go_wp2_with fail
  refine (few_c ra ha n c A w1 Hn.out hnc hc hA1 hRa1).mono ?_
  rintro e w2 ⟨⟨k, hkn, hk40, hsm, rfl⟩, hb2⟩
  have hA2 := hA1.below hb2
  have hA2' := hA1'.below hb2
  have hRa2 := hRa1.below hb2
  have hRb2 := hRb1.below hb2
  have hb02 := hb1.trans (hb2.mono hb1.size)
  clear hA1 hA1' hRa1 hRb1 hb1 hb2
  go_wp2_with fail
  refine (few_c rb hb n' c' A' w2 Hn'.out hnc' hc' hA2' hRb2).mono ?_
  rintro e w3 ⟨⟨k', hkn', hk40', hsm', rfl⟩, hb3⟩
  have hA3 : Rd w3 A (ha.take k) := rd_take (hA2.below hb3) k
  have hA3' : Rd w3 A' (hb.take k') := rd_take (hA2'.below hb3) k'
  have hRa3 := (hRa2.below hb3).take k
  have hRb3 := (hRb2.below hb3).take k'
  have hb03 := hb02.trans (hb3.mono hb02.size)
  have hk : (ra.take k).length = k := by rw [List.length_take, Hn.out]; omega
  have hk' : (rb.take k').length = k' := by rw [List.length_take, Hn'.out]; omega
  clear hA2 hA2' hRa2 hRb2 hb02 hb3
  generalize ra.take k = xa at *
  generalize rb.take k' = xb at *
  generalize ha.take k = ja at *
  generalize hb.take k' = jb at *
  have hs1 : ∀ r ∈ xa, r.length ≤ 1000 ∧ ∀ v ∈ r, rightV v = true := fun r hr => ⟨Nat.le_trans (small_len (hsm r hr)) (by omega), small_right (hsm r hr)⟩
  have hs2 : ∀ r ∈ xb, r.length ≤ 1000 ∧ ∀ v ∈ r, rightV v = true := fun r hr => ⟨Nat.le_trans (small_len (hsm' r hr)) (by omega), small_right (hsm' r hr)⟩
  have Hk := Lib.hid hk
  have Hk' := Lib.hid hk'
  have Hs1 := Lib.hid hs1
  have Hs2 := Lib.hid hs2
  have HA3 := Lib.hid hA3
  have HA3' := Lib.hid hA3'
  have HRa3 := Lib.hid hRa3
  have HRb3 := Lib.hid hRb3
  have Hb03 := Lib.hid hb03
  clear hk hk' hsm hsm' hs1 hs2 hA3 hA3' hRa3 hRb3 hb03
  go_wp2_with fail
  refine (filter_any xb jb k' c' A' right M E w3 Hk'.out HA3'.out HRb3.out (by omega) hM0 hM1 hE0 hE1 (fun x hx => (Hs2.out x hx).2)).mono ?_
  rintro e w4 ⟨F, G, rfl, hF4, hb4⟩
  have HF4 := Lib.hid hF4
  have Hb4 := Lib.hid hb4
  have hz4 := hb4.size
  clear hF4 hb4
  go_wp2_with fail
  refine (filter_no A' k' c' right E w4).mono ?_
  rintro e w4' ⟨rfl, rfl⟩
  go_wp2_with fail
  go_loopw [22, 72] (fun s i wr => ∃ (j q : Nat) (V : Option Addr) (d : Nat), j ≤ k' ∧ i = .int .i64 (j : Int) ∧ s = .slice V q d ∧ q ≤ j ∧ w4.heap.size ≤ wr.heap.size ∧ Hid (Own wr w4.heap.size 30 3 V q d (rcells (colVals (xb.take j) right)) ∧ Below w4.heap.size w4 wr)) (fun _ i _ => k' - (intOf i).toNat)
  case atStart => exact ⟨0, 0, none, 0, by omega, by go_num, rfl, by omega, Nat.le_refl _, Own.nil _ _ _ _, Below.refl _ _⟩
  case round =>
    obtain ⟨j, q, V, d, hj, rfl, rfl, hqj, hzr, hrest⟩ := hrel
    obtain ⟨hown, hbr⟩ := hrest.out
    by_cases hlt : j < k'
    · have hjl : j < xb.length := by rw [Hk'.out]; exact hlt
      have hb3r := Hb4.out.trans (hbr.mono hz4)
      obtain ⟨X, dx, hh1, hcc, hcm, hr, hok⟩ := HRb3.out.at_ j xb[j] (List.getElem?_eq_getElem hjl)
      obtain ⟨b, o, hAb, hh⟩ := (HA3'.out.below hb3r) (fun e => by rw [e] at hh1; simp at hh1)
      have c0 := hh j _ hh1
      have hnx := Lib.hid (colVals_take xb right hjl)
      have hr2 := hr.below hb3r
      have hat := at_ref xb[j] X xb[j].length dx right wr rfl hr2
      unfold Va.agg at hat
      generalize colAt xb[j] right = v at *
      generalize xb[j].length = xl at *
      subst hAb
      have Hat := Lib.hid hat
      have Hown := Lib.hid hown
      have Hbr := Lib.hid hbr
      clear hat hr2 hr hh hh1 hjl hok hcc hcm hb3r hrest hown hbr
      go_wp2_with fail
      refine Hat.out.mono ?_
      rintro e w5 ⟨rfl, hb5⟩
      have hbA : Below w5.heap.size w5 (w5.alloc (.cells #[.int .u8 v.k, .int .i64 v.n, .string (St8 v.s)] 30)) := (Below.refl _ _).alloc (Nat.le_refl _) _
      have hAl := Lib.hid (Blk.new w5 30 #[.int .u8 v.k, .int .i64 v.n, .string (St8 v.s)])
      have hbrA := hb5.trans (hbA.mono hb5.size)
      have hownA := Lib.hid (Hown.out.below hbrA)
      have hbWA := Lib.hid (Hbr.out.trans (hbrA.mono Hbr.out.size))
      clear hbA hb5 c0 Hat Hown Hbr hbrA
      by_cases hv0 : v.k = 0
      · have hne : (v.k == 0) = true := by simpa using hv0
        have hnx2 : Hid (colVals (xb.take (j + 1)) right = colVals (xb.take j) right) := Lib.hid (by rw [hnx.out, if_pos hv0, List.append_nil])
        rw [hv0] at hownA hbWA
        clear hnx
        go_wp2_with fail
        go_roundw
        case rel => exact ⟨j + 1, q, V, d, by omega, by go_num, rfl, by omega, hbWA.out.size, by rw [hnx2.out]; exact hownA.out, hbWA.out⟩
        case measure => first | (simp [intOf]; done) | (simp [intOf]; omega)
      · have hne : (v.k == 0) = false := by simpa using hv0
        have hnx2 : Hid (rcells (colVals (xb.take j) right) ++ [.int .u8 v.k, .int .i64 v.n, .string (St8 v.s)] = rcells (colVals (xb.take (j + 1)) right)) := Lib.hid (by rw [hnx.out, if_neg hv0, rcells_append, rcells_single])
        have l0 := hAl.out.cell 0
        have l1 := hAl.out.cell 1
        have l2 := hAl.out.cell 2
        simp only [List.getElem?_cons_zero, List.getElem?_cons_succ] at l0 l1 l2
        obtain ⟨W, hW⟩ : ∃ W, W = w5.alloc (.cells #[.int .u8 v.k, .int .i64 v.n, .string (St8 v.s)] 30) := ⟨_, rfl⟩
        have hbB : Below W.heap.size W (W.alloc (.cells #[.int .u8 v.k, .int .i64 v.n, .string (St8 v.s)] 30)) := (Below.refl _ _).alloc (Nat.le_refl _) _
        have hn6 := Lib.hid (Blk.new W 30 #[.int .u8 v.k, .int .i64 v.n, .string (St8 v.s)]).range
        have hown6 := Lib.hid (Own.below (by rw [hW]; exact hownA.out) hbB)
        have hbW' := hbWA.out
        rw [← hW] at hbW'
        have hb6 := Lib.hid (hbW'.trans (hbB.mono hbW'.size))
        subst hW
        have hn6' := hn6.out
        rw [World.size_alloc] at hn6'
        have Hn6 := Lib.hid hn6'
        clear hn6 hn6' hnx hbB hbW' hownA hbWA hAl
        go_wp2_with (first | (at_builtin; refine hold ?_) | (at_make; refine hold ?_))
        (with_reducible refine unhold ?_)
        refine wpList_apd rfl _ _ _ rfl EvalsB w4.heap.size _ q _ _ rfl hown6.out _ 1 _ [.int .u8 v.k, .int .i64 v.n, .string (St8 v.s)] rfl rfl (fun _ => ⟨_, _, rfl, Hn6.out⟩) (by simp [Value.oneCell']) (q + 1) rfl _ hnx2.out (by omega) (by omega) hb6.out.size ?_
        intro A7 c7 w7 ho7 hg7 _
        have hb7 := hb6.out.grown hg7 hb6.out.size hown6.out.row_ge
        clear hg7 hown6 Hn6 hb6 hnx2 l0 l1 l2
        go_wp2_with fail
        go_roundw
        case rel => exact ⟨j + 1, q + 1, A7, c7, by omega, by go_num, rfl, by omega, hb7.size, ho7, hb7⟩
        case measure => first | (simp [intOf]; done) | (simp [intOf]; omega)
    · obtain rfl : j = k' := by omega
      have hfull : xb.take j = xb := by rw [← Hk'.out]; exact List.take_length
      rw [hfull] at hown
      have hvl := hown.rcl
      have hvr : ∀ v ∈ colVals xb right, rightV v = true ∧ v.ok := by
        intro v hv
        obtain ⟨r, hr, rfl⟩ := List.mem_map.1 (List.mem_filter.1 hv).1
        refine ⟨colAt_right (Hs2.out r hr).2 right, ?_⟩
        obtain ⟨i, hi, rfl⟩ := List.getElem_of_mem hr
        obtain ⟨_, _, _, _, _, _, hok⟩ := HRb3.out.at_ i xb[i] (List.getElem?_eq_getElem hi)
        exact colAt_ok hok right
      have hks := Lib.hid (kept_same xa left M E (colVals xb right) (by omega))
      have hnk := Lib.hid (nested_kept left right xb M E (by omega) xa)
      have hbits := Lib.hid (bits_any M E q (colVals xb right) V d wr hvl (by omega) hown.rd hM0 hM1 hE1 hvr)
      have hmlen : Hid ((bitsB M E (colVals xb right)).length = (M + 7) / 8) := by show _ = _; unfold bitsB; rw [packN_len, List.length_replicate]
      have HF := Lib.hid (HF4.out.below hbr)
      have Hbr := Lib.hid (Hb4.out.trans (hbr.mono hz4))
      generalize bitsB M E (colVals xb right) = made at *
      generalize addB M E (colVals xb right) = added at *
      clear hfull hvl hvr hrest hown hbr HF4 Hb4 hz4
      go_wp2_with fail
      refine hbits.out.mono ?_
      rintro e w5 ⟨Gm, rfl, hG5, hb5⟩
      have HF5 := Lib.hid (HF.out.below hb5)
      have HG5 := Lib.hid hG5
      have Hb5 := Lib.hid (Hbr.out.trans (hb5.mono Hbr.out.size))
      have hz5 := Hb5.out.size
      clear hbits hG5 hb5 HF Hbr
      go_wp2_with fail
      go_loopw [27, 93] (fun s i wr => ∃ (t g : Nat) (V : Option Addr) (d : Nat) (hs' : List Value), t ≤ k ∧ i = .int .i64 (t : Int) ∧ s = .slice V g d ∧ g ≤ t ∧ w5.heap.size ≤ wr.heap.size ∧ Hid ((keptRows (xa.take t) left M E made).length = g ∧ Own wr w5.heap.size 28 1 V g d hs' ∧ Rows w3 hs' (keptRows (xa.take t) left M E made) ∧ Below w5.heap.size w5 wr)) (fun _ i _ => k - (intOf i).toNat)
      case atStart => exact ⟨0, 0, none, 0, [], by omega, by go_num, rfl, by omega, Nat.le_refl _, rfl, Own.nil _ _ _ _, Rows.nil _, Below.refl _ _⟩
      case round =>
        obtain ⟨t, g, V', d', hs', ht, rfl, rfl, hgt, hzr', hrest⟩ := hrel
        obtain ⟨hgl, hown, hrows, hbr⟩ := hrest.out
        by_cases hlt2 : t < k
        · have hjl : t < xa.length := by rw [Hk.out]; exact hlt2
          have hb3r := Hb5.out.trans (hbr.mono hz5)
          obtain ⟨X, dx, hh1, hcc, hcm, hr, hok⟩ := HRa3.out.at_ t xa[t] (List.getElem?_eq_getElem hjl)
          obtain ⟨b, o, hAb, hh⟩ := (HA3.out.below hb3r) (fun e => by rw [e] at hh1; simp at hh1)
          have c0 := hh t _ hh1
          have hnx := Lib.hid (keptRows_take xa left M E made hjl)
          have hr2 := hr.below hb3r
          have hvr := Lib.hid (colAt_right (Hs1.out xa[t] (List.getElem_mem hjl)).2 left)
          have hat := at_ref xa[t] X xa[t].length dx left wr rfl hr2
          have hvok := Lib.hid (colAt_ok hok left)
          have Hok := Lib.hid hok
          have Hcc := Lib.hid (And.intro hcc hcm)
          unfold Va.agg at hat
          generalize colAt xa[t] left = v at *
          generalize xa[t] = x at *
          generalize hxx : x.length = xl at *
          have Hxx := Lib.hid hxx
          subst hAb
          have Hat := Lib.hid hat
          have Hown := Lib.hid hown
          have Hbr := Lib.hid hbr
          have Hrows := Lib.hid hrows
          have Hgl := Lib.hid hgl
          have Hr2 := Lib.hid hr
          clear hat hr2 hr hh hh1 hjl hok hcc hcm hb3r hrest hown hbr hxx hrows hgl
          go_wp2_with fail
          refine Hat.out.mono ?_
          rintro e w6 ⟨rfl, hb6⟩
          have hbA : Below w6.heap.size w6 (w6.alloc (.cells #[.int .u8 v.k, .int .i64 v.n, .string (St8 v.s)] 30)) := (Below.refl _ _).alloc (Nat.le_refl _) _
          have hAl := Lib.hid (Blk.new w6 30 #[.int .u8 v.k, .int .i64 v.n, .string (St8 v.s)])
          have hbrA := hb6.trans (hbA.mono hb6.size)
          have hownA := Lib.hid (Hown.out.below hbrA)
          have hbWA := Lib.hid (Hbr.out.trans (hbrA.mono Hbr.out.size))
          clear hbA hb6 c0 Hat Hown Hbr hbrA
          by_cases hv0 : v.k = 0
          · have hne : (v.k == 0) = true := by simpa using hv0
            have hnx2 : Hid (keptRows (xa.take (t + 1)) left M E made = keptRows (xa.take t) left M E made) := Lib.hid (by rw [hnx.out]; simp [hv0])
            rw [hv0] at hownA hbWA
            clear hnx
            go_wp2_with fail
            go_roundw
            case rel => exact ⟨t + 1, g, V', d', hs', by omega, by go_num, rfl, by omega, hbWA.out.size, by rw [hnx2.out]; exact Hgl.out, hownA.out, by rw [hnx2.out]; exact Hrows.out, hbWA.out⟩
            case measure => first | (simp [intOf]; done) | (simp [intOf]; omega)
          · have hne : (v.k == 0) = false := by simpa using hv0
            have hmay := Lib.hid (rmay_any M E ((M + 7) / 8) Gm made v _ (HG5.out.below hbWA.out) hmlen.out (by omega) hM0 hM1 hE1 (by omega) hvr.out hvok.out)
            have l0 := hAl.out.cell 0
            have l1 := hAl.out.cell 1
            have l2 := hAl.out.cell 2
            simp only [List.getElem?_cons_zero, List.getElem?_cons_succ] at l0 l1 l2
            unfold Va.agg at hmay
            by_cases hm : mayB M E v made = true
            · have hnx2 : Hid (keptRows (xa.take (t + 1)) left M E made = keptRows (xa.take t) left M E made ++ [x]) := Lib.hid (by rw [hnx.out]; simp [hv0, hm])
              rw [hm] at hmay
              clear hnx
              go_wp2_with fail
              refine hmay.out.mono ?_
              rintro e w7 ⟨rfl, hb7⟩
              have hbB : Below w7.heap.size w7 (w7.alloc (.cells #[.slice X xl dx] 28)) := (Below.refl _ _).alloc (Nat.le_refl _) _
              have hb7B := hb7.trans (hbB.mono hb7.size)
              have hn8 := Lib.hid (Blk.new w7 28 #[.slice X xl dx]).range
              have hown8 := Lib.hid (hownA.out.below hb7B)
              have hb8 := Lib.hid (hbWA.out.trans (hb7B.mono hbWA.out.size))
              have hrw8 := Hrows.out.snoc (A := X) (r := x) (c := dx) (by rw [Hxx.out]; exact Hcc.out.1) Hcc.out.2 Hr2.out Hok.out
              rw [Hxx.out] at hrw8
              have Hrw8 := Lib.hid hrw8
              clear hbB hb7B hb7 hrw8 hownA Hrows Hr2 hbWA l0 l1 l2 hmay hAl
              go_wp2_with (first | (at_builtin; refine hold ?_) | (at_make; refine hold ?_))
              (with_reducible refine unhold ?_)
              refine wpList_apd rfl _ _ _ rfl Erow w5.heap.size _ g _ _ rfl hown8.out _ 1 _ [.slice X xl dx] rfl rfl (fun _ => ⟨_, _, rfl, hn8.out⟩) (by simp [Value.oneCell']) (g + 1) rfl _ rfl (by omega) (by omega) hb8.out.size ?_
              intro A9 c9 w9 ho9 hg9 _
              have hb9 := hb8.out.grown hg9 hb8.out.size hown8.out.row_ge
              clear hg9 hown8 hn8 hb8
              go_wp2_with fail
              go_roundw
              case rel => exact ⟨t + 1, g + 1, A9, c9, _, by omega, by go_num, rfl, by omega, hb9.size, by rw [hnx2.out, List.length_append, Hgl.out]; rfl, ho9, by rw [hnx2.out]; exact Hrw8.out, hb9⟩
              case measure => first | (simp [intOf]; done) | (simp [intOf]; omega)
            · have hm' := Bool.eq_false_iff.2 hm
              have hnx2 : Hid (keptRows (xa.take (t + 1)) left M E made = keptRows (xa.take t) left M E made) := Lib.hid (by rw [hnx.out]; simp [hm'])
              rw [hm'] at hmay
              clear hnx
              go_wp2_with fail
              refine hmay.out.mono ?_
              rintro e w7 ⟨rfl, hb7⟩
              have hb8 := Lib.hid (hbWA.out.trans (hb7.mono hbWA.out.size))
              have hown8 := Lib.hid (hownA.out.below hb7)
              clear hb7 l0 l1 l2 hmay hAl hownA hbWA
              go_wp2_with fail
              go_roundw
              case rel => exact ⟨t + 1, g, V', d', hs', by omega, by go_num, rfl, by omega, hb8.out.size, by rw [hnx2.out]; exact Hgl.out, hown8.out, by rw [hnx2.out]; exact Hrows.out, hb8.out⟩
              case measure => first | (simp [intOf]; done) | (simp [intOf]; omega)
        · obtain rfl : t = k := by omega
          have hfull2 : xa.take t = xa := by rw [← Hk.out]; exact List.take_length
          rw [hfull2] at hgl hrows
          have hb3r := Hb5.out.trans (hbr.mono hz5)
          have hkeep := keep_any xa ja t c g A left w3.heap.size F G M E added wr Hk.out (HA3.out.below hb3r) (HRa3.out.below hb3r) (by omega) (HF5.out.below hbr) Hs1.out (by rw [hks.out]; exact hgl)
          rw [hks.out] at hkeep hnk
          have Hkeep := Lib.hid hkeep
          have Hown := Lib.hid hown.rd
          have Hrows := Lib.hid hrows
          have Hgl := Lib.hid hgl
          have Hb3r := Lib.hid hb3r
          have Hkl := Lib.hid (keptRows_le xa left M E made)
          have Hks1 : Hid (∀ x ∈ keptRows xa left M E made, x.length ≤ 1000) := Lib.hid (fun x hx => (Hs1.out x (List.mem_filter.1 hx).1).1)
          have Hs1a : Hid (∀ x ∈ xa, x.length ≤ 1000) := Lib.hid (fun x hx => (Hs1.out x hx).1)
          have Hs2a : Hid (∀ x ∈ xb, x.length ≤ 1000) := Lib.hid (fun x hx => (Hs2.out x hx).1)
          have hrl := Lib.hid (nested_rows (l := left) (r := right) Hs1a.out Hs2a.out)
          have hcount : (nested xa xb left right).length ≤ 1600 := Nat.le_trans (nested_le xb left right xa) (by rw [Hk.out, Hk'.out]; exact Nat.le_trans (Nat.mul_le_mul hk40 hk40') (by omega))
          have Hcount := Lib.hid hcount
          generalize keptRows xa left M E made = ka at *
          clear hfull2 hkeep hown hrows hgl hb3r hrest hks hcount hbr HF5 HG5 Hb5 hzr' hz5
          go_wp2_with fail
          refine Hkeep.out.mono ?_
          rintro e w7 ⟨O, oc, oh, rfl, hO, hOR, hb7⟩
          have Hb7 := Lib.hid (Hb3r.out.trans (hb7.mono Hb3r.out.size))
          have hs7 := samerows_any ka ka oh hs' g g O V' oc d' w7 Hgl.out Hgl.out hO.rd (Hown.out.below hb7) hOR.rows (Hrows.out.below Hb7.out) (by omega) (by omega) (fun r hr => Nat.le_trans (Hks1.out r hr) (by omega)) (fun r hr => Nat.le_trans (Hks1.out r hr) (by omega))
          rw [decide_eq_true rfl] at hs7
          have Hs7 := Lib.hid hs7
          have HO := Lib.hid (And.intro hO.rd hOR.rows)
          clear hs7 hO hOR hb7 Hkeep Hown
          go_wp2_with fail
          refine Hs7.out.mono ?_
          rintro e w8 ⟨rfl, q8, hq8⟩
          have hb78 : Below w7.heap.size w7 w8 := by rw [← hq8]; exact below_drewN' (Below.refl _ _) q8
          have Hb8 := Lib.hid (Hb7.out.trans (hb78.mono Hb7.out.size))
          have hn8 := nested_any ka xb oh jb g oc j c' O A' left right w8 Hgl.out Hk'.out (HO.out.1.below hb78) (HA3'.out.below Hb8.out) (HO.out.2.below hb78) (HRb3.out.below Hb8.out) (by omega) (by omega) Hks1.out Hs2a.out
          rw [hnk.out] at hn8
          have Hn8 := Lib.hid hn8
          clear hq8 hb78 hn8 Hs7 HO
          go_wp2_with fail
          refine Hn8.out.mono ?_
          rintro e w9 ⟨P1, pc1, ph1, L1, rfl, hL1, hP1, hPR1, hb9⟩
          have Hb9 := Lib.hid (Hb8.out.trans (hb9.mono Hb8.out.size))
          have HP1 := Lib.hid (And.intro hP1.rd hPR1.rows)
          have HL1 := Lib.hid hL1
          clear hb9 hP1 hPR1 hL1 Hn8 Hb8
          go_wp2_with fail
          refine (rnested_any xa xb ja jb t c j c' A A' left right w9 Hk.out Hk'.out (HA3.out.below Hb9.out) (HA3'.out.below Hb9.out) (HRa3.out.below Hb9.out) (HRb3.out.below Hb9.out) (by omega) (by omega) Hs1a.out Hs2a.out).mono ?_
          rintro e w10 ⟨O2, oc2, oh2, L2, rfl, hL2, hO2, hOR2, hb10⟩
          obtain rfl : L2 = L1 := by rw [← hL2, ← HL1.out]
          have hL16 : L2 ≤ 1600 := by rw [← hL2]; exact Hcount.out
          have hs10 := samerows_any (nested xa xb left right) (nested xa xb left right) ph1 oh2 L2 L2 P1 O2 pc1 oc2 w10 hL2 hL2 (HP1.out.1.below hb10) hO2.rd (HP1.out.2.below hb10) hOR2.rows (by omega) (by omega) (fun r hr => Nat.le_trans (hrl.out r hr) (by omega)) (fun r hr => Nat.le_trans (hrl.out r hr) (by omega))
          rw [decide_eq_true rfl] at hs10
          have Hs10 := Lib.hid hs10
          have Hb10 := Lib.hid (Hb9.out.trans (hb10.mono Hb9.out.size))
          clear hs10 hO2 hOR2 hb10 hL2
          go_wp2_with fail
          refine Hs10.out.mono ?_
          rintro e w11 ⟨rfl, q11, rfl⟩
          go_wp2_with fail
          go_ret
          exact ⟨rfl, below_drewN' (Hb03.out.trans (Hb10.out.mono Hb03.out.size)) q11⟩
end Go.Proofs.Ytghaffafglfdlaa
