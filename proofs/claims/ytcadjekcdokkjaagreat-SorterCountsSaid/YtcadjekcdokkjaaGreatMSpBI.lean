/- Walks: rows as bytes, both ways; whether all values may be. Walks: whether a row has a value that may not be; the bytes of all rows. -/
import Derived.Test.YtcadjekcdokkjaaGreatMSpSMH
import Derived.Test.YtcadjekcdokkjaaGreatMOcR
import Derived.Shelf.Abstract
namespace Go.Proofs.YtcadjekcdokkjaaGreat
set_option linter.unusedVariables false
set_option linter.unusedSimpArgs false
open Go.RowKit
attribute [local go_sem ↓] Go.wp_at_zero Go.wp_at_succ
set_option maxRecDepth 100000 in
theorem bytes_any (r : RowM) (n c : Nat) (A : Option Addr) (w : World) (hn : r.length = n) (hr : Rd w A (rcells r)) (h32 : n ≤ 32) (hall : ∀ v ∈ r, rightV v = true) (hok : ∀ v ∈ r, v.ok) :
  Calls Tryz.prog 114 #[.slice A n c] w fun e w' => ∃ A' L c', e = .returned (.slice A' L c') ∧ (rowB r).length = L ∧ Own w' w.heap.size 5 1 A' L c' (Bs (rowB r)) ∧ Below w.heap.size w w' := by
 have Hn := Lib.hid hn
 have Hall := Lib.hid hall
 have Hok := Lib.hid hok
 have hnum := Lib.hid (onum_any [] 0 0 n none w rfl (Rd.nil _ _) (by omega) (by omega))
 have hnl := numB_len (n := n) (by omega)
 have HnB : Hid (numB r.length = numB n) := by rw [hn]; rfl
 clear hn hall hok
 go_enter Tryz.func114, Tryz.ntmps114
 go_wp2_with fail
 refine hnum.out.mono ?_
 rintro e w1 ⟨A1, c1, rfl, ho1, hb1⟩
 rw [Nat.zero_add, List.nil_append] at ho1
 rw [Nat.zero_add]
 generalize hN : (numB n).length = N at *
 have HN := Lib.hid hN
 clear hN
 go_wp2_with fail
 go_loopw [3, 12] (fun b i wr => ∃ (j L : Nat) (E : Option Addr) (d : Nat), j ≤ n ∧ L ≤ 9 + 1034 * j ∧ i = .int .i64 j ∧ b = .slice E L d ∧ Hid ((numB r.length ++ (r.take j).flatMap vput).length = L) ∧
   Own wr w.heap.size 5 1 E L d (Bs (numB r.length ++ (r.take j).flatMap vput)) ∧ Below w.heap.size w wr) (fun _ i _ => n - (intOf i).toNat)
 case atStart =>
  refine ⟨0, N, A1, c1, by omega, by omega, rfl, rfl, ?_, ?_, hb1⟩
  ·show _ = _
   rw [List.take_zero, List.flatMap_nil, List.append_nil, HnB.out]
   exact HN.out
  ·rw [List.take_zero, List.flatMap_nil, List.append_nil, HnB.out]
   exact ho1
 case round =>
  obtain ⟨j, L, E, d, hj, hL, rfl, rfl, hlen, hown, hb⟩ := hrel
  by_cases hlt : j < n
  ·have hjl : j < r.length := by rw [Hn.out]; exact hlt
   obtain ⟨gb, go', rfl, k0, k1, k2⟩ := row_cells (hr.below hb) hjl
   have hnext := Lib.hid (rowB_take hjl)
   have hv1 := Hall.out _ (List.getElem_mem hjl)
   have hv2 := Hok.out _ (List.getElem_mem hjl)
   generalize r[j] = v at *
   have hvl := vput_le hv1 hv2
   generalize hX : numB r.length ++ (r.take j).flatMap vput = X at *
   have hcp := Lib.hid (fun (w' : World) (h : Rd w' E (Bs X)) => cput_any X L d v E w' hlen.out h (by omega) hv1 hv2)
   unfold Va.agg at hcp
   have hlen2 : Hid ((X ++ vput v).length = L + (vput v).length) := by show _ = _; rw [List.length_append, hlen.out]
   have hrd := hown.rd
   have Hown := Lib.hid hown
   clear hr hjl hv1 hv2 hX hown
   generalize hV : (vput v).length = V at *
   clear hV
   go_wp2_with fail
   refine (hcp.out _ (hrd.alloc _)).mono ?_
   rintro e w2 ⟨A2, c2, rfl, ho2, hb2⟩
   have hsz := hb.size
   have hb0 : Below w.heap.size w w2 := (hb.alloc (by omega) _).trans (hb2.mono (by simp; omega))
   go_wp2_with fail
   go_roundw
   case rel =>
    refine ⟨j + 1, L + V, A2, c2, by omega, by omega, by go_num, rfl, ?_, ?_, hb0⟩
    ·show _ = _
     rw [hnext.out]
     exact hlen2.out
    ·rw [hnext.out]
     exact Own.base ho2 (by simp; omega)
   case measure => simp [intOf]; omega
  ·obtain rfl : j = n := by omega
   have htk : r.take j = r := List.take_of_length_le (by rw [Hn.out]; exact Nat.le_refl _)
   rw [htk] at hlen hown
   go_wp2_with fail
   go_ret
   exact ⟨E, L, d, rfl, hlen.out, hown, hb⟩
set_option maxRecDepth 100000 in
theorem rrow_any (r : RowM) (n c : Nat) (A : Option Addr) (w : World) (hn : r.length = n) (hr : Rd w A (rcells r)) (h32 : n ≤ 32) (hall : ∀ v ∈ r, rightV v = true) (hok : ∀ v ∈ r, v.ok) :
  Calls Tryz.prog 43 #[.slice A n c] w fun e w' => ∃ A' L c', e = .returned (.slice A' L c') ∧ (rowB r).length = L ∧ Own w' w.heap.size 5 1 A' L c' (Bs (rowB r)) ∧ Below w.heap.size w w' := by
 have Hn := Lib.hid hn
 have Hall := Lib.hid hall
 have Hok := Lib.hid hok
 have hnum := Lib.hid (rnum_any [] 0 0 n none w rfl (Rd.nil _ _) (by omega) (by omega))
 have hnl := numB_len (n := n) (by omega)
 have HnB : Hid (numB r.length = numB n) := by rw [hn]; rfl
 clear hn hall hok
 go_enter Tryz.func43, Tryz.ntmps43
 go_wp2_with fail
 refine hnum.out.mono ?_
 rintro e w1 ⟨A1, c1, rfl, ho1, hb1⟩
 rw [Nat.zero_add, List.nil_append] at ho1
 rw [Nat.zero_add]
 generalize hN : (numB n).length = N at *
 have HN := Lib.hid hN
 clear hN
 go_wp2_with fail
 go_loopw [3, 4] (fun b i wr => ∃ (j L : Nat) (E : Option Addr) (d : Nat), j ≤ n ∧ L ≤ 9 + 1034 * j ∧ i = .int .i64 j ∧ b = .slice E L d ∧ Hid ((numB r.length ++ (r.take j).flatMap vput).length = L) ∧
   Own wr w.heap.size 5 1 E L d (Bs (numB r.length ++ (r.take j).flatMap vput)) ∧ Below w.heap.size w wr) (fun _ i _ => n - (intOf i).toNat)
 case atStart =>
  refine ⟨0, N, A1, c1, by omega, by omega, rfl, rfl, ?_, ?_, hb1⟩
  ·show _ = _
   rw [List.take_zero, List.flatMap_nil, List.append_nil, HnB.out]
   exact HN.out
  ·rw [List.take_zero, List.flatMap_nil, List.append_nil, HnB.out]
   exact ho1
 case round =>
  obtain ⟨j, L, E, d, hj, hL, rfl, rfl, hlen, hown, hb⟩ := hrel
  by_cases hlt : j < n
  ·have hjl : j < r.length := by rw [Hn.out]; exact hlt
   obtain ⟨gb, go', rfl, k0, k1, k2⟩ := row_cells (hr.below hb) hjl
   have hnext := Lib.hid (rowB_take hjl)
   have hv1 := Hall.out _ (List.getElem_mem hjl)
   have hv2 := Hok.out _ (List.getElem_mem hjl)
   generalize r[j] = v at *
   have hvl := vput_le hv1 hv2
   generalize hX : numB r.length ++ (r.take j).flatMap vput = X at *
   have hcp := Lib.hid (fun (w' : World) (h : Rd w' E (Bs X)) => rput_any X L d v E w' hlen.out h (by omega) hv1 hv2)
   unfold Va.agg at hcp
   have hlen2 : Hid ((X ++ vput v).length = L + (vput v).length) := by show _ = _; rw [List.length_append, hlen.out]
   have hrd := hown.rd
   have Hown := Lib.hid hown
   clear hr hjl hv1 hv2 hX hown
   generalize hV : (vput v).length = V at *
   clear hV
   go_wp2_with fail
   refine (hcp.out _ hrd).mono ?_
   rintro e w2 ⟨A2, c2, rfl, ho2, hb2⟩
   have hsz := hb.size
   have hb0 : Below w.heap.size w w2 := hb.trans (hb2.mono hsz)
   go_wp2_with fail
   go_roundw
   case rel =>
    refine ⟨j + 1, L + V, A2, c2, by omega, by omega, by go_num, rfl, ?_, ?_, hb0⟩
    ·show _ = _
     rw [hnext.out]
     exact hlen2.out
    ·rw [hnext.out]
     exact Own.base ho2 hsz
   case measure => simp [intOf]; omega
  ·obtain rfl : j = n := by omega
   have htk : r.take j = r := List.take_of_length_le (by rw [Hn.out]; exact Nat.le_refl _)
   rw [htk] at hlen hown
   go_wp2_with fail
   go_ret
   exact ⟨E, L, d, rfl, hlen.out, hown, hb⟩
end Go.Proofs.YtcadjekcdokkjaaGreat
namespace Go.Proofs.YtcadjekcdokkjaaGreat
set_option linter.unusedVariables false
set_option linter.unusedSimpArgs false
open Go.RowKit
attribute [local go_sem ↓] Go.wp_at_zero Go.wp_at_succ
theorem bad_any (v : Va) (w : World) : Calls Tryz.prog 112 #[v.agg] w fun e w' => e = .returned (.bool (!rightV v)) ∧ Below w.heap.size w w' := by
 have hri := Lib.hid (fun w' => cright_any v w')
 obtain ⟨k, n, s⟩ := v
 unfold Va.agg at *
 dsimp only at *
 generalize rightV ⟨k, n, s⟩ = R at *
 go_enter Tryz.func112, Tryz.ntmps112
 go_wp2_with fail
 refine (hri.out _).mono ?_
 rintro e w1 ⟨rfl, hb1⟩
 have hb0 : Below w.heap.size w (w.alloc (.cells #[.int .u8 k, .int .i64 n, .string (St8 s)] 38)) := (Below.refl _ _).alloc (Nat.le_refl _) _
 have h01 := hb0.trans (hb1.mono hb0.size)
 go_wp2_with fail
 go_ret
 exact ⟨rfl, h01⟩
set_option maxRecDepth 100000 in
theorem rowindex_any (r : RowM) (n c : Nat) (A : Option Addr) (w : World) (hn : r.length = n) (hr : Rd w A (rcells r)) (h32 : n ≤ 1000000) :
  Calls Tryz.prog 126 #[.slice A n c, .func (.func 112) #[] #[]] w fun e w' => (∃ i : Int, e = .returned (.int .i64 i) ∧ (decide (0 ≤ i) = !r.all rightV) ∧ i ≤ 1000000) ∧ Below w.heap.size w w' := by
 have eg : ∀ args w, (callFunc 112 args).run Tryz.prog w = .ok (.enter 112 args) w := Go.Proofs.enters_of Tryz.func112 (by kernel_rfl) rfl
 have Hn := Lib.hid hn
 clear hn
 go_enter Tryz.func126, Tryz.ntmps126
 go_wp2_with fail
 go_loopw [8] (fun i wr => ∃ j : Nat, j ≤ n ∧ i = .int .i64 j ∧ Below w.heap.size w wr ∧ Hid (∀ v ∈ r.take j, rightV v = true)) (fun i _ => n - (intOf i).toNat)
 case atStart => exact ⟨0, by omega, rfl, Below.refl _ _, fun v h => by simp at h⟩
 case round =>
  obtain ⟨j, hj, rfl, hb, hall⟩ := hrel
  by_cases hlt : j < n
  ·have hjl : j < r.length := by rw [Hn.out]; exact hlt
   obtain ⟨b, o, rfl, c0, c1, c2⟩ := row_cells (hr.below hb) hjl
   have htk := Lib.hid (List.take_succ_eq_append_getElem (l := r) (i := j) hjl)
   have hmem := Lib.hid (List.getElem_mem hjl)
   generalize r[j] = v at *
   have hri := bad_any v wr
   unfold Va.agg at hri
   clear hr hjl
   cases hrv : rightV v
   ·rw [hrv] at hri
    have hf : Hid (r.all rightV = false) := by
     show _ = _
     rw [List.all_eq_false]
     exact ⟨v, hmem.out, by rw [hrv]; simp⟩
    have Hri := Lib.hid hri
    clear hri hrv
    go_wp2_with fail
    refine Hri.out.mono ?_
    rintro e w2 ⟨rfl, hb2⟩
    go_wp2_with fail
    go_ret
    rw [hf.out]
    exact ⟨⟨_, rfl, by simp, by omega⟩, hb.trans (hb2.mono hb.size)⟩
   ·rw [hrv] at hri
    have Hri := Lib.hid hri
    have Hrv := Lib.hid hrv
    clear hri hrv
    go_wp2_with fail
    refine Hri.out.mono ?_
    rintro e w2 ⟨rfl, hb2⟩
    go_wp2_with fail
    go_roundw
    case rel =>
     refine ⟨j + 1, by omega, by go_num, hb.trans (hb2.mono hb.size), fun u hu => ?_⟩
     rw [htk.out] at hu
     rcases List.mem_append.1 hu with hu | hu
     ·exact hall.out u hu
     ·rw [List.mem_singleton.1 hu]; exact Hrv.out
    case measure => simp [intOf]; omega
  ·obtain rfl : j = n := by omega
   have hf : Hid (r.all rightV = true) := by
    show _ = _
    refine List.all_eq_true.2 fun u hu => hall.out u ?_
    rw [List.take_of_length_le (by rw [Hn.out]; exact Nat.le_refl _)]
    exact hu
   go_wp2_with fail
   go_ret
   rw [hf.out]
   exact ⟨⟨_, rfl, by simp, by omega⟩, hb⟩
theorem rowbad_any (r : RowM) (n c : Nat) (A : Option Addr) (w : World) (hn : r.length = n) (hr : Rd w A (rcells r)) (h32 : n ≤ 1000000) :
  Calls Tryz.prog 111 #[.slice A n c, .func (.func 112) #[] #[]] w fun e w' => e = .returned (.bool (!r.all rightV)) ∧ Below w.heap.size w w' := by
 have hi := Lib.hid (rowindex_any r n c A w hn hr h32)
 generalize r.all rightV = R at *
 clear hn hr
 go_enter Tryz.func111, Tryz.ntmps111
 go_wp2_with fail
 refine hi.out.mono ?_
 rintro e w1 ⟨⟨i, rfl, hd, hi6⟩, hb1⟩
 go_wp2_with fail
 go_ret
 exact ⟨rfl, hb1⟩
set_option maxRecDepth 100000 in
theorem rbytes_any (rs : List RowM) (hs : List Value) (n c : Nat) (X : Option Addr) (w : World) (hn : rs.length = n) (hX : Rd w X hs) (hR : Rows w hs rs) (hn9 : n ≤ 1000) (hmay : ∀ r ∈ rs, mayR r = 0) :
  Calls Tryz.prog 19 #[.slice X n c] w fun e w' => ∃ A' L c', e = .returned (.slice A' L c') ∧ (rowsB rs).length = L ∧ Own w' w.heap.size 5 1 A' L c' (Bs (rowsB rs)) ∧ Below w.heap.size w w' := by
 have Hn := Lib.hid hn
 have Hmay := Lib.hid hmay
 clear hn hmay
 go_enter Tryz.func19, Tryz.ntmps19
 go_wp2_with fail
 go_loopw [3, 4] (fun m i wr => ∃ (j L : Nat) (E : Option Addr) (d : Nat), j ≤ n ∧ L ≤ 33097 * j ∧ i = .int .i64 j ∧ m = .slice E L d ∧ Hid ((rowsB (rs.take j)).length = L) ∧ Own wr w.heap.size 5 1 E L d (Bs (rowsB (rs.take j))) ∧ Below w.heap.size w wr) (fun _ i _ => n - (intOf i).toNat)
 case atStart => exact ⟨0, 0, none, 0, by omega, by omega, rfl, rfl, rfl, Own.nil _ _ _ _, Below.refl _ _⟩
 case round =>
  obtain ⟨j, L, E0, d0, hj, hL, rfl, rfl, hlen, hown, hb⟩ := hrel
  by_cases hlt : j < n
  ·have hjl : j < rs.length := by rw [Hn.out]; exact hlt
   have hRj := hR.below hb
   obtain ⟨E, d, h1, h2, h3, h4, h5⟩ := hRj.at_ j rs[j] (List.getElem?_eq_getElem hjl)
   obtain ⟨gx, ox, rfl, hgx, hrx, hcx⟩ := (hX.below hb).get (k := j) (by rw [hRj.len]; exact hjl)
   have hjx : hs[j]'(by rw [hRj.len]; exact hjl) = .slice E rs[j].length d := by
    have := List.getElem?_eq_getElem (l := hs) (i := j) (by rw [hRj.len]; exact hjl)
    rw [this] at h1
    exact Option.some.inj h1
   rw [hjx] at hcx
   have hm := Hmay.out _ (List.getElem_mem hjl)
   have hnext := Lib.hid (rowsB_take hjl)
   generalize rs[j] = r at *
   obtain ⟨h32, hall⟩ := may_right hm
   have hby := Lib.hid (rrow_any r r.length d E wr rfl h4 h32 hall h5)
   have hle := rowB_le hall h5 h32
   have hlen2 : Hid ((rowsB (rs.take j) ++ rowB r).length = L + (rowB r).length) := by show _ = _; rw [List.length_append, hlen.out]
   generalize r.length = rl at *
   have Hown := Lib.hid hown
   clear hX hR hRj h1 hjx h4 h5 hall hjl hm hown
   generalize hV : (rowB r).length = V at *
   have HV := Lib.hid hV
   clear hV
   go_wp2_with fail
   refine hby.out.mono ?_
   rintro e w2 ⟨A2, L2, c2, rfl, rfl, ho2, hb2⟩
   have hown2 := Hown.out.below hb2
   have hb02 := hb.trans (hb2.mono hb.size)
   have hrd2 := ho2.rd
   clear ho2 hb2
   go_wp2_with (first | (at_builtin; refine hold ?_) | (at_make; refine hold ?_))
   (with_reducible refine unhold ?_)
   refine wpList_apd rfl _ _ _ rfl E8 w.heap.size E0 L d0 _ rfl hown2 A2 V _ (Bs (rowB r)) rfl (by rw [List.length_map, HV.out, Nat.mul_one]) hrd2 (Bs_one _) (L + V) rfl (Bs (rowsB (rs.take j) ++ rowB r)) (by simp) (by omega) (by omega) hb02.size ?_
   intro A3 c3 w3 ho3 hg3 _
   have hb03 := hb02.grown hg3 hb02.size hown2.row_ge
   go_wp2_with fail
   go_roundw
   case rel =>
    refine ⟨j + 1, L + V, A3, c3, by omega, by omega, by go_num, rfl, ?_, ?_, hb03⟩
    ·show _ = _
     rw [hnext.out]
     exact hlen2.out
    ·rw [hnext.out]
     exact ho3
   case measure => simp [intOf]; omega
  ·obtain rfl : j = n := by omega
   have htk : rs.take j = rs := List.take_of_length_le (by rw [Hn.out]; exact Nat.le_refl _)
   rw [htk] at hlen hown
   go_wp2_with fail
   go_ret
   exact ⟨_, _, _, rfl, hlen.out, hown, hb⟩
end Go.Proofs.YtcadjekcdokkjaaGreat
