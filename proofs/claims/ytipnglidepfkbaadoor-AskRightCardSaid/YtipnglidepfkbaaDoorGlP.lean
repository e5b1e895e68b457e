/- Walks: the reference's parts of a pattern; whether a text is one. -/
import Derived.Test.YtipnglidepfkbaaDoorGlL
import Derived.Test.YtipnglidepfkbaaDoorJoW
namespace Go.Proofs.YtipnglidepfkbaaDoor
open Go.RowKit

attribute [local go_sem ↓] Go.wp_at_zero Go.wp_at_succ

def rpcell (p : Pt) : List Value := [.bool (p.kind == 37), .bool (p.kind == 95), .string (St8 p.letter)]
def rpcells (l : List Pt) : List Value := l.flatMap rpcell
theorem rpcells_append (r q : List Pt) : rpcells (r ++ q) = rpcells r ++ rpcells q := by simp [rpcells]
theorem rpcells_len : ∀ r : List Pt, (rpcells r).length = r.length * 3
  | [] => rfl
  | v :: r => by
    have := rpcells_len r
    unfold rpcells at *
    rw [List.flatMap_cons, List.length_append, this, List.length_cons]
    show 3 + _ = _
    omega
theorem rpcells_get : ∀ (r : List Pt) (j : Nat) (v : Pt) (t : Nat), r[j]? = some v → t < 3 → (rpcells r)[j * 3 + t]? = (rpcell v)[t]?
  | [], j, a, t, h, _ => by simp at h
  | x :: l, 0, a, t, h, ht => by
    obtain rfl : x = a := by simpa using h
    unfold rpcells
    rw [List.flatMap_cons, Nat.zero_mul, Nat.zero_add, List.getElem?_append_left (by exact ht)]
  | x :: l, j + 1, a, t, h, ht => by
    have := rpcells_get l j a t (by simpa using h) ht
    unfold rpcells at *
    rw [List.flatMap_cons, List.getElem?_append_right (by show 3 ≤ _; omega), show (j + 1) * 3 + t - (rpcell x).length = j * 3 + t from by show (j + 1) * 3 + t - 3 = _; omega]
    exact this
theorem Erpt : ElemT Tryd.prog 92 104 3 24 (.agg #[.bool false, .bool false, .string ⟨#[]⟩]) := ElemT.mk' (by kernel_rfl) (by kernel_rfl) rfl (by omega)

theorem cmp_lit (x l : List UInt8) : ((St8 x).toList == l) = decide (x = l) := by
  rw [St8_list]
  by_cases h : x = l <;> simp [h]
theorem partsR_cons {x : List UInt8} (h : ¬ x = [92]) (t : List (List UInt8)) : partsR (x :: t) = (partsR t).map (partR x :: ·) := by
  cases t with
  | nil =>
    show (if x = [92] then none else some [partR x]) = _
    rw [if_neg h]
    rfl
  | cons y t => rw [partsR, if_neg h]
theorem partsR_esc (y : List UInt8) (t : List (List UInt8)) : partsR ([92] :: y :: t) = (partsR t).map (⟨0, y⟩ :: ·) := by rw [partsR, if_pos rfl]
theorem partsR_len : ∀ (l : List (List UInt8)) (ps : List Pt), partsR l = some ps → ps.length ≤ l.length
  | [], ps, h => by cases h; exact Nat.le_refl _
  | [x], ps, h => by
    rw [partsR] at h
    split at h
    · cases h
    · cases h; exact Nat.le_refl _
  | x :: y :: t, ps, h => by
    rw [partsR] at h
    split at h
    · obtain ⟨q, hq, rfl⟩ := Option.map_eq_some_iff.1 h
      have := partsR_len t q hq
      simp; omega
    · obtain ⟨q, hq, rfl⟩ := Option.map_eq_some_iff.1 h
      have := partsR_len (y :: t) q hq
      simp at this ⊢; omega
theorem map_cons {x : Option (List Pt)} {q : List Pt} {p : Pt} {R : Option (List Pt)} (h : R = (x.map (p :: ·)).map (q ++ ·)) : R = x.map ((q ++ [p]) ++ ·) := by
  rw [h, Option.map_map]
  congr 1
  funext l
  simp

/-- What the reference makes of a pattern. -/
def rparts (s : List UInt8) : Option (List Pt) := partsR (letters s)

set_option maxHeartbeats 8000000 in
set_option maxRecDepth 100000 in
theorem rparts_c (s : List UInt8) (w : World) (hs : s.length ≤ 1000000) (hT : Lib.Utf8Tabs 0 1 w) :
    Calls Tryd.prog 78 #[.string (St8 s)] w fun e w' => (∃ A n c q, e = .returned (.tuple #[.slice A n c, .bool (rparts s).isSome]) ∧ q.length = n ∧ (∀ ps, rparts s = some ps → q = ps) ∧ Own w' w.heap.size 104 3 A n c (rpcells q)) ∧ Below w.heap.size w w' := by
  have hlw := Lib.hid (rletters_any s w hs hT)
  have hll := letters_le s
  obtain ⟨R, hR⟩ : ∃ R, rparts s = R := ⟨_, rfl⟩
  have HR := Lib.hid hR
  rw [hR]
  unfold rparts at hR
  generalize hls : letters s = ls at *
  clear hls hT
  go_enter Tryd.func78, Tryd.ntmps78
  go_wp2_with fail
  refine hlw.out.mono ?_
  rintro e w1 ⟨LA, lc, rfl, hlo, hb1⟩
  have Hlr := Lib.hid hlo.rd
  have Hb1 := Lib.hid hb1
  have hlc := hlo.cap
  obtain ⟨N, hN⟩ : ∃ N, ls.length = N := ⟨_, rfl⟩
  rw [hN] at hlc hll ⊢
  have HN := Lib.hid hN
  have HR := Lib.hid hR
  clear hlo hb1 hlw hN hR
  go_wp2_with fail
  go_loopw [5, 6] (fun vo vi wr => ∃ (j n c : Nat) (A : Option Addr) (q : List Pt), vo = .slice A n c ∧ vi = .int .i64 (j : Int) ∧ j ≤ N ∧ n ≤ j ∧ Hid (q.length = n) ∧ Hid (R = (partsR (ls.drop j)).map (q ++ ·)) ∧ Hid (Own wr w1.heap.size 104 3 A n c (rpcells q)) ∧ Hid (Below w1.heap.size w1 wr)) (fun _ vi _ => N - (intOf vi).toNat)
  case atStart => exact ⟨0, 0, 0, none, [], rfl, rfl, by omega, by omega, rfl, by show _ = _; rw [List.drop_zero, HR.out]; cases R <;> rfl, Own.nil _ _ _ _, Below.refl _ _⟩
  case round =>
    obtain ⟨j, n, c, A, q, rfl, rfl, hj, hnj, Hn, Hq, Ho, Hb⟩ := hrel
    clear HR
    by_cases hjn : j < N
    · have hjl : j < ls.length := by rw [HN.out]; exact hjn
      have hdr := List.drop_eq_getElem_cons hjl
      obtain ⟨lb, lo, rfl, hlr⟩ := Hlr.out (by intro e; have := congrArg List.length e; rw [scells_len, List.length_nil] at this; omega)
      have cl0 := cell_keep Hb.out (hlr j _ (scells_get (List.getElem?_eq_getElem hjl)))
      have Hcl := Lib.hid (fun w' (hb : Below wr.heap.size wr w') => cell_keep (Hb.out.trans (hb.mono Hb.out.size)) (hlr j _ (scells_get (List.getElem?_eq_getElem hjl))))
      have hjI0 : (0 : Int) ≤ (j : Int) := by omega
      have hjI : (j : Int) < (N : Int) := by omega
      have hq := Hq.out
      rw [hdr] at hq
      generalize hgx : ls[j] = x at *
      have h37 : ((St8 x).toList == [37]) = decide (x = [37]) := cmp_lit x [37]
      have h95 : ((St8 x).toList == [95]) = decide (x = [95]) := cmp_lit x [95]
      have h92 : ((St8 x).toList == [92]) = decide (x = [92]) := cmp_lit x [92]
      clear hgx
      by_cases e92 : x = [92]
      · rw [decide_eq_false (by rw [e92]; decide)] at h37
        rw [decide_eq_false (by rw [e92]; decide)] at h95
        rw [decide_eq_true e92] at h92
        have E92 := Lib.hid e92
        clear e92
        by_cases hlast : j + 1 = N
        · have hlI : ((j : Int) + 1 == (N : Int)) = true := by rw [beq_iff_eq]; omega
          rw [List.drop_eq_nil_of_le (show ls.length ≤ j + 1 by rw [HN.out]; omega)] at hq
          have HRn : Hid (R = none) := by
            show _ = _
            rw [hq, E92.out]
            rfl
          have hbX : Below wr.heap.size wr (wr.alloc (.cells #[.bool false, .bool false, .string (St8 x)] 104)) := (Below.refl _ _).alloc (Nat.le_refl _) _
          have Hb2 := Lib.hid (Hb1.out.trans ((Hb.out.trans (hbX.mono Hb.out.size)).mono Hb1.out.size))
          have cl2 := Hcl.out _ hbX
          clear hq hdr hlr hbX Hq Hcl
          go_wp2_with fail
          go_ret2
          rw [HRn.out]
          exact ⟨⟨none, 0, 0, [], rfl, rfl, fun ps h => (by cases h), Own.nil _ _ _ _⟩, Hb2.out⟩
        · have hlI : ((j : Int) + 1 == (N : Int)) = false := by rw [beq_eq_false_iff_ne]; omega
          have hjl2 : j + 1 < ls.length := by rw [HN.out]; omega
          rw [E92.out, List.drop_eq_getElem_cons hjl2, partsR_esc] at hq
          have hyc := Lib.hid (fun w' (hb : Below wr.heap.size wr w') => cell_keep (Hb.out.trans (hb.mono Hb.out.size)) (hlr (j + 1) _ (scells_get (List.getElem?_eq_getElem hjl2))))
          generalize ls[j + 1] = y at *
          have hq := Lib.hid (map_cons hq)
          have hj1I0 : (0 : Int) ≤ (j : Int) + 1 := by omega
          have hj1I : (j : Int) + 1 < (N : Int) := by omega
          have hcast : ((j + 1 : Nat) : Int) = (j : Int) + 1 := by omega
          have hbX : Below wr.heap.size wr (wr.alloc (.cells #[.bool false, .bool false, .string (St8 y)] 104)) := (Below.refl _ _).alloc (Nat.le_refl _) _
          have hbX0 : Below wr.heap.size wr (wr.alloc (.cells #[.bool false, .bool false, .string (St8 x)] 104)) := (Below.refl _ _).alloc (Nat.le_refl _) _
          have cl1 := Hcl.out _ hbX
          have cl2 := Hcl.out _ hbX0
          have cy1 := hyc.out _ hbX
          have cy2 := hyc.out _ hbX0
          rw [show lo + (j + 1) = lo + (j + 1) from rfl] at cy1 cy2
          clear hyc
          have hb3 := Hb.out.trans (hbX.mono Hb.out.size)
          have hbW : Below (wr.alloc (.cells #[.bool false, .bool false, .string (St8 y)] 104)).heap.size (wr.alloc (.cells #[.bool false, .bool false, .string (St8 y)] 104)) ((wr.alloc (.cells #[.bool false, .bool false, .string (St8 y)] 104)).alloc (.cells #[.bool false, .bool false, .string (St8 y)] 104)) := (Below.refl _ _).alloc (Nat.le_refl _) _
          have hnew := (Blk.new (wr.alloc (.cells #[.bool false, .bool false, .string (St8 y)] 104)) 104 #[.bool false, .bool false, .string (St8 y)]).range
          rw [World.size_alloc] at hnew
          have ho3 := Own.below (Own.below Ho.out hbX) hbW
          have hb4 := hb3.trans (hbW.mono hb3.size)
          have hz4 := hb4.size
          have hpc : (rpcells q).length = n * 3 := by rw [rpcells_len, Hn.out]
          have Hap : Hid (rpcells q ++ [.bool false, .bool false, .string (St8 y)] = rpcells (q ++ [(Pt.mk 0 y)])) := by show _ = _; rw [rpcells_append]; rfl
          have Hql : Hid ((q ++ [(Pt.mk 0 y)]).length = n + 1) := by show _ = _; rw [List.length_append, Hn.out]; rfl
          clear hbX hbX0 hbW hb3 hdr hlr Hq Hcl Ho Hb
          go_wp2_with (first | (at_builtin; refine hold ?_) | (at_make; refine hold ?_))
          (with_reducible refine unhold ?_)
          refine wpList_apd rfl _ _ _ rfl Erpt w1.heap.size _ n _ (rpcells q) rfl ho3 _ 1 _ [.bool false, .bool false, .string (St8 y)] rfl rfl (fun _ => ⟨_, _, rfl, hnew⟩) (by simp [Value.oneCell']) (n + 1) rfl _ rfl (by omega) (by omega) hz4 ?_
          intro A5 c5 w9 ho10 hg10 _
          have Hb10 := Lib.hid (hb4.grown hg10 hb4.size ho3.row_ge)
          rw [Hap.out] at ho10
          have Ho10 := Lib.hid ho10
          clear hnew ho3 hb4 ho10 hg10
          go_wp2_with fail
          go_roundw
          case rel => exact ⟨j + 2, n + 1, c5, A5, _, rfl, by go_num, by omega, by omega, Hql, hq, Ho10, Hb10⟩
          case measure => simp [intOf]; omega
      · rw [decide_eq_false e92] at h92
        rw [partsR_cons e92] at hq
        by_cases e37 : x = [37]
        · rw [decide_eq_true e37] at h37
          rw [decide_eq_false (by rw [e37]; decide)] at h95
          have hpr : partR x = partR [37] := by rw [e37]
          rw [hpr] at hq
          clear e37 e92
          have hq := Lib.hid (map_cons hq)
          have hbX : Below wr.heap.size wr (wr.alloc (.cells #[.bool true, .bool false, .string ⟨#[]⟩] 104)) := (Below.refl _ _).alloc (Nat.le_refl _) _
          have hbX0 : Below wr.heap.size wr (wr.alloc (.cells #[.bool false, .bool false, .string (St8 x)] 104)) := (Below.refl _ _).alloc (Nat.le_refl _) _
          have cl1 := Hcl.out _ hbX
          have cl2 := Hcl.out _ hbX0
          have hb3 := Hb.out.trans (hbX.mono Hb.out.size)
          have hbW : Below (wr.alloc (.cells #[.bool true, .bool false, .string ⟨#[]⟩] 104)).heap.size (wr.alloc (.cells #[.bool true, .bool false, .string ⟨#[]⟩] 104)) ((wr.alloc (.cells #[.bool true, .bool false, .string ⟨#[]⟩] 104)).alloc (.cells #[.bool true, .bool false, .string ⟨#[]⟩] 104)) := (Below.refl _ _).alloc (Nat.le_refl _) _
          have hnew := (Blk.new (wr.alloc (.cells #[.bool true, .bool false, .string ⟨#[]⟩] 104)) 104 #[.bool true, .bool false, .string ⟨#[]⟩]).range
          rw [World.size_alloc] at hnew
          have ho3 := Own.below (Own.below Ho.out hbX) hbW
          have hb4 := hb3.trans (hbW.mono hb3.size)
          have hz4 := hb4.size
          have hpc : (rpcells q).length = n * 3 := by rw [rpcells_len, Hn.out]
          have Hap : Hid (rpcells q ++ [.bool true, .bool false, .string ⟨#[]⟩] = rpcells (q ++ [(partR [37])])) := by show _ = _; rw [rpcells_append]; rfl
          have Hql : Hid ((q ++ [(partR [37])]).length = n + 1) := by show _ = _; rw [List.length_append, Hn.out]; rfl
          clear hbX hbX0 hbW hb3 hdr hlr Hq Hcl Ho Hb
          go_wp2_with (first | (at_builtin; refine hold ?_) | (at_make; refine hold ?_))
          (with_reducible refine unhold ?_)
          refine wpList_apd rfl _ _ _ rfl Erpt w1.heap.size _ n _ (rpcells q) rfl ho3 _ 1 _ [.bool true, .bool false, .string ⟨#[]⟩] rfl rfl (fun _ => ⟨_, _, rfl, hnew⟩) (by simp [Value.oneCell']) (n + 1) rfl _ rfl (by omega) (by omega) hz4 ?_
          intro A5 c5 w9 ho10 hg10 _
          have Hb10 := Lib.hid (hb4.grown hg10 hb4.size ho3.row_ge)
          rw [Hap.out] at ho10
          have Ho10 := Lib.hid ho10
          clear hnew ho3 hb4 ho10 hg10
          go_wp2_with fail
          go_roundw
          case rel => exact ⟨j + 1, n + 1, c5, A5, _, rfl, by go_num, by omega, by omega, Hql, hq, Ho10, Hb10⟩
          case measure => simp [intOf]; omega
        · by_cases e95 : x = [95]
          · rw [decide_eq_false e37] at h37
            rw [decide_eq_true e95] at h95
            have hpr : partR x = partR [95] := by rw [e95]
            rw [hpr] at hq
            clear e37 e92 e95
            have hq := Lib.hid (map_cons hq)
            have hbX : Below wr.heap.size wr (wr.alloc (.cells #[.bool false, .bool true, .string ⟨#[]⟩] 104)) := (Below.refl _ _).alloc (Nat.le_refl _) _
            have hbX0 : Below wr.heap.size wr (wr.alloc (.cells #[.bool false, .bool false, .string (St8 x)] 104)) := (Below.refl _ _).alloc (Nat.le_refl _) _
            have cl1 := Hcl.out _ hbX
            have cl2 := Hcl.out _ hbX0
            have hb3 := Hb.out.trans (hbX.mono Hb.out.size)
            have hbW : Below (wr.alloc (.cells #[.bool false, .bool true, .string ⟨#[]⟩] 104)).heap.size (wr.alloc (.cells #[.bool false, .bool true, .string ⟨#[]⟩] 104)) ((wr.alloc (.cells #[.bool false, .bool true, .string ⟨#[]⟩] 104)).alloc (.cells #[.bool false, .bool true, .string ⟨#[]⟩] 104)) := (Below.refl _ _).alloc (Nat.le_refl _) _
            have hnew := (Blk.new (wr.alloc (.cells #[.bool false, .bool true, .string ⟨#[]⟩] 104)) 104 #[.bool false, .bool true, .string ⟨#[]⟩]).range
            rw [World.size_alloc] at hnew
            have ho3 := Own.below (Own.below Ho.out hbX) hbW
            have hb4 := hb3.trans (hbW.mono hb3.size)
            have hz4 := hb4.size
            have hpc : (rpcells q).length = n * 3 := by rw [rpcells_len, Hn.out]
            have Hap : Hid (rpcells q ++ [.bool false, .bool true, .string ⟨#[]⟩] = rpcells (q ++ [(partR [95])])) := by show _ = _; rw [rpcells_append]; rfl
            have Hql : Hid ((q ++ [(partR [95])]).length = n + 1) := by show _ = _; rw [List.length_append, Hn.out]; rfl
            clear hbX hbX0 hbW hb3 hdr hlr Hq Hcl Ho Hb
            go_wp2_with (first | (at_builtin; refine hold ?_) | (at_make; refine hold ?_))
            (with_reducible refine unhold ?_)
            refine wpList_apd rfl _ _ _ rfl Erpt w1.heap.size _ n _ (rpcells q) rfl ho3 _ 1 _ [.bool false, .bool true, .string ⟨#[]⟩] rfl rfl (fun _ => ⟨_, _, rfl, hnew⟩) (by simp [Value.oneCell']) (n + 1) rfl _ rfl (by omega) (by omega) hz4 ?_
            intro A5 c5 w9 ho10 hg10 _
            have Hb10 := Lib.hid (hb4.grown hg10 hb4.size ho3.row_ge)
            rw [Hap.out] at ho10
            have Ho10 := Lib.hid ho10
            clear hnew ho3 hb4 ho10 hg10
            go_wp2_with fail
            go_roundw
            case rel => exact ⟨j + 1, n + 1, c5, A5, _, rfl, by go_num, by omega, by omega, Hql, hq, Ho10, Hb10⟩
            case measure => simp [intOf]; omega
          · rw [decide_eq_false e37] at h37
            rw [decide_eq_false e95] at h95
            have hpr : partR x = ⟨0, x⟩ := by unfold partR; rw [if_neg e37, if_neg e95]
            rw [hpr] at hq
            clear e37 e92 e95
            have hq := Lib.hid (map_cons hq)
            have hbX : Below wr.heap.size wr (wr.alloc (.cells #[.bool false, .bool false, .string (St8 x)] 104)) := (Below.refl _ _).alloc (Nat.le_refl _) _
            have hbX0 : Below wr.heap.size wr (wr.alloc (.cells #[.bool false, .bool false, .string (St8 x)] 104)) := (Below.refl _ _).alloc (Nat.le_refl _) _
            have cl1 := Hcl.out _ hbX
            have cl2 := Hcl.out _ hbX0
            have hb3 := Hb.out.trans (hbX.mono Hb.out.size)
            have hbW : Below (wr.alloc (.cells #[.bool false, .bool false, .string (St8 x)] 104)).heap.size (wr.alloc (.cells #[.bool false, .bool false, .string (St8 x)] 104)) ((wr.alloc (.cells #[.bool false, .bool false, .string (St8 x)] 104)).alloc (.cells #[.bool false, .bool false, .string (St8 x)] 104)) := (Below.refl _ _).alloc (Nat.le_refl _) _
            have hnew := (Blk.new (wr.alloc (.cells #[.bool false, .bool false, .string (St8 x)] 104)) 104 #[.bool false, .bool false, .string (St8 x)]).range
            rw [World.size_alloc] at hnew
            have ho3 := Own.below (Own.below Ho.out hbX) hbW
            have hb4 := hb3.trans (hbW.mono hb3.size)
            have hz4 := hb4.size
            have hpc : (rpcells q).length = n * 3 := by rw [rpcells_len, Hn.out]
            have Hap : Hid (rpcells q ++ [.bool false, .bool false, .string (St8 x)] = rpcells (q ++ [(Pt.mk 0 x)])) := by show _ = _; rw [rpcells_append]; rfl
            have Hql : Hid ((q ++ [(Pt.mk 0 x)]).length = n + 1) := by show _ = _; rw [List.length_append, Hn.out]; rfl
            clear hbX hbX0 hbW hb3 hdr hlr Hq Hcl Ho Hb
            go_wp2_with (first | (at_builtin; refine hold ?_) | (at_make; refine hold ?_))
            (with_reducible refine unhold ?_)
            refine wpList_apd rfl _ _ _ rfl Erpt w1.heap.size _ n _ (rpcells q) rfl ho3 _ 1 _ [.bool false, .bool false, .string (St8 x)] rfl rfl (fun _ => ⟨_, _, rfl, hnew⟩) (by simp [Value.oneCell']) (n + 1) rfl _ rfl (by omega) (by omega) hz4 ?_
            intro A5 c5 w9 ho10 hg10 _
            have Hb10 := Lib.hid (hb4.grown hg10 hb4.size ho3.row_ge)
            rw [Hap.out] at ho10
            have Ho10 := Lib.hid ho10
            clear hnew ho3 hb4 ho10 hg10
            go_wp2_with fail
            go_roundw
            case rel => exact ⟨j + 1, n + 1, c5, A5, _, rfl, by go_num, by omega, by omega, Hql, hq, Ho10, Hb10⟩
            case measure => simp [intOf]; omega
    · obtain rfl : j = N := by omega
      have HRf : Hid (R = some q) := by
        show _ = _
        rw [Hq.out, List.drop_eq_nil_of_le (show ls.length ≤ j by rw [HN.out]; omega), partsR, Option.map_some, List.append_nil]
      have Hb2 := Lib.hid (Hb1.out.trans (Hb.out.mono Hb1.out.size))
      have Ho2 := Lib.hid (Ho.out.lower Hb1.out.size)
      clear Hq
      go_wp2_with fail
      go_ret2
      rw [HRf.out]
      exact ⟨⟨A, n, c, q, rfl, Hn.out, fun ps h => (by cases h; rfl), Ho2.out⟩, Hb2.out⟩

set_option maxRecDepth 100000 in
theorem rcheck_c (s : List UInt8) (w : World) (hs : s.length ≤ 1000000) (hT : Lib.Utf8Tabs 0 1 w) :
    Calls Tryd.prog 52 #[.string (St8 s)] w fun e w' => e = .returned (.int .i64 (if (partsM s).2 = true then 0 else 30)) ∧ Below w.heap.size w w' := by
  have hp := Lib.hid (rparts_c s w hs hT)
  have hpe := partsR_letters s
  have hiso : (rparts s).isSome = (partsM s).2 := by
    unfold rparts
    rw [hpe]
    cases (partsM s).2 <;> rfl
  rw [hiso] at hp
  obtain ⟨V, hV⟩ : ∃ V : Int, V = if (partsM s).2 = true then 0 else 30 := ⟨_, rfl⟩
  rw [← hV]
  generalize (partsM s).2 = b at *
  have HV := Lib.hid hV
  clear hT hpe hiso hV
  cases b
  · go_enter Tryd.func52, Tryd.ntmps52
    go_wp2_with fail
    refine hp.out.mono ?_
    rintro e w1 ⟨⟨A, n, c, q, rfl, _, _, _⟩, hb1⟩
    go_wp2_with fail
    go_ret
    rw [HV.out]
    exact ⟨rfl, hb1⟩
  · go_enter Tryd.func52, Tryd.ntmps52
    go_wp2_with fail
    refine hp.out.mono ?_
    rintro e w1 ⟨⟨A, n, c, q, rfl, _, _, _⟩, hb1⟩
    go_wp2_with fail
    go_ret
    rw [HV.out]
    exact ⟨rfl, hb1⟩
end Go.Proofs.YtipnglidepfkbaaDoor
