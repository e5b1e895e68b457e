/- A row of n cells as a function of the place. Walks: whether a text is like a pattern, as the reference finds it: a table of all places. Walks: what comes of a node that asks a column; whether nodes are one with its parts. Walks: what comes of a node that asks a column, as the reference has it. -/
import Derived.Test.YtipnglidepfkbaaDoorMGrA
import Derived.Laws.OwnMore
import Derived.Test.YtipnglidepfkbaaDoorMGrO
import Derived.Test.YtipnglidepfkbaaDoorMGrN
import Derived.Test.YtipnglidepfkbaaDoorMAkR
namespace Go.Proofs.YtipnglidepfkbaaDoor
set_option linter.unusedVariables false
set_option linter.unusedSimpArgs false
open Go.RowKit

def tbl (n : Nat) (f : Nat → Value) : List Value := (List.range n).map f
theorem tbl_len (n : Nat) (f : Nat → Value) : (tbl n f).length = n := by simp [tbl]
theorem tbl_get {n i : Nat} (hi : i < n) (f : Nat → Value) : (tbl n f)[i]? = some (f i) := by simp [tbl, List.getElem?_range hi]
theorem tbl_ext {n : Nat} {f g : Nat → Value} (h : ∀ i, i < n → f i = g i) : tbl n f = tbl n g := List.map_congr_left fun i hi => h i (List.mem_range.1 hi)
theorem tbl_set (n : Nat) (f : Nat → Value) (i : Nat) (v : Value) : (tbl n f).set i v = tbl n fun p => if p = i then v else f p := by
  apply List.ext_getElem?
  intro j
  rw [List.getElem?_set, tbl_len]
  by_cases hj : j < n
  · have h1 : (tbl n fun p => if p = i then v else f p)[j]? = some (if j = i then v else f j) := tbl_get hj _
    rw [h1]
    by_cases e : i = j
    · rw [if_pos e, if_pos (by omega), if_pos e.symm]
    · rw [if_neg e, tbl_get hj, if_neg (fun e2 => e e2.symm)]
  · have h1 : (tbl n fun p => if p = i then v else f p)[j]? = none := List.getElem?_eq_none (by rw [tbl_len]; omega)
    have h2 : (tbl n f)[j]? = none := List.getElem?_eq_none (by rw [tbl_len]; omega)
    rw [h1, h2]
    by_cases e : i = j
    · rw [if_pos e, if_neg (by omega)]
    · rw [if_neg e]
theorem tbl_rep (n : Nat) (v : Value) : List.replicate n v = tbl n fun _ => v := by
  apply List.ext_getElem?
  intro j
  rw [List.getElem?_replicate]
  by_cases h : j < n
  · rw [if_pos h, tbl_get h]
  · rw [if_neg h, List.getElem?_eq_none (by rw [tbl_len]; omega)]
end Go.Proofs.YtipnglidepfkbaaDoor
namespace Go.Proofs.YtipnglidepfkbaaDoor
set_option linter.unusedVariables false
set_option linter.unusedSimpArgs false
open Go.RowKit

attribute [local go_sem ↓] Go.wp_at_zero Go.wp_at_succ

theorem Ebool : ElemT Tryd.prog 102 4 1 1 (.bool false) := ElemT.mk' (by kernel_rfl) (by kernel_rfl) rfl (by omega)
/-- Where a part lies. -/
theorem rpart_cells {w : World} {A : Option Addr} {l : List Pt} {j : Nat} (hA : Rd w A (rpcells l)) (h : j < l.length) :
    ∃ b o, A = some ⟨b, o, none⟩ ∧ b < w.heap.size ∧ w.cell? ⟨b, o + j * 3, none⟩ = some (.bool (l[j].kind == 37)) ∧ w.cell? ⟨b, o + j * 3 + 1, none⟩ = some (.bool (l[j].kind == 95)) ∧ w.cell? ⟨b, o + j * 3 + 2, none⟩ = some (.string (St8 l[j].letter)) := by
  have hne : rpcells l ≠ [] := by
    intro e
    have := congrArg List.length e
    rw [rpcells_len, List.length_nil] at this
    omega
  obtain ⟨b, o, e, hr⟩ := hA hne
  have key : ∀ t v, (rpcell l[j])[t]? = some v → t < 3 → w.cell? ⟨b, o + j * 3 + t, none⟩ = some v := fun t v hv ht => by
    rw [Nat.add_assoc]
    exact hr (j * 3 + t) v (by rw [rpcells_get l j _ t (List.getElem?_eq_getElem h) ht]; exact hv)
  exact ⟨b, o, e, lt_of_range hr hne, key 0 _ rfl (by omega), key 1 _ rfl (by omega), key 2 _ rfl (by omega)⟩

theorem partsF_kind : ∀ (l : List (Nat × List UInt8)) (e : Bool), ∀ x ∈ (partsF e l).1, x.kind = 0 ∨ x.kind = 37 ∨ x.kind = 95
  | [], e, x, h => by rw [partsF] at h; cases h
  | y :: t, e, x, h => by
    rw [partsF] at h
    rcases List.mem_append.1 h with h | h
    · unfold stepP at h
      split at h
      · rw [List.mem_singleton.1 h]; exact .inl rfl
      · split at h
        · cases h
        · split at h
          · rename_i h2
            rw [List.mem_singleton.1 h]
            show (y.1 : Int) = 0 ∨ (y.1 : Int) = 37 ∨ (y.1 : Int) = 95
            omega
          · rw [List.mem_singleton.1 h]; exact .inl rfl
    · exact partsF_kind t _ x h
theorem partsM_kind (p : List UInt8) : ∀ x ∈ (partsM p).1, x.kind = 0 ∨ x.kind = 37 ∨ x.kind = 95 := partsF_kind _ _
theorem one_zero {P : Pt} {x : List UInt8} (h : P.kind = 0) : decide (P.kind = 95 ∨ P = ⟨0, x⟩) = decide (P.letter = x) := by
  obtain ⟨k, l⟩ := P
  dsimp only at h ⊢
  subst h
  by_cases e : l = x
  · rw [decide_eq_true e, decide_eq_true (.inr (by rw [e]))]
  · rw [decide_eq_false e, decide_eq_false]
    rintro (h | h)
    · omega
    · cases h; exact e rfl

/-- What is written so far of the next row. -/
def upto (k : Nat) (f : Nat → Bool) : Nat → Value := fun j => .bool (if j < k then f j else false)
theorem upto_set (n k : Nat) (f : Nat → Bool) (b : Bool) (hb : f k = b) : (tbl n (upto k f)).set k (.bool b) = tbl n (upto (k + 1) f) := by
  rw [tbl_set]
  apply tbl_ext
  intro i _
  unfold upto
  by_cases e : i = k
  · subst e
    rw [if_pos rfl, if_pos (by omega), hb]
  · rw [if_neg e]
    by_cases h : i < k
    · rw [if_pos h, if_pos (by omega)]
    · rw [if_neg h, if_neg (by omega)]

set_option maxHeartbeats 16000000 in
set_option maxRecDepth 100000 in
theorem rmatch_c (p s : List UInt8) (w : World) (hp : p.length ≤ 1000000) (hs : s.length ≤ 1000000) (hT : Lib.Utf8Tabs 0 1 w) :
    Calls Tryd.prog 63 #[.string (St8 p), .string (St8 s)] w fun e w' => (∃ r : Int, e = .returned (.tuple #[.bool (matchM p s), .int .i64 r])) ∧ Below w.heap.size w w' := by
  have hpw := Lib.hid (rparts_c p w hp hT)
  have hiso : (rparts p).isSome = (partsM p).2 := by
    unfold rparts
    rw [partsR_letters p]
    cases (partsM p).2 <;> rfl
  have hsome : (partsM p).2 = true → rparts p = some (partsM p).1 := fun h => by
    unfold rparts
    rw [partsR_letters p, if_pos h]
  have hpl := Nat.le_trans (partsM_len p) hp
  have hM := matchM_dp p s
  have Hkinds := Lib.hid (partsM_kind p)
  rw [hiso] at hpw
  generalize matchM p s = R at *
  generalize (partsM p).1 = ps at *
  cases hok : (partsM p).2
  · rw [hok] at hpw hM
    obtain rfl : R = false := by rw [hM]; rfl
    clear hok hsome hiso hM hT
    go_enter Tryd.func63, Tryd.ntmps63
    go_wp2_with fail
    refine hpw.out.mono ?_
    rintro e w1 ⟨⟨A, n, c, q, rfl, _, _, _⟩, hb1⟩
    go_wp2_with fail
    go_ret2
    exact ⟨⟨30, rfl⟩, hb1⟩
  · rw [hok] at hpw hM
    rw [Bool.true_and] at hM
    have HS := Lib.hid (hsome hok)
    have hT' := Lib.hid hT
    have hlw := Lib.hid (fun w' (hb : Below w.heap.size w w') => rletters_any s w' hs (Utf8Tabs_below hT hb))
    have hll := letters_le s
    generalize letters s = ls at *
    have HM := Lib.hid hM
    clear hok hsome hiso hT hM
    go_enter Tryd.func63, Tryd.ntmps63
    go_wp2_with fail
    refine hpw.out.mono ?_
    rintro e w1 ⟨⟨A, n, c, q, rfl, hqn, hqs, ho1⟩, hb1⟩
    obtain rfl : q = ps := hqs _ HS.out
    have hnb : n ≤ 1000000 := by omega
    have Hn := Lib.hid hqn
    have HP := Lib.hid ho1.rd
    have Hb1 := Lib.hid hb1
    have hl1 := Lib.hid (hlw.out _ hb1)
    clear ho1 hb1 hqs hqn hpw hlw HS
    go_wp2_with fail
    refine hl1.out.mono ?_
    rintro e w2 ⟨B, bc, rfl, ho2, hb2⟩
    obtain ⟨L, hL⟩ : ∃ L, ls.length = L := ⟨_, rfl⟩
    rw [hL] at ho2 hll ⊢
    have hbc := ho2.cap
    have HB := Lib.hid ho2.rd
    have HP2 := Lib.hid (HP.out.below hb2)
    have Hb2 := Lib.hid (Hb1.out.trans (hb2.mono Hb1.out.size))
    have HL := Lib.hid hL
    rw [hL] at HM
    clear ho2 hb2 hL HP Hb1 hl1
    have hLI : (0 : Int) ≤ (L : Int) + 1 := by omega
    go_wp2_with (first | (at_builtin; refine hold ?_) | (at_make; refine hold ?_))
    (with_reducible refine unhold ?_)
    refine wpList_mkn rfl _ _ _ rfl Ebool w2.heap.size _ _ _ _ (L + 1) rfl rfl (by first | rfl | go_num) (by first | rfl | go_num) (by omega) (by unfold maxLen; omega) (Nat.le_refl _) ?_
    intro w3 ho3 hb3 hlt3
    have hk3 := ho3.blk.1
    rw [Nat.mul_one, show (Value.cells (.bool false)) = #[.bool false] from rfl, toList_madeCells_one, tbl_rep] at hk3
    have hcap := ho3.cap
    clear ho3
    generalize hg3 : w2.heap.size = g at *
    have hc3 := hk3.cell 0
    have hf3 := hk3.frozen 0
    rw [tbl_get (by omega)] at hc3
    have hk4 := hk3.set_ 0 (.bool true)
    have Hk4 : Hid (Blk (w3.setCell ⟨g, 0, none⟩ (.bool true)) g 4 (tbl (L + 1) fun k => .bool (can0 k))) := by
      rw [tbl_set] at hk4
      have e : (tbl (L + 1) fun p => if p = 0 then Value.bool true else Value.bool false) = tbl (L + 1) fun k => .bool (can0 k) := tbl_ext fun i _ => by
        unfold can0
        by_cases h : i = 0
        · rw [if_pos h, decide_eq_true h]
        · rw [if_neg h, decide_eq_false h]
      rw [e] at hk4
      exact hk4
    have hb4 : Below g w2 (w3.setCell ⟨g, 0, none⟩ (.bool true)) := hb3.setCell (Nat.le_refl _) _
    have hbg : w.heap.size ≤ g := by rw [← hg3]; exact Hb2.out.size
    have HP4 := Lib.hid (HP2.out.below (by rw [hg3]; exact hb4))
    have HB4 := Lib.hid (HB.out.below (by rw [hg3]; exact hb4))
    have Hb4 := Lib.hid (Hb2.out.trans (hb4.mono hbg))
    have Hf3 := Lib.hid hf3
    have hLI2 : (0 : Int) < (L : Int) + 1 := by omega
    clear hk3 hk4 hb4 HP2 HB Hb2 hb3 hg3
    go_wp2_with fail
    go_loopw [9, 10] (fun vc vi wr => ∃ (i g : Nat) (f : Nat → Bool), vc = .slice (some ⟨g, 0, none⟩) (L + 1) (L + 1) ∧ vi = .int .i64 (i : Int) ∧ i ≤ n ∧ Hid (w.heap.size ≤ g) ∧ Hid (Blk wr g 4 (tbl (L + 1) fun k => .bool (f k))) ∧ Hid (dp ls (q.drop i) f L = R) ∧ Hid (Rd wr A (rpcells q)) ∧ Hid (Rd wr B (scells ls)) ∧ Hid (Below w.heap.size w wr)) (fun _ vi _ => n - (intOf vi).toNat)
    case atStart => exact ⟨0, g, can0, rfl, rfl, by omega, hbg, Hk4, (by show _ = _; rw [List.drop_zero]; exact HM.out.symm), HP4, HB4, Hb4⟩
    case round =>
      clear Hk4 hbg HM HP4 HB4 Hb4 hf3 hc3 Hf3
      obtain ⟨i, g, f, rfl, rfl, hin, Hg, Hk, HR, HP, HB, Hb⟩ := hrel
      by_cases hi : i < n
      · generalize wr = wo at *
        have hil : i < q.length := by rw [Hn.out]; exact hi
        have hiI0 : (0 : Int) ≤ (i : Int) := by omega
        have hiI : (i : Int) < (n : Int) := by omega
        have hdr := HR.out
        rw [List.drop_eq_getElem_cons hil, dp] at hdr
        obtain ⟨pb, po, rfl, hplt, c0, c1, c2⟩ := rpart_cells HP.out hil
        have Hdr := Lib.hid hdr
        clear hdr HR
        go_wp2_with (first | (at_builtin; refine hold ?_) | (at_make; refine hold ?_))
        (with_reducible refine unhold ?_)
        refine wpList_mkn rfl _ _ _ rfl Ebool wo.heap.size _ _ _ _ (L + 1) rfl rfl (by first | rfl | go_num) (by first | rfl | go_num) (by omega) (by unfold maxLen; omega) (Nat.le_refl _) ?_
        intro w5 ho5 hb5 hlt5
        have hk5 := ho5.blk.1
        rw [Nat.mul_one, show (Value.cells (.bool false)) = #[.bool false] from rfl, toList_madeCells_one, tbl_rep] at hk5
        clear ho5
        have Hkd := Lib.hid (Hkinds.out q[i] (List.getElem_mem hil))
        generalize hgx : q[i] = P at *
        generalize hG : wo.heap.size = G at *
        have hgG : g < G := by rw [← hG]; exact Hk.out.lt
        have Hk5 : Hid (Blk w5 G 4 (tbl (L + 1) (upto 0 (dpStep P ls f)))) := by
          have e : (tbl (L + 1) fun _ => Value.bool false) = tbl (L + 1) (upto 0 (dpStep P ls f)) := tbl_ext fun i _ => by
            unfold upto
            rw [if_neg (by omega)]
          rw [e] at hk5
          exact hk5
        have Hgd := Lib.hid hgx
        have HG := Lib.hid hG
        have Hb5 := Lib.hid hb5
        clear hk5 hb5 hgx hG
        go_wp2_with fail
        go_loopw [12] (fun vk wr => ∃ k : Nat, vk = .int .i64 (k : Int) ∧ k ≤ L + 1 ∧ Hid (Blk wr G 4 (tbl (L + 1) (upto k (dpStep P ls f)))) ∧ Hid (Below G wo wr)) (fun vk _ => L + 1 - (intOf vk).toNat)
        case atStart => exact ⟨0, rfl, by omega, Hk5, Hb5⟩
        case round =>
          clear Hk5 Hb5
          obtain ⟨k, rfl, hk, Hkk, Hbb⟩ := hrel
          by_cases hkL : k ≤ L
          · have hkI : (k : Int) ≤ (L : Int) := by omega
            have hkI0 : (0 : Int) ≤ (k : Int) := by omega
            have hkI1 : (k : Int) < (L : Int) + 1 := by omega
            have keep : Hid (∀ w', Below G wo w' → w'.cell? ⟨pb, po + i * 3, none⟩ = some (.bool (P.kind == 37)) ∧ w'.cell? ⟨pb, po + i * 3 + 1, none⟩ = some (.bool (P.kind == 95)) ∧ w'.cell? ⟨pb, po + i * 3 + 2, none⟩ = some (.string (St8 P.letter))) := fun w' hb => by
              have hb' : Below wo.heap.size wo w' := by rw [HG.out]; exact hb
              exact ⟨cell_keep hb' c0, cell_keep hb' c1, cell_keep hb' c2⟩
            have canAt : Hid (∀ w' (j : Nat), Below G wo w' → j ≤ L → w'.cell? ⟨g, j, none⟩ = some (.bool (f j))) := fun w' j hb hj => by
              have hb' : Below wo.heap.size wo w' := by rw [HG.out]; exact hb
              have := (Hk.out.below hb').cell j
              rw [tbl_get (by omega)] at this
              exact this
            have hset : Hid (∀ b, dpStep P ls f k = b → Blk (wr.setCell ⟨G, k, none⟩ (.bool b)) G 4 (tbl (L + 1) (upto (k + 1) (dpStep P ls f)))) := fun b hb => by
              have := Hkk.out.set_ k (.bool b)
              rw [upto_set _ _ _ _ hb] at this
              exact this
            have hsb : Hid (∀ b, Below G wo (wr.setCell ⟨G, k, none⟩ (.bool b))) := fun b => Hbb.out.setCell (Nat.le_refl _) _
            have hold := Hkk.out.cell k
            have hfz := Hkk.out.frozen k
            rw [tbl_get (by omega)] at hold
            unfold upto at hold
            rw [if_neg (by omega)] at hold
            obtain ⟨p0, p1, p2⟩ := keep.out _ Hbb.out
            have hck := canAt.out _ k Hbb.out hkL
            clear c0 c1 c2
            by_cases h37 : P.kind = 37
            · have e37 : (P.kind == 37) = true := by simpa using h37
              have hdp : ∀ k, dpStep P ls f k = nextS f k := fun k => by unfold dpStep; rw [if_pos h37]
              clear h37
              cases hfk : f k
              · by_cases hk0 : k = 0
                · subst hk0
                  have hval : dpStep P ls f 0 = false := by rw [hdp, nextS, hfk]
                  have Hset := Lib.hid (hset.out _ hval)
                  have Hsb := Lib.hid (hsb.out false)
                  rw [hfk] at hck
                  clear hdp hval hset hfk
                  go_wp2_with fail
                  go_roundw
                  case rel => exact ⟨0 + 1, by go_num, by omega, Hset, Hsb⟩
                  case measure => first | (simp [intOf]; done) | (simp [intOf]; omega)
                · obtain ⟨j, rfl⟩ : ∃ j, k = j + 1 := ⟨k - 1, by omega⟩
                  have hval : dpStep P ls f (j + 1) = nextS f j := by rw [hdp, nextS, hfk, Bool.false_or]
                  have hprev := Hkk.out.cell j
                  rw [tbl_get (by omega)] at hprev
                  unfold upto at hprev
                  rw [if_pos (by omega), hdp] at hprev
                  have Hset := Lib.hid (hset.out _ hval)
                  have Hsb := Lib.hid (hsb.out (nextS f j))
                  have hpos : (0 : Int) < (j : Int) + 1 := by omega
                  have hw1 : IntKind.i64.wrap ((j : Int) + 1 - 1) = (j : Int) := by rw [IntKind.wrap_i64]; omega
                  have hjI0 : (0 : Int) ≤ (j : Int) := by omega
                  have hjI1 : (j : Int) < (L : Int) + 1 := by omega
                  rw [hfk] at hck
                  generalize nextS f j = nb at *
                  clear hdp hval hset hfk hk0
                  go_wp2_with fail
                  go_roundw
                  case rel => exact ⟨j + 1 + 1, by go_num, by omega, Hset, Hsb⟩
                  case measure => first | (simp [intOf]; done) | (simp [intOf]; omega)
              · have hval : dpStep P ls f k = true := by
                  rw [hdp]
                  cases k with
                  | zero => rw [nextS, hfk]
                  | succ k => rw [nextS, hfk, Bool.true_or]
                have Hset := Lib.hid (hset.out _ hval)
                have Hsb := Lib.hid (hsb.out true)
                rw [hfk] at hck
                clear hdp hval hset hfk
                go_wp2_with fail
                go_roundw
                case rel => exact ⟨k + 1, by go_num, by omega, Hset, Hsb⟩
                case measure => first | (simp [intOf]; done) | (simp [intOf]; omega)
            · have e37 : (P.kind == 37) = false := by simpa using h37
              have hdp : ∀ k, dpStep P ls f k = nextO P ls f k := fun k => by unfold dpStep; rw [if_neg h37]
              have Hwd := Lib.hid (show Below G wo wr.drew from Hbb.out.drew)
              have hsetD : Hid (∀ b, dpStep P ls f k = b → Blk (wr.drew.setCell ⟨G, k, none⟩ (.bool b)) G 4 (tbl (L + 1) (upto (k + 1) (dpStep P ls f)))) := fun b hb => hset.out b hb
              have hsbD : Hid (∀ b, Below G wo (wr.drew.setCell ⟨G, k, none⟩ (.bool b))) := fun b => Hwd.out.setCell (Nat.le_refl _) _
              have holdD : wr.drew.cell? ⟨G, k, none⟩ = some (.bool false) := hold
              have hfzD : wr.drew.frozen? ⟨G, k, none⟩ = false := hfz
              clear hset hsb hold hfz
              by_cases hk0 : k = 0
              · subst hk0
                have hval : dpStep P ls f 0 = false := by rw [hdp, nextO]
                have Hset := Lib.hid (hsetD.out _ hval)
                have Hsb := Lib.hid (hsbD.out false)
                clear hdp hval hsetD h37
                go_wp2_with fail
                refine wp_region_held_drew (S := fun w' => True) (by kernel_rfl) True.intro (fun hHeld => ?_)
                (refine wpAnyH_take (i := 0) (oi := ?oi0_1) (v := ?vv0_1) ?hi0_1 (by kernel_rfl) (by kernel_rfl) (by kernel_rfl) ?hQ0_1 ?hy0_1 (by assumption) ?rest0_1; (case hi0_1 => ((simp only [List.getElem?_toArray, List.getElem?_cons_zero]); rfl)); (case hQ0_1 => exact (fun _ _ _ h => h)); (case hy0_1 => (refine Or.inl ⟨by rfl, ?_⟩; intro w hSw; (try dsimp only at hSw); go_simp; try (with_reducible rfl))); (try simp only [Act.put, List.setIfInBounds_toArray, List.set_cons_zero, List.set_cons_succ]))
                (refine wpAnyH_take (i := 1) (oi := ?oi1_2) (v := ?vv1_2) ?hi1_2 (by kernel_rfl) (by kernel_rfl) (by kernel_rfl) ?hQ1_2 ?hy1_2 (by assumption) ?rest1_2; (case hi1_2 => ((simp only [List.getElem?_toArray, List.getElem?_cons_succ, List.getElem?_cons_zero]); rfl)); (case hQ1_2 => exact (fun _ _ _ h => h)); (case hy1_2 => (refine Or.inl ⟨by rfl, ?_⟩; intro w hSw; (try dsimp only at hSw); go_simp; try (with_reducible rfl))); (try simp only [Act.put, List.setIfInBounds_toArray, List.set_cons_zero, List.set_cons_succ]))
                (refine wpAnyH_take (i := 2) (oi := ?oi2_3) (v := ?vv2_3) ?hi2_3 (by kernel_rfl) (by kernel_rfl) (by kernel_rfl) ?hQ2_3 ?hy2_3 (by assumption) ?rest2_3; (case hi2_3 => ((simp only [List.getElem?_toArray, List.getElem?_cons_succ, List.getElem?_cons_zero]); rfl)); (case hQ2_3 => exact (fun _ _ _ h => h)); (case hy2_3 => (refine Or.inl ⟨by rfl, ?_⟩; intro w hSw; (try dsimp only at hSw); go_simp; try (with_reducible rfl))); (try simp only [Act.put, List.setIfInBounds_toArray, List.set_cons_zero, List.set_cons_succ]))
                (refine wpAnyH_take (i := 3) (oi := ?oi3_4) (v := ?vv3_4) ?hi3_4 (by kernel_rfl) (by kernel_rfl) (by kernel_rfl) ?hQ3_4 ?hy3_4 (by assumption) ?rest3_4; (case hi3_4 => ((simp only [List.getElem?_toArray, List.getElem?_cons_succ, List.getElem?_cons_zero]); rfl)); (case hQ3_4 => exact (fun _ _ _ h => h)); (case hy3_4 => (refine Or.inl ⟨by rfl, ?_⟩; intro w hSw; (try dsimp only at hSw); go_simp; try (with_reducible rfl))); (try simp only [Act.put, List.setIfInBounds_toArray, List.set_cons_zero, List.set_cons_succ]))
                (refine wpAnyH_take (i := 4) (oi := ?oi4_5) (v := ?vv4_5) ?hi4_5 (by kernel_rfl) (by kernel_rfl) (by kernel_rfl) ?hQ4_5 ?hy4_5 (by assumption) ?rest4_5; (case hi4_5 => ((simp only [List.getElem?_toArray, List.getElem?_cons_succ, List.getElem?_cons_zero]); rfl)); (case hQ4_5 => exact (fun _ _ _ h => h)); (case hy4_5 => (refine Or.inl ⟨by rfl, ?_⟩; intro w hSw; (try dsimp only at hSw); go_simp; try (with_reducible rfl))); (try simp only [Act.put, List.setIfInBounds_toArray, List.set_cons_zero, List.set_cons_succ]))
                (refine wpAnyH_take (i := 5) (oi := ?oi5_6) (v := undef) ?hi5_6 (by kernel_rfl) (by kernel_rfl) (by kernel_rfl) ?hQ5_6 ?hy5_6 (by assumption) ?rest5_6; (case hi5_6 => ((simp only [List.getElem?_toArray, List.getElem?_cons_succ, List.getElem?_cons_zero]); rfl)); (case hQ5_6 => exact (fun _ _ _ h => h)); (case hy5_6 => exact Or.inr ⟨by rfl, rfl⟩); (try simp only [Act.put, List.setIfInBounds_toArray, List.set_cons_zero, List.set_cons_succ]))
                (refine wpAnyH_take (i := 6) (oi := ?oi6_7) (v := undef) ?hi6_7 (by kernel_rfl) (by kernel_rfl) (by kernel_rfl) ?hQ6_7 ?hy6_7 (by assumption) ?rest6_7; (case hi6_7 => ((simp only [List.getElem?_toArray, List.getElem?_cons_succ, List.getElem?_cons_zero]); rfl)); (case hQ6_7 => exact (fun _ _ _ h => h)); (case hy6_7 => exact Or.inr ⟨by rfl, rfl⟩); (try simp only [Act.put, List.setIfInBounds_toArray, List.set_cons_zero, List.set_cons_succ]))
                (refine wpAnyH_take (i := 7) (oi := ?oi7_8) (v := undef) ?hi7_8 (by kernel_rfl) (by kernel_rfl) (by kernel_rfl) ?hQ7_8 ?hy7_8 (by assumption) ?rest7_8; (case hi7_8 => ((simp only [List.getElem?_toArray, List.getElem?_cons_succ, List.getElem?_cons_zero]); rfl)); (case hQ7_8 => exact (fun _ _ _ h => h)); (case hy7_8 => exact Or.inr ⟨by rfl, rfl⟩); (try simp only [Act.put, List.setIfInBounds_toArray, List.set_cons_zero, List.set_cons_succ]))
                (refine wpAnyH_take (i := 8) (oi := ?oi8_9) (v := undef) ?hi8_9 (by kernel_rfl) (by kernel_rfl) (by kernel_rfl) ?hQ8_9 ?hy8_9 (by assumption) ?rest8_9; (case hi8_9 => ((simp only [List.getElem?_toArray, List.getElem?_cons_succ, List.getElem?_cons_zero]); rfl)); (case hQ8_9 => exact (fun _ _ _ h => h)); (case hy8_9 => exact Or.inr ⟨by rfl, rfl⟩); (try simp only [Act.put, List.setIfInBounds_toArray, List.set_cons_zero, List.set_cons_succ]))
                (refine wpAnyH_take (i := 9) (oi := ?oi9_10) (v := undef) ?hi9_10 (by kernel_rfl) (by kernel_rfl) (by kernel_rfl) ?hQ9_10 ?hy9_10 (by assumption) ?rest9_10; (case hi9_10 => ((simp only [List.getElem?_toArray, List.getElem?_cons_succ, List.getElem?_cons_zero]); rfl)); (case hQ9_10 => exact (fun _ _ _ h => h)); (case hy9_10 => exact Or.inr ⟨by rfl, rfl⟩); (try simp only [Act.put, List.setIfInBounds_toArray, List.set_cons_zero, List.set_cons_succ]))
                (refine wpAnyH_take (i := 10) (oi := ?oi10_11) (v := ?vv10_11) ?hi10_11 (by kernel_rfl) (by kernel_rfl) (by kernel_rfl) ?hQ10_11 ?hy10_11 (by assumption) ?rest10_11; (case hi10_11 => ((simp only [List.getElem?_toArray, List.getElem?_cons_succ, List.getElem?_cons_zero]); rfl)); (case hQ10_11 => exact (fun _ _ _ h => h)); (case hy10_11 => (refine Or.inl ⟨by rfl, ?_⟩; intro w hSw; (try dsimp only at hSw); go_simp; try (with_reducible rfl))); (try simp only [Act.put, List.setIfInBounds_toArray, List.set_cons_zero, List.set_cons_succ]))
                (refine wpAnyH_take (i := 11) (oi := ?oi11_12) (v := ?vv11_12) ?hi11_12 (by kernel_rfl) (by kernel_rfl) (by kernel_rfl) ?hQ11_12 ?hy11_12 (by assumption) ?rest11_12; (case hi11_12 => ((simp only [List.getElem?_toArray, List.getElem?_cons_succ, List.getElem?_cons_zero]); rfl)); (case hQ11_12 => exact (fun _ _ _ h => h)); (case hy11_12 => (refine Or.inl ⟨by rfl, ?_⟩; intro w hSw; (try dsimp only at hSw); go_simp; try (with_reducible rfl))); (try simp only [Act.put, List.setIfInBounds_toArray, List.set_cons_zero, List.set_cons_succ]))
                (refine wpAnyH_take (i := 12) (oi := ?oi12_13) (v := undef) ?hi12_13 (by kernel_rfl) (by kernel_rfl) (by kernel_rfl) ?hQ12_13 ?hy12_13 (by assumption) ?rest12_13; (case hi12_13 => ((simp only [List.getElem?_toArray, List.getElem?_cons_succ, List.getElem?_cons_zero]); rfl)); (case hQ12_13 => exact (fun _ _ _ h => h)); (case hy12_13 => exact Or.inr ⟨by rfl, rfl⟩); (try simp only [Act.put, List.setIfInBounds_toArray, List.set_cons_zero, List.set_cons_succ]))
                (refine wpAnyH_take (i := 13) (oi := ?oi13_14) (v := undef) ?hi13_14 (by kernel_rfl) (by kernel_rfl) (by kernel_rfl) ?hQ13_14 ?hy13_14 (by assumption) ?rest13_14; (case hi13_14 => ((simp only [List.getElem?_toArray, List.getElem?_cons_succ, List.getElem?_cons_zero]); rfl)); (case hQ13_14 => exact (fun _ _ _ h => h)); (case hy13_14 => exact Or.inr ⟨by rfl, rfl⟩); (try simp only [Act.put, List.setIfInBounds_toArray, List.set_cons_zero, List.set_cons_succ]))
                (refine wpAnyH_take (i := 14) (oi := ?oi14_15) (v := undef) ?hi14_15 (by kernel_rfl) (by kernel_rfl) (by kernel_rfl) ?hQ14_15 ?hy14_15 (by assumption) ?rest14_15; (case hi14_15 => ((simp only [List.getElem?_toArray, List.getElem?_cons_succ, List.getElem?_cons_zero]); rfl)); (case hQ14_15 => exact (fun _ _ _ h => h)); (case hy14_15 => exact Or.inr ⟨by rfl, rfl⟩); (try simp only [Act.put, List.setIfInBounds_toArray, List.set_cons_zero, List.set_cons_succ]))
                (refine wpAnyH_take (i := 15) (oi := ?oi15_16) (v := undef) ?hi15_16 (by kernel_rfl) (by kernel_rfl) (by kernel_rfl) ?hQ15_16 ?hy15_16 (by assumption) ?rest15_16; (case hi15_16 => ((simp only [List.getElem?_toArray, List.getElem?_cons_succ, List.getElem?_cons_zero]); rfl)); (case hQ15_16 => exact (fun _ _ _ h => h)); (case hy15_16 => exact Or.inr ⟨by rfl, rfl⟩); (try simp only [Act.put, List.setIfInBounds_toArray, List.set_cons_zero, List.set_cons_succ]))
                (refine wpAnyH_take (i := 16) (oi := ?oi16_17) (v := undef) ?hi16_17 (by kernel_rfl) (by kernel_rfl) (by kernel_rfl) ?hQ16_17 ?hy16_17 (by assumption) ?rest16_17; (case hi16_17 => ((simp only [List.getElem?_toArray, List.getElem?_cons_succ, List.getElem?_cons_zero]); rfl)); (case hQ16_17 => exact (fun _ _ _ h => h)); (case hy16_17 => exact Or.inr ⟨by rfl, rfl⟩); (try simp only [Act.put, List.setIfInBounds_toArray, List.set_cons_zero, List.set_cons_succ]))
                (refine wpAnyH_take (i := 17) (oi := ?oi17_18) (v := undef) ?hi17_18 (by kernel_rfl) (by kernel_rfl) (by kernel_rfl) ?hQ17_18 ?hy17_18 (by assumption) ?rest17_18; (case hi17_18 => ((simp only [List.getElem?_toArray, List.getElem?_cons_succ, List.getElem?_cons_zero]); rfl)); (case hQ17_18 => exact (fun _ _ _ h => h)); (case hy17_18 => exact Or.inr ⟨by rfl, rfl⟩); (try simp only [Act.put, List.setIfInBounds_toArray, List.set_cons_zero, List.set_cons_succ]))
                (refine wpAnyH_take (i := 18) (oi := ?oi18_19) (v := undef) ?hi18_19 (by kernel_rfl) (by kernel_rfl) (by kernel_rfl) ?hQ18_19 ?hy18_19 (by assumption) ?rest18_19; (case hi18_19 => ((simp only [List.getElem?_toArray, List.getElem?_cons_succ, List.getElem?_cons_zero]); rfl)); (case hQ18_19 => exact (fun _ _ _ h => h)); (case hy18_19 => exact Or.inr ⟨by rfl, rfl⟩); (try simp only [Act.put, List.setIfInBounds_toArray, List.set_cons_zero, List.set_cons_succ]))
                (refine wpAnyH_take (i := 19) (oi := ?oi19_20) (v := undef) ?hi19_20 (by kernel_rfl) (by kernel_rfl) (by kernel_rfl) ?hQ19_20 ?hy19_20 (by assumption) ?rest19_20; (case hi19_20 => ((simp only [List.getElem?_toArray, List.getElem?_cons_succ, List.getElem?_cons_zero]); rfl)); (case hQ19_20 => exact (fun _ _ _ h => h)); (case hy19_20 => exact Or.inr ⟨by rfl, rfl⟩); (try simp only [Act.put, List.setIfInBounds_toArray, List.set_cons_zero, List.set_cons_succ]))
                (refine wpAnyH_take (i := 20) (oi := ?oi20_21) (v := undef) ?hi20_21 (by kernel_rfl) (by kernel_rfl) (by kernel_rfl) ?hQ20_21 ?hy20_21 (by assumption) ?rest20_21; (case hi20_21 => ((simp only [List.getElem?_toArray, List.getElem?_cons_succ, List.getElem?_cons_zero]); rfl)); (case hQ20_21 => exact (fun _ _ _ h => h)); (case hy20_21 => exact Or.inr ⟨by rfl, rfl⟩); (try simp only [Act.put, List.setIfInBounds_toArray, List.set_cons_zero, List.set_cons_succ]))
                (refine wpAnyH_take (i := 21) (oi := ?oi21_22) (v := undef) ?hi21_22 (by kernel_rfl) (by kernel_rfl) (by kernel_rfl) ?hQ21_22 ?hy21_22 (by assumption) ?rest21_22; (case hi21_22 => ((simp only [List.getElem?_toArray, List.getElem?_cons_succ, List.getElem?_cons_zero]); rfl)); (case hQ21_22 => exact (fun _ _ _ h => h)); (case hy21_22 => exact Or.inr ⟨by rfl, rfl⟩); (try simp only [Act.put, List.setIfInBounds_toArray, List.set_cons_zero, List.set_cons_succ]))
                (refine wpAnyH_take (i := 22) (oi := ?oi22_23) (v := undef) ?hi22_23 (by kernel_rfl) (by kernel_rfl) (by kernel_rfl) ?hQ22_23 ?hy22_23 (by assumption) ?rest22_23; (case hi22_23 => ((simp only [List.getElem?_toArray, List.getElem?_cons_succ, List.getElem?_cons_zero]); rfl)); (case hQ22_23 => exact (fun _ _ _ h => h)); (case hy22_23 => exact Or.inr ⟨by rfl, rfl⟩); (try simp only [Act.put, List.setIfInBounds_toArray, List.set_cons_zero, List.set_cons_succ]))
                (refine wpAnyH_take (i := 23) (oi := ?oi23_24) (v := undef) ?hi23_24 (by kernel_rfl) (by kernel_rfl) (by kernel_rfl) ?hQ23_24 ?hy23_24 (by assumption) ?rest23_24; (case hi23_24 => ((simp only [List.getElem?_toArray, List.getElem?_cons_succ, List.getElem?_cons_zero]); rfl)); (case hQ23_24 => exact (fun _ _ _ h => h)); (case hy23_24 => exact Or.inr ⟨by rfl, rfl⟩); (try simp only [Act.put, List.setIfInBounds_toArray, List.set_cons_zero, List.set_cons_succ]))
                (refine wpAnyH_take (i := 24) (oi := ?oi24_25) (v := undef) ?hi24_25 (by kernel_rfl) (by kernel_rfl) (by kernel_rfl) ?hQ24_25 ?hy24_25 (by assumption) ?rest24_25; (case hi24_25 => ((simp only [List.getElem?_toArray, List.getElem?_cons_succ, List.getElem?_cons_zero]); rfl)); (case hQ24_25 => exact (fun _ _ _ h => h)); (case hy24_25 => exact Or.inr ⟨by rfl, rfl⟩); (try simp only [Act.put, List.setIfInBounds_toArray, List.set_cons_zero, List.set_cons_succ]))
                (refine wpAnyH_take (i := 25) (oi := ?oi25_26) (v := undef) ?hi25_26 (by kernel_rfl) (by kernel_rfl) (by kernel_rfl) ?hQ25_26 ?hy25_26 (by assumption) ?rest25_26; (case hi25_26 => ((simp only [List.getElem?_toArray, List.getElem?_cons_succ, List.getElem?_cons_zero]); rfl)); (case hQ25_26 => exact (fun _ _ _ h => h)); (case hy25_26 => exact Or.inr ⟨by rfl, rfl⟩); (try simp only [Act.put, List.setIfInBounds_toArray, List.set_cons_zero, List.set_cons_succ]))
                (refine wpAnyH_take (i := 26) (oi := ?oi26_27) (v := undef) ?hi26_27 (by kernel_rfl) (by kernel_rfl) (by kernel_rfl) ?hQ26_27 ?hy26_27 (by assumption) ?rest26_27; (case hi26_27 => ((simp only [List.getElem?_toArray, List.getElem?_cons_succ, List.getElem?_cons_zero]); rfl)); (case hQ26_27 => exact (fun _ _ _ h => h)); (case hy26_27 => exact Or.inr ⟨by rfl, rfl⟩); (try simp only [Act.put, List.setIfInBounds_toArray, List.set_cons_zero, List.set_cons_succ]))
                (refine wpAnyH_take (i := 27) (oi := ?oi27_28) (v := undef) ?hi27_28 (by kernel_rfl) (by kernel_rfl) (by kernel_rfl) ?hQ27_28 ?hy27_28 (by assumption) ?rest27_28; (case hi27_28 => ((simp only [List.getElem?_toArray, List.getElem?_cons_succ, List.getElem?_cons_zero]); rfl)); (case hQ27_28 => exact (fun _ _ _ h => h)); (case hy27_28 => exact Or.inr ⟨by rfl, rfl⟩); (try simp only [Act.put, List.setIfInBounds_toArray, List.set_cons_zero, List.set_cons_succ]))
                (refine wpAnyH_take (i := 28) (oi := ?oi28_29) (v := undef) ?hi28_29 (by kernel_rfl) (by kernel_rfl) (by kernel_rfl) ?hQ28_29 ?hy28_29 (by assumption) ?rest28_29; (case hi28_29 => ((simp only [List.getElem?_toArray, List.getElem?_cons_succ, List.getElem?_cons_zero]); rfl)); (case hQ28_29 => exact (fun _ _ _ h => h)); (case hy28_29 => exact Or.inr ⟨by rfl, rfl⟩); (try simp only [Act.put, List.setIfInBounds_toArray, List.set_cons_zero, List.set_cons_succ]))
                (refine wpAnyH_take (i := 29) (oi := ?oi29_30) (v := undef) ?hi29_30 (by kernel_rfl) (by kernel_rfl) (by kernel_rfl) ?hQ29_30 ?hy29_30 (by assumption) ?rest29_30; (case hi29_30 => ((simp only [List.getElem?_toArray, List.getElem?_cons_succ, List.getElem?_cons_zero]); rfl)); (case hQ29_30 => exact (fun _ _ _ h => h)); (case hy29_30 => exact Or.inr ⟨by rfl, rfl⟩); (try simp only [Act.put, List.setIfInBounds_toArray, List.set_cons_zero, List.set_cons_succ]))
                (refine wpAnyH_take (i := 30) (oi := ?oi30_31) (v := ?vv30_31) ?hi30_31 (by kernel_rfl) (by kernel_rfl) (by kernel_rfl) ?hQ30_31 ?hy30_31 (by assumption) ?rest30_31; (case hi30_31 => ((simp only [List.getElem?_toArray, List.getElem?_cons_succ, List.getElem?_cons_zero]); rfl)); (case hQ30_31 => exact (fun _ _ _ h => h)); (case hy30_31 => (refine Or.inl ⟨by rfl, ?_⟩; intro w hSw; (try dsimp only at hSw); go_simp; try (with_reducible rfl))); (try simp only [Act.put, List.setIfInBounds_toArray, List.set_cons_zero, List.set_cons_succ]))
                (refine wpAnyH_take (i := 31) (oi := ?oi31_32) (v := ?vv31_32) ?hi31_32 (by kernel_rfl) (by kernel_rfl) (by kernel_rfl) ?hQ31_32 ?hy31_32 (by assumption) ?rest31_32; (case hi31_32 => ((simp only [List.getElem?_toArray, List.getElem?_cons_succ, List.getElem?_cons_zero]); rfl)); (case hQ31_32 => exact (fun _ _ _ h => h)); (case hy31_32 => (refine Or.inl ⟨by rfl, ?_⟩; intro w hSw; (try dsimp only at hSw); go_simp; try (with_reducible rfl))); (try simp only [Act.put, List.setIfInBounds_toArray, List.set_cons_zero, List.set_cons_succ]))
                (refine wpAnyH_ready (rs := [32]) (by kernel_rfl) (by simp) ?_; refine AllReadyH.cons (o := ?oc32_33) ?ho32_33 (fun K hK => ?_) AllReadyH.nil; (case ho32_33 => ((simp only [List.getElem?_toArray, List.getElem?_cons_succ, List.getElem?_cons_zero]); rfl)); go_simp)
                go_wp2_with fail
                refine hK.out _ _ True.intro (fun hHeld2 => ?_)
                refine wpAnyH_done (by kernel_rfl) ?_ _
                clear hHeld hHeld2
                go_wp2_with fail
                go_roundw
                case rel => exact ⟨0 + 1, by go_num, by omega, Hset, Hsb⟩
                case measure => first | (simp [intOf]; done) | (simp [intOf]; omega)
              · obtain ⟨j, rfl⟩ : ∃ j, k = j + 1 := ⟨k - 1, by omega⟩
                have hpos : (0 : Int) < (j : Int) + 1 := by omega
                have hw1 : IntKind.i64.wrap (j : Int) = (j : Int) := by rw [IntKind.wrap_i64]; omega
                have hnn : (0 : Int) ≤ (j : Int) + 1 := by omega
                have hjI0 : (0 : Int) ≤ (j : Int) := by omega
                have hjI1 : (j : Int) < (L : Int) + 1 := by omega
                have hjL : (j : Int) < (L : Int) := by omega
                have hval0 : dpStep P ls f (j + 1) = (f j && one P (ls.getD j [])) := by rw [hdp, nextO]
                have hjl : j < ls.length := by rw [HL.out]; omega
                obtain ⟨lb, lo, rfl, hlr⟩ := HB.out (by intro e; have := congrArg List.length e; rw [scells_len, List.length_nil] at this; omega)
                have hl0 := hlr j _ (scells_get (List.getElem?_eq_getElem hjl))
                have hll0 : Hid (∀ w', Below G wo w' → w'.cell? ⟨lb, lo + j, none⟩ = some (.string (St8 ls[j]))) := fun w' hb => cell_keep (show Below wo.heap.size wo w' by rw [HG.out]; exact hb) hl0
                have hgd : ls.getD j [] = ls[j] := by simp [List.getD, List.getElem?_eq_getElem hjl]
                rw [hgd] at hval0
                unfold one at hval0
                generalize ls[j] = x at *
                have hjc := canAt.out _ j Hwd.out (by omega)
                obtain ⟨r0, r1, r2⟩ := keep.out _ Hwd.out
                have hlx := hll0.out _ Hwd.out
                clear hl0 hlr hdp hgd hjl
                cases hfj : f j
                · have hval : dpStep P ls f (j + 1) = false := by rw [hval0, hfj]; rfl
                  have Hset := Lib.hid (hsetD.out _ hval)
                  have Hsb := Lib.hid (hsbD.out false)
                  rw [hfj] at hjc
                  have Hcj : Hid (∀ w', Below G wo w' → w'.cell? ⟨g, j, none⟩ = some (.bool false)) := fun w' hb => by
                    have := canAt.out w' j hb (by omega)
                    rw [hfj] at this
                    exact this
                  clear hval hval0 hsetD hfj hk0 h37
                  go_wp2_with fail
                  refine wp_region_held_drew (S := fun w' => w'.cell? ⟨g, j, none⟩ = some (.bool false)) (by kernel_rfl) hjc (fun hHeld => ?_)
                  (refine wpAnyH_take (i := 0) (oi := ?oi0_34) (v := ?vv0_34) ?hi0_34 (by kernel_rfl) (by kernel_rfl) (by kernel_rfl) ?hQ0_34 ?hy0_34 (by assumption) ?rest0_34; (case hi0_34 => ((simp only [List.getElem?_toArray, List.getElem?_cons_zero]); rfl)); (case hQ0_34 => exact (fun _ _ _ h => h)); (case hy0_34 => (refine Or.inl ⟨by rfl, ?_⟩; intro w hSw; (try dsimp only at hSw); go_simp; try (with_reducible rfl))); (try simp only [Act.put, List.setIfInBounds_toArray, List.set_cons_zero, List.set_cons_succ]))
                  (refine wpAnyH_take (i := 1) (oi := ?oi1_35) (v := ?vv1_35) ?hi1_35 (by kernel_rfl) (by kernel_rfl) (by kernel_rfl) ?hQ1_35 ?hy1_35 (by assumption) ?rest1_35; (case hi1_35 => ((simp only [List.getElem?_toArray, List.getElem?_cons_succ, List.getElem?_cons_zero]); rfl)); (case hQ1_35 => exact (fun _ _ _ h => h)); (case hy1_35 => (refine Or.inl ⟨by rfl, ?_⟩; intro w hSw; (try dsimp only at hSw); go_simp; try (with_reducible rfl))); (try simp only [Act.put, List.setIfInBounds_toArray, List.set_cons_zero, List.set_cons_succ]))
                  (refine wpAnyH_take (i := 2) (oi := ?oi2_36) (v := ?vv2_36) ?hi2_36 (by kernel_rfl) (by kernel_rfl) (by kernel_rfl) ?hQ2_36 ?hy2_36 (by assumption) ?rest2_36; (case hi2_36 => ((simp only [List.getElem?_toArray, List.getElem?_cons_succ, List.getElem?_cons_zero]); rfl)); (case hQ2_36 => exact (fun _ _ _ h => h)); (case hy2_36 => (refine Or.inl ⟨by rfl, ?_⟩; intro w hSw; (try dsimp only at hSw); go_simp; try (with_reducible rfl))); (try simp only [Act.put, List.setIfInBounds_toArray, List.set_cons_zero, List.set_cons_succ]))
                  (refine wpAnyH_take (i := 3) (oi := ?oi3_37) (v := ?vv3_37) ?hi3_37 (by kernel_rfl) (by kernel_rfl) (by kernel_rfl) ?hQ3_37 ?hy3_37 (by assumption) ?rest3_37; (case hi3_37 => ((simp only [List.getElem?_toArray, List.getElem?_cons_succ, List.getElem?_cons_zero]); rfl)); (case hQ3_37 => exact (fun _ _ _ h => h)); (case hy3_37 => (refine Or.inl ⟨by rfl, ?_⟩; intro w hSw; (try dsimp only at hSw); go_simp; try (with_reducible rfl))); (try simp only [Act.put, List.setIfInBounds_toArray, List.set_cons_zero, List.set_cons_succ]))
                  (refine wpAnyH_take (i := 4) (oi := ?oi4_38) (v := ?vv4_38) ?hi4_38 (by kernel_rfl) (by kernel_rfl) (by kernel_rfl) ?hQ4_38 ?hy4_38 (by assumption) ?rest4_38; (case hi4_38 => ((simp only [List.getElem?_toArray, List.getElem?_cons_succ, List.getElem?_cons_zero]); rfl)); (case hQ4_38 => exact (fun _ _ _ h => h)); (case hy4_38 => (refine Or.inl ⟨by rfl, ?_⟩; intro w hSw; (try dsimp only at hSw); go_simp; try (with_reducible rfl))); (try simp only [Act.put, List.setIfInBounds_toArray, List.set_cons_zero, List.set_cons_succ]))
                  (refine wpAnyH_take (i := 5) (oi := ?oi5_39) (v := ?vv5_39) ?hi5_39 (by kernel_rfl) (by kernel_rfl) (by kernel_rfl) ?hQ5_39 ?hy5_39 (by assumption) ?rest5_39; (case hi5_39 => ((simp only [List.getElem?_toArray, List.getElem?_cons_succ, List.getElem?_cons_zero]); rfl)); (case hQ5_39 => exact (fun _ _ _ h => h)); (case hy5_39 => (refine Or.inl ⟨by rfl, ?_⟩; intro w hSw; (try dsimp only at hSw); go_simp; try (with_reducible rfl))); (try simp only [Act.put, List.setIfInBounds_toArray, List.set_cons_zero, List.set_cons_succ]))
                  (refine wpAnyH_take (i := 6) (oi := ?oi6_40) (v := ?vv6_40) ?hi6_40 (by kernel_rfl) (by kernel_rfl) (by kernel_rfl) ?hQ6_40 ?hy6_40 (by assumption) ?rest6_40; (case hi6_40 => ((simp only [List.getElem?_toArray, List.getElem?_cons_succ, List.getElem?_cons_zero]); rfl)); (case hQ6_40 => exact (fun _ _ _ h => h)); (case hy6_40 => (refine Or.inl ⟨by rfl, ?_⟩; intro w hSw; (try dsimp only at hSw); go_simp; try (with_reducible rfl))); (try simp only [Act.put, List.setIfInBounds_toArray, List.set_cons_zero, List.set_cons_succ]))
                  (refine wpAnyH_take (i := 7) (oi := ?oi7_41) (v := ?vv7_41) ?hi7_41 (by kernel_rfl) (by kernel_rfl) (by kernel_rfl) ?hQ7_41 ?hy7_41 (by assumption) ?rest7_41; (case hi7_41 => ((simp only [List.getElem?_toArray, List.getElem?_cons_succ, List.getElem?_cons_zero]); rfl)); (case hQ7_41 => exact (fun _ _ _ h => h)); (case hy7_41 => (refine Or.inl ⟨by rfl, ?_⟩; intro w hSw; (try dsimp only at hSw); go_simp; try (with_reducible rfl))); (try simp only [Act.put, List.setIfInBounds_toArray, List.set_cons_zero, List.set_cons_succ]))
                  (refine wpAnyH_take (i := 8) (oi := ?oi8_42) (v := ?vv8_42) ?hi8_42 (by kernel_rfl) (by kernel_rfl) (by kernel_rfl) ?hQ8_42 ?hy8_42 (by assumption) ?rest8_42; (case hi8_42 => ((simp only [List.getElem?_toArray, List.getElem?_cons_succ, List.getElem?_cons_zero]); rfl)); (case hQ8_42 => exact (fun _ _ _ h => h)); (case hy8_42 => (refine Or.inl ⟨by rfl, ?_⟩; intro w hSw; (try dsimp only at hSw); go_simp; try (with_reducible rfl))); (try simp only [Act.put, List.setIfInBounds_toArray, List.set_cons_zero, List.set_cons_succ]))
                  (refine wpAnyH_take (i := 9) (oi := ?oi9_43) (v := ?vv9_43) ?hi9_43 (by kernel_rfl) (by kernel_rfl) (by kernel_rfl) ?hQ9_43 ?hy9_43 (by assumption) ?rest9_43; (case hi9_43 => ((simp only [List.getElem?_toArray, List.getElem?_cons_succ, List.getElem?_cons_zero]); rfl)); (case hQ9_43 => exact (fun _ _ _ h => h)); (case hy9_43 => (refine Or.inl ⟨by rfl, ?_⟩; intro w hSw; (try dsimp only at hSw); go_simp; try (with_reducible rfl))); (try simp only [Act.put, List.setIfInBounds_toArray, List.set_cons_zero, List.set_cons_succ]))
                  (refine wpAnyH_take (i := 10) (oi := ?oi10_44) (v := ?vv10_44) ?hi10_44 (by kernel_rfl) (by kernel_rfl) (by kernel_rfl) ?hQ10_44 ?hy10_44 (by assumption) ?rest10_44; (case hi10_44 => ((simp only [List.getElem?_toArray, List.getElem?_cons_succ, List.getElem?_cons_zero]); rfl)); (case hQ10_44 => exact (fun _ _ _ h => h)); (case hy10_44 => (refine Or.inl ⟨by rfl, ?_⟩; intro w hSw; (try dsimp only at hSw); go_simp; try (with_reducible rfl))); (try simp only [Act.put, List.setIfInBounds_toArray, List.set_cons_zero, List.set_cons_succ]))
                  (refine wpAnyH_take (i := 11) (oi := ?oi11_45) (v := ?vv11_45) ?hi11_45 (by kernel_rfl) (by kernel_rfl) (by kernel_rfl) ?hQ11_45 ?hy11_45 (by assumption) ?rest11_45; (case hi11_45 => ((simp only [List.getElem?_toArray, List.getElem?_cons_succ, List.getElem?_cons_zero]); rfl)); (case hQ11_45 => exact (fun _ _ _ h => h)); (case hy11_45 => (refine Or.inl ⟨by rfl, ?_⟩; intro w hSw; (try dsimp only at hSw); go_simp; try (with_reducible rfl))); (try simp only [Act.put, List.setIfInBounds_toArray, List.set_cons_zero, List.set_cons_succ]))
                  (refine wpAnyH_take (i := 12) (oi := ?oi12_46) (v := undef) ?hi12_46 (by kernel_rfl) (by kernel_rfl) (by kernel_rfl) ?hQ12_46 ?hy12_46 (by assumption) ?rest12_46; (case hi12_46 => ((simp only [List.getElem?_toArray, List.getElem?_cons_succ, List.getElem?_cons_zero]); rfl)); (case hQ12_46 => exact (fun _ _ _ h => h)); (case hy12_46 => exact Or.inr ⟨by rfl, rfl⟩); (try simp only [Act.put, List.setIfInBounds_toArray, List.set_cons_zero, List.set_cons_succ]))
                  (refine wpAnyH_take (i := 13) (oi := ?oi13_47) (v := undef) ?hi13_47 (by kernel_rfl) (by kernel_rfl) (by kernel_rfl) ?hQ13_47 ?hy13_47 (by assumption) ?rest13_47; (case hi13_47 => ((simp only [List.getElem?_toArray, List.getElem?_cons_succ, List.getElem?_cons_zero]); rfl)); (case hQ13_47 => exact (fun _ _ _ h => h)); (case hy13_47 => exact Or.inr ⟨by rfl, rfl⟩); (try simp only [Act.put, List.setIfInBounds_toArray, List.set_cons_zero, List.set_cons_succ]))
                  (refine wpAnyH_take (i := 14) (oi := ?oi14_48) (v := undef) ?hi14_48 (by kernel_rfl) (by kernel_rfl) (by kernel_rfl) ?hQ14_48 ?hy14_48 (by assumption) ?rest14_48; (case hi14_48 => ((simp only [List.getElem?_toArray, List.getElem?_cons_succ, List.getElem?_cons_zero]); rfl)); (case hQ14_48 => exact (fun _ _ _ h => h)); (case hy14_48 => exact Or.inr ⟨by rfl, rfl⟩); (try simp only [Act.put, List.setIfInBounds_toArray, List.set_cons_zero, List.set_cons_succ]))
                  (refine wpAnyH_take (i := 15) (oi := ?oi15_49) (v := undef) ?hi15_49 (by kernel_rfl) (by kernel_rfl) (by kernel_rfl) ?hQ15_49 ?hy15_49 (by assumption) ?rest15_49; (case hi15_49 => ((simp only [List.getElem?_toArray, List.getElem?_cons_succ, List.getElem?_cons_zero]); rfl)); (case hQ15_49 => exact (fun _ _ _ h => h)); (case hy15_49 => exact Or.inr ⟨by rfl, rfl⟩); (try simp only [Act.put, List.setIfInBounds_toArray, List.set_cons_zero, List.set_cons_succ]))
                  (refine wpAnyH_take (i := 16) (oi := ?oi16_50) (v := undef) ?hi16_50 (by kernel_rfl) (by kernel_rfl) (by kernel_rfl) ?hQ16_50 ?hy16_50 (by assumption) ?rest16_50; (case hi16_50 => ((simp only [List.getElem?_toArray, List.getElem?_cons_succ, List.getElem?_cons_zero]); rfl)); (case hQ16_50 => exact (fun _ _ _ h => h)); (case hy16_50 => exact Or.inr ⟨by rfl, rfl⟩); (try simp only [Act.put, List.setIfInBounds_toArray, List.set_cons_zero, List.set_cons_succ]))
                  (refine wpAnyH_take (i := 17) (oi := ?oi17_51) (v := undef) ?hi17_51 (by kernel_rfl) (by kernel_rfl) (by kernel_rfl) ?hQ17_51 ?hy17_51 (by assumption) ?rest17_51; (case hi17_51 => ((simp only [List.getElem?_toArray, List.getElem?_cons_succ, List.getElem?_cons_zero]); rfl)); (case hQ17_51 => exact (fun _ _ _ h => h)); (case hy17_51 => exact Or.inr ⟨by rfl, rfl⟩); (try simp only [Act.put, List.setIfInBounds_toArray, List.set_cons_zero, List.set_cons_succ]))
                  (refine wpAnyH_take (i := 18) (oi := ?oi18_52) (v := undef) ?hi18_52 (by kernel_rfl) (by kernel_rfl) (by kernel_rfl) ?hQ18_52 ?hy18_52 (by assumption) ?rest18_52; (case hi18_52 => ((simp only [List.getElem?_toArray, List.getElem?_cons_succ, List.getElem?_cons_zero]); rfl)); (case hQ18_52 => exact (fun _ _ _ h => h)); (case hy18_52 => exact Or.inr ⟨by rfl, rfl⟩); (try simp only [Act.put, List.setIfInBounds_toArray, List.set_cons_zero, List.set_cons_succ]))
                  (refine wpAnyH_take (i := 19) (oi := ?oi19_53) (v := undef) ?hi19_53 (by kernel_rfl) (by kernel_rfl) (by kernel_rfl) ?hQ19_53 ?hy19_53 (by assumption) ?rest19_53; (case hi19_53 => ((simp only [List.getElem?_toArray, List.getElem?_cons_succ, List.getElem?_cons_zero]); rfl)); (case hQ19_53 => exact (fun _ _ _ h => h)); (case hy19_53 => exact Or.inr ⟨by rfl, rfl⟩); (try simp only [Act.put, List.setIfInBounds_toArray, List.set_cons_zero, List.set_cons_succ]))
                  (refine wpAnyH_take (i := 20) (oi := ?oi20_54) (v := undef) ?hi20_54 (by kernel_rfl) (by kernel_rfl) (by kernel_rfl) ?hQ20_54 ?hy20_54 (by assumption) ?rest20_54; (case hi20_54 => ((simp only [List.getElem?_toArray, List.getElem?_cons_succ, List.getElem?_cons_zero]); rfl)); (case hQ20_54 => exact (fun _ _ _ h => h)); (case hy20_54 => exact Or.inr ⟨by rfl, rfl⟩); (try simp only [Act.put, List.setIfInBounds_toArray, List.set_cons_zero, List.set_cons_succ]))
                  (refine wpAnyH_take (i := 21) (oi := ?oi21_55) (v := undef) ?hi21_55 (by kernel_rfl) (by kernel_rfl) (by kernel_rfl) ?hQ21_55 ?hy21_55 (by assumption) ?rest21_55; (case hi21_55 => ((simp only [List.getElem?_toArray, List.getElem?_cons_succ, List.getElem?_cons_zero]); rfl)); (case hQ21_55 => exact (fun _ _ _ h => h)); (case hy21_55 => exact Or.inr ⟨by rfl, rfl⟩); (try simp only [Act.put, List.setIfInBounds_toArray, List.set_cons_zero, List.set_cons_succ]))
                  (refine wpAnyH_take (i := 22) (oi := ?oi22_56) (v := undef) ?hi22_56 (by kernel_rfl) (by kernel_rfl) (by kernel_rfl) ?hQ22_56 ?hy22_56 (by assumption) ?rest22_56; (case hi22_56 => ((simp only [List.getElem?_toArray, List.getElem?_cons_succ, List.getElem?_cons_zero]); rfl)); (case hQ22_56 => exact (fun _ _ _ h => h)); (case hy22_56 => exact Or.inr ⟨by rfl, rfl⟩); (try simp only [Act.put, List.setIfInBounds_toArray, List.set_cons_zero, List.set_cons_succ]))
                  (refine wpAnyH_take (i := 23) (oi := ?oi23_57) (v := undef) ?hi23_57 (by kernel_rfl) (by kernel_rfl) (by kernel_rfl) ?hQ23_57 ?hy23_57 (by assumption) ?rest23_57; (case hi23_57 => ((simp only [List.getElem?_toArray, List.getElem?_cons_succ, List.getElem?_cons_zero]); rfl)); (case hQ23_57 => exact (fun _ _ _ h => h)); (case hy23_57 => exact Or.inr ⟨by rfl, rfl⟩); (try simp only [Act.put, List.setIfInBounds_toArray, List.set_cons_zero, List.set_cons_succ]))
                  (refine wpAnyH_take (i := 24) (oi := ?oi24_58) (v := undef) ?hi24_58 (by kernel_rfl) (by kernel_rfl) (by kernel_rfl) ?hQ24_58 ?hy24_58 (by assumption) ?rest24_58; (case hi24_58 => ((simp only [List.getElem?_toArray, List.getElem?_cons_succ, List.getElem?_cons_zero]); rfl)); (case hQ24_58 => exact (fun _ _ _ h => h)); (case hy24_58 => exact Or.inr ⟨by rfl, rfl⟩); (try simp only [Act.put, List.setIfInBounds_toArray, List.set_cons_zero, List.set_cons_succ]))
                  (refine wpAnyH_take (i := 25) (oi := ?oi25_59) (v := undef) ?hi25_59 (by kernel_rfl) (by kernel_rfl) (by kernel_rfl) ?hQ25_59 ?hy25_59 (by assumption) ?rest25_59; (case hi25_59 => ((simp only [List.getElem?_toArray, List.getElem?_cons_succ, List.getElem?_cons_zero]); rfl)); (case hQ25_59 => exact (fun _ _ _ h => h)); (case hy25_59 => exact Or.inr ⟨by rfl, rfl⟩); (try simp only [Act.put, List.setIfInBounds_toArray, List.set_cons_zero, List.set_cons_succ]))
                  (refine wpAnyH_take (i := 26) (oi := ?oi26_60) (v := undef) ?hi26_60 (by kernel_rfl) (by kernel_rfl) (by kernel_rfl) ?hQ26_60 ?hy26_60 (by assumption) ?rest26_60; (case hi26_60 => ((simp only [List.getElem?_toArray, List.getElem?_cons_succ, List.getElem?_cons_zero]); rfl)); (case hQ26_60 => exact (fun _ _ _ h => h)); (case hy26_60 => exact Or.inr ⟨by rfl, rfl⟩); (try simp only [Act.put, List.setIfInBounds_toArray, List.set_cons_zero, List.set_cons_succ]))
                  (refine wpAnyH_take (i := 27) (oi := ?oi27_61) (v := undef) ?hi27_61 (by kernel_rfl) (by kernel_rfl) (by kernel_rfl) ?hQ27_61 ?hy27_61 (by assumption) ?rest27_61; (case hi27_61 => ((simp only [List.getElem?_toArray, List.getElem?_cons_succ, List.getElem?_cons_zero]); rfl)); (case hQ27_61 => exact (fun _ _ _ h => h)); (case hy27_61 => exact Or.inr ⟨by rfl, rfl⟩); (try simp only [Act.put, List.setIfInBounds_toArray, List.set_cons_zero, List.set_cons_succ]))
                  (refine wpAnyH_take (i := 28) (oi := ?oi28_62) (v := undef) ?hi28_62 (by kernel_rfl) (by kernel_rfl) (by kernel_rfl) ?hQ28_62 ?hy28_62 (by assumption) ?rest28_62; (case hi28_62 => ((simp only [List.getElem?_toArray, List.getElem?_cons_succ, List.getElem?_cons_zero]); rfl)); (case hQ28_62 => exact (fun _ _ _ h => h)); (case hy28_62 => exact Or.inr ⟨by rfl, rfl⟩); (try simp only [Act.put, List.setIfInBounds_toArray, List.set_cons_zero, List.set_cons_succ]))
                  (refine wpAnyH_take (i := 29) (oi := ?oi29_63) (v := undef) ?hi29_63 (by kernel_rfl) (by kernel_rfl) (by kernel_rfl) ?hQ29_63 ?hy29_63 (by assumption) ?rest29_63; (case hi29_63 => ((simp only [List.getElem?_toArray, List.getElem?_cons_succ, List.getElem?_cons_zero]); rfl)); (case hQ29_63 => exact (fun _ _ _ h => h)); (case hy29_63 => exact Or.inr ⟨by rfl, rfl⟩); (try simp only [Act.put, List.setIfInBounds_toArray, List.set_cons_zero, List.set_cons_succ]))
                  (refine wpAnyH_take (i := 30) (oi := ?oi30_64) (v := ?vv30_64) ?hi30_64 (by kernel_rfl) (by kernel_rfl) (by kernel_rfl) ?hQ30_64 ?hy30_64 (by assumption) ?rest30_64; (case hi30_64 => ((simp only [List.getElem?_toArray, List.getElem?_cons_succ, List.getElem?_cons_zero]); rfl)); (case hQ30_64 => exact (fun _ _ _ h => h)); (case hy30_64 => (refine Or.inl ⟨by rfl, ?_⟩; intro w hSw; (try dsimp only at hSw); go_simp; try (with_reducible rfl))); (try simp only [Act.put, List.setIfInBounds_toArray, List.set_cons_zero, List.set_cons_succ]))
                  (refine wpAnyH_take (i := 31) (oi := ?oi31_65) (v := ?vv31_65) ?hi31_65 (by kernel_rfl) (by kernel_rfl) (by kernel_rfl) ?hQ31_65 ?hy31_65 (by assumption) ?rest31_65; (case hi31_65 => ((simp only [List.getElem?_toArray, List.getElem?_cons_succ, List.getElem?_cons_zero]); rfl)); (case hQ31_65 => exact (fun _ _ _ h => h)); (case hy31_65 => (refine Or.inl ⟨by rfl, ?_⟩; intro w hSw; (try dsimp only at hSw); go_simp; try (with_reducible rfl))); (try simp only [Act.put, List.setIfInBounds_toArray, List.set_cons_zero, List.set_cons_succ]))
                  (refine wpAnyH_ready (rs := [32]) (by kernel_rfl) (by simp) ?_; refine AllReadyH.cons (o := ?oc32_66) ?ho32_66 (fun K hK => ?_) AllReadyH.nil; (case ho32_66 => ((simp only [List.getElem?_toArray, List.getElem?_cons_succ, List.getElem?_cons_zero]); rfl)); go_simp)
                  go_wp2_with fail
                  refine hK.out _ _ (Hcj.out _ Hsb.out) (fun hHeld2 => ?_)
                  refine wpAnyH_done (by kernel_rfl) ?_ _
                  clear hHeld hHeld2
                  go_wp2_with fail
                  go_roundw
                  case rel => exact ⟨j + 1 + 1, by go_num, by omega, Hset, Hsb⟩
                  case measure => first | (simp [intOf]; done) | (simp [intOf]; omega)
                · rw [hfj, Bool.true_and] at hval0
                  rw [hfj] at hjc
                  by_cases h95 : P.kind = 95
                  · have e95 : (P.kind == 95) = true := by simpa using h95
                    have hval : dpStep P ls f (j + 1) = true := by rw [hval0, decide_eq_true (.inl h95)]
                    have Hset := Lib.hid (hsetD.out _ hval)
                    have Hsb := Lib.hid (hsbD.out true)
                    rw [e95] at r1
                    have Hcj : Hid (∀ w', Below G wo w' → w'.cell? ⟨g, j, none⟩ = some (.bool true) ∧ w'.cell? ⟨pb, po + i * 3 + 1, none⟩ = some (.bool true) ∧ w'.cell? ⟨pb, po + i * 3 + 2, none⟩ = some (.string (St8 P.letter)) ∧ w'.cell? ⟨lb, lo + j, none⟩ = some (.string (St8 x))) := fun w' hb => by
                      have h1 := canAt.out w' j hb (by omega)
                      rw [hfj] at h1
                      obtain ⟨k0, k1, k2⟩ := keep.out w' hb
                      rw [e95] at k1
                      exact ⟨h1, k1, k2, hll0.out w' hb⟩
                    clear hval hval0 hsetD hfj hk0 h95 h37
                    go_wp2_with fail
                    refine wp_region_held_drew (S := fun w' => w'.cell? ⟨g, j, none⟩ = some (.bool true) ∧ w'.cell? ⟨pb, po + i * 3 + 1, none⟩ = some (.bool true) ∧ w'.cell? ⟨pb, po + i * 3 + 2, none⟩ = some (.string (St8 P.letter)) ∧ w'.cell? ⟨lb, lo + j, none⟩ = some (.string (St8 x))) (by kernel_rfl) ⟨hjc, r1, r2, hlx⟩ (fun hHeld => ?_)
                    (refine wpAnyH_take (i := 0) (oi := ?oi0_67) (v := ?vv0_67) ?hi0_67 (by kernel_rfl) (by kernel_rfl) (by kernel_rfl) ?hQ0_67 ?hy0_67 (by assumption) ?rest0_67; (case hi0_67 => ((simp only [List.getElem?_toArray, List.getElem?_cons_zero]); rfl)); (case hQ0_67 => exact (fun _ _ _ h => h)); (case hy0_67 => (refine Or.inl ⟨by rfl, ?_⟩; intro w hSw; (try dsimp only at hSw); go_simp; try (with_reducible rfl))); (try simp only [Act.put, List.setIfInBounds_toArray, List.set_cons_zero, List.set_cons_succ]))
                    (refine wpAnyH_take (i := 1) (oi := ?oi1_68) (v := ?vv1_68) ?hi1_68 (by kernel_rfl) (by kernel_rfl) (by kernel_rfl) ?hQ1_68 ?hy1_68 (by assumption) ?rest1_68; (case hi1_68 => ((simp only [List.getElem?_toArray, List.getElem?_cons_succ, List.getElem?_cons_zero]); rfl)); (case hQ1_68 => exact (fun _ _ _ h => h)); (case hy1_68 => (refine Or.inl ⟨by rfl, ?_⟩; intro w hSw; (try dsimp only at hSw); go_simp; try (with_reducible rfl))); (try simp only [Act.put, List.setIfInBounds_toArray, List.set_cons_zero, List.set_cons_succ]))
                    (refine wpAnyH_take (i := 2) (oi := ?oi2_69) (v := ?vv2_69) ?hi2_69 (by kernel_rfl) (by kernel_rfl) (by kernel_rfl) ?hQ2_69 ?hy2_69 (by assumption) ?rest2_69; (case hi2_69 => ((simp only [List.getElem?_toArray, List.getElem?_cons_succ, List.getElem?_cons_zero]); rfl)); (case hQ2_69 => exact (fun _ _ _ h => h)); (case hy2_69 => (refine Or.inl ⟨by rfl, ?_⟩; intro w hSw; (try dsimp only at hSw); go_simp; try (with_reducible rfl))); (try simp only [Act.put, List.setIfInBounds_toArray, List.set_cons_zero, List.set_cons_succ]))
                    (refine wpAnyH_take (i := 3) (oi := ?oi3_70) (v := ?vv3_70) ?hi3_70 (by kernel_rfl) (by kernel_rfl) (by kernel_rfl) ?hQ3_70 ?hy3_70 (by assumption) ?rest3_70; (case hi3_70 => ((simp only [List.getElem?_toArray, List.getElem?_cons_succ, List.getElem?_cons_zero]); rfl)); (case hQ3_70 => exact (fun _ _ _ h => h)); (case hy3_70 => (refine Or.inl ⟨by rfl, ?_⟩; intro w hSw; (try dsimp only at hSw); go_simp; try (with_reducible rfl))); (try simp only [Act.put, List.setIfInBounds_toArray, List.set_cons_zero, List.set_cons_succ]))
                    (refine wpAnyH_take (i := 4) (oi := ?oi4_71) (v := ?vv4_71) ?hi4_71 (by kernel_rfl) (by kernel_rfl) (by kernel_rfl) ?hQ4_71 ?hy4_71 (by assumption) ?rest4_71; (case hi4_71 => ((simp only [List.getElem?_toArray, List.getElem?_cons_succ, List.getElem?_cons_zero]); rfl)); (case hQ4_71 => exact (fun _ _ _ h => h)); (case hy4_71 => (refine Or.inl ⟨by rfl, ?_⟩; intro w hSw; (try dsimp only at hSw); go_simp; try (with_reducible rfl))); (try simp only [Act.put, List.setIfInBounds_toArray, List.set_cons_zero, List.set_cons_succ]))
                    (refine wpAnyH_take (i := 5) (oi := ?oi5_72) (v := ?vv5_72) ?hi5_72 (by kernel_rfl) (by kernel_rfl) (by kernel_rfl) ?hQ5_72 ?hy5_72 (by assumption) ?rest5_72; (case hi5_72 => ((simp only [List.getElem?_toArray, List.getElem?_cons_succ, List.getElem?_cons_zero]); rfl)); (case hQ5_72 => exact (fun _ _ _ h => h)); (case hy5_72 => (refine Or.inl ⟨by rfl, ?_⟩; intro w hSw; (try dsimp only at hSw); go_simp; try (with_reducible rfl))); (try simp only [Act.put, List.setIfInBounds_toArray, List.set_cons_zero, List.set_cons_succ]))
                    (refine wpAnyH_take (i := 6) (oi := ?oi6_73) (v := ?vv6_73) ?hi6_73 (by kernel_rfl) (by kernel_rfl) (by kernel_rfl) ?hQ6_73 ?hy6_73 (by assumption) ?rest6_73; (case hi6_73 => ((simp only [List.getElem?_toArray, List.getElem?_cons_succ, List.getElem?_cons_zero]); rfl)); (case hQ6_73 => exact (fun _ _ _ h => h)); (case hy6_73 => (refine Or.inl ⟨by rfl, ?_⟩; intro w hSw; (try dsimp only at hSw); go_simp; try (with_reducible rfl))); (try simp only [Act.put, List.setIfInBounds_toArray, List.set_cons_zero, List.set_cons_succ]))
                    (refine wpAnyH_take (i := 7) (oi := ?oi7_74) (v := ?vv7_74) ?hi7_74 (by kernel_rfl) (by kernel_rfl) (by kernel_rfl) ?hQ7_74 ?hy7_74 (by assumption) ?rest7_74; (case hi7_74 => ((simp only [List.getElem?_toArray, List.getElem?_cons_succ, List.getElem?_cons_zero]); rfl)); (case hQ7_74 => exact (fun _ _ _ h => h)); (case hy7_74 => (refine Or.inl ⟨by rfl, ?_⟩; intro w hSw; (try dsimp only at hSw); go_simp; try (with_reducible rfl))); (try simp only [Act.put, List.setIfInBounds_toArray, List.set_cons_zero, List.set_cons_succ]))
                    (refine wpAnyH_take (i := 8) (oi := ?oi8_75) (v := ?vv8_75) ?hi8_75 (by kernel_rfl) (by kernel_rfl) (by kernel_rfl) ?hQ8_75 ?hy8_75 (by assumption) ?rest8_75; (case hi8_75 => ((simp only [List.getElem?_toArray, List.getElem?_cons_succ, List.getElem?_cons_zero]); rfl)); (case hQ8_75 => exact (fun _ _ _ h => h)); (case hy8_75 => (refine Or.inl ⟨by rfl, ?_⟩; intro w hSw; (try dsimp only at hSw); go_simp; try (with_reducible rfl))); (try simp only [Act.put, List.setIfInBounds_toArray, List.set_cons_zero, List.set_cons_succ]))
                    (refine wpAnyH_take (i := 9) (oi := ?oi9_76) (v := ?vv9_76) ?hi9_76 (by kernel_rfl) (by kernel_rfl) (by kernel_rfl) ?hQ9_76 ?hy9_76 (by assumption) ?rest9_76; (case hi9_76 => ((simp only [List.getElem?_toArray, List.getElem?_cons_succ, List.getElem?_cons_zero]); rfl)); (case hQ9_76 => exact (fun _ _ _ h => h)); (case hy9_76 => (refine Or.inl ⟨by rfl, ?_⟩; intro w hSw; (try dsimp only at hSw); go_simp; try (with_reducible rfl))); (try simp only [Act.put, List.setIfInBounds_toArray, List.set_cons_zero, List.set_cons_succ]))
                    (refine wpAnyH_take (i := 10) (oi := ?oi10_77) (v := ?vv10_77) ?hi10_77 (by kernel_rfl) (by kernel_rfl) (by kernel_rfl) ?hQ10_77 ?hy10_77 (by assumption) ?rest10_77; (case hi10_77 => ((simp only [List.getElem?_toArray, List.getElem?_cons_succ, List.getElem?_cons_zero]); rfl)); (case hQ10_77 => exact (fun _ _ _ h => h)); (case hy10_77 => (refine Or.inl ⟨by rfl, ?_⟩; intro w hSw; (try dsimp only at hSw); go_simp; try (with_reducible rfl))); (try simp only [Act.put, List.setIfInBounds_toArray, List.set_cons_zero, List.set_cons_succ]))
                    (refine wpAnyH_take (i := 11) (oi := ?oi11_78) (v := ?vv11_78) ?hi11_78 (by kernel_rfl) (by kernel_rfl) (by kernel_rfl) ?hQ11_78 ?hy11_78 (by assumption) ?rest11_78; (case hi11_78 => ((simp only [List.getElem?_toArray, List.getElem?_cons_succ, List.getElem?_cons_zero]); rfl)); (case hQ11_78 => exact (fun _ _ _ h => h)); (case hy11_78 => (refine Or.inl ⟨by rfl, ?_⟩; intro w hSw; (try dsimp only at hSw); go_simp; try (with_reducible rfl))); (try simp only [Act.put, List.setIfInBounds_toArray, List.set_cons_zero, List.set_cons_succ]))
                    (refine wpAnyH_take (i := 12) (oi := ?oi12_79) (v := ?vv12_79) ?hi12_79 (by kernel_rfl) (by kernel_rfl) (by kernel_rfl) ?hQ12_79 ?hy12_79 (by assumption) ?rest12_79; (case hi12_79 => ((simp only [List.getElem?_toArray, List.getElem?_cons_succ, List.getElem?_cons_zero]); rfl)); (case hQ12_79 => exact (fun _ _ _ h => h)); (case hy12_79 => (refine Or.inl ⟨by rfl, ?_⟩; intro w hSw; (try dsimp only at hSw); go_simp; try (with_reducible rfl))); (try simp only [Act.put, List.setIfInBounds_toArray, List.set_cons_zero, List.set_cons_succ]))
                    (refine wpAnyH_take (i := 13) (oi := ?oi13_80) (v := ?vv13_80) ?hi13_80 (by kernel_rfl) (by kernel_rfl) (by kernel_rfl) ?hQ13_80 ?hy13_80 (by assumption) ?rest13_80; (case hi13_80 => ((simp only [List.getElem?_toArray, List.getElem?_cons_succ, List.getElem?_cons_zero]); rfl)); (case hQ13_80 => exact (fun _ _ _ h => h)); (case hy13_80 => (refine Or.inl ⟨by rfl, ?_⟩; intro w hSw; (try dsimp only at hSw); go_simp; try (with_reducible rfl))); (try simp only [Act.put, List.setIfInBounds_toArray, List.set_cons_zero, List.set_cons_succ]))
                    (refine wpAnyH_take (i := 14) (oi := ?oi14_81) (v := ?vv14_81) ?hi14_81 (by kernel_rfl) (by kernel_rfl) (by kernel_rfl) ?hQ14_81 ?hy14_81 (by assumption) ?rest14_81; (case hi14_81 => ((simp only [List.getElem?_toArray, List.getElem?_cons_succ, List.getElem?_cons_zero]); rfl)); (case hQ14_81 => exact (fun _ _ _ h => h)); (case hy14_81 => (refine Or.inl ⟨by rfl, ?_⟩; intro w hSw; (try dsimp only at hSw); go_simp; try (with_reducible rfl))); (try simp only [Act.put, List.setIfInBounds_toArray, List.set_cons_zero, List.set_cons_succ]))
                    (refine wpAnyH_take (i := 15) (oi := ?oi15_82) (v := ?vv15_82) ?hi15_82 (by kernel_rfl) (by kernel_rfl) (by kernel_rfl) ?hQ15_82 ?hy15_82 (by assumption) ?rest15_82; (case hi15_82 => ((simp only [List.getElem?_toArray, List.getElem?_cons_succ, List.getElem?_cons_zero]); rfl)); (case hQ15_82 => exact (fun _ _ _ h => h)); (case hy15_82 => (refine Or.inl ⟨by rfl, ?_⟩; intro w hSw; (try dsimp only at hSw); go_simp; try (with_reducible rfl))); (try simp only [Act.put, List.setIfInBounds_toArray, List.set_cons_zero, List.set_cons_succ]))
                    (refine wpAnyH_take (i := 16) (oi := ?oi16_83) (v := ?vv16_83) ?hi16_83 (by kernel_rfl) (by kernel_rfl) (by kernel_rfl) ?hQ16_83 ?hy16_83 (by assumption) ?rest16_83; (case hi16_83 => ((simp only [List.getElem?_toArray, List.getElem?_cons_succ, List.getElem?_cons_zero]); rfl)); (case hQ16_83 => exact (fun _ _ _ h => h)); (case hy16_83 => (refine Or.inl ⟨by rfl, ?_⟩; intro w hSw; (try dsimp only at hSw); go_simp; try (with_reducible rfl))); (try simp only [Act.put, List.setIfInBounds_toArray, List.set_cons_zero, List.set_cons_succ]))
                    (refine wpAnyH_take (i := 17) (oi := ?oi17_84) (v := ?vv17_84) ?hi17_84 (by kernel_rfl) (by kernel_rfl) (by kernel_rfl) ?hQ17_84 ?hy17_84 (by assumption) ?rest17_84; (case hi17_84 => ((simp only [List.getElem?_toArray, List.getElem?_cons_succ, List.getElem?_cons_zero]); rfl)); (case hQ17_84 => exact (fun _ _ _ h => h)); (case hy17_84 => (refine Or.inl ⟨by rfl, ?_⟩; intro w hSw; (try dsimp only at hSw); go_simp; try (with_reducible rfl))); (try simp only [Act.put, List.setIfInBounds_toArray, List.set_cons_zero, List.set_cons_succ]))
                    (refine wpAnyH_take (i := 18) (oi := ?oi18_85) (v := undef) ?hi18_85 (by kernel_rfl) (by kernel_rfl) (by kernel_rfl) ?hQ18_85 ?hy18_85 (by assumption) ?rest18_85; (case hi18_85 => ((simp only [List.getElem?_toArray, List.getElem?_cons_succ, List.getElem?_cons_zero]); rfl)); (case hQ18_85 => exact (fun _ _ _ h => h)); (case hy18_85 => exact Or.inr ⟨by rfl, rfl⟩); (try simp only [Act.put, List.setIfInBounds_toArray, List.set_cons_zero, List.set_cons_succ]))
                    (refine wpAnyH_take (i := 19) (oi := ?oi19_86) (v := undef) ?hi19_86 (by kernel_rfl) (by kernel_rfl) (by kernel_rfl) ?hQ19_86 ?hy19_86 (by assumption) ?rest19_86; (case hi19_86 => ((simp only [List.getElem?_toArray, List.getElem?_cons_succ, List.getElem?_cons_zero]); rfl)); (case hQ19_86 => exact (fun _ _ _ h => h)); (case hy19_86 => exact Or.inr ⟨by rfl, rfl⟩); (try simp only [Act.put, List.setIfInBounds_toArray, List.set_cons_zero, List.set_cons_succ]))
                    (refine wpAnyH_take (i := 20) (oi := ?oi20_87) (v := undef) ?hi20_87 (by kernel_rfl) (by kernel_rfl) (by kernel_rfl) ?hQ20_87 ?hy20_87 (by assumption) ?rest20_87; (case hi20_87 => ((simp only [List.getElem?_toArray, List.getElem?_cons_succ, List.getElem?_cons_zero]); rfl)); (case hQ20_87 => exact (fun _ _ _ h => h)); (case hy20_87 => exact Or.inr ⟨by rfl, rfl⟩); (try simp only [Act.put, List.setIfInBounds_toArray, List.set_cons_zero, List.set_cons_succ]))
                    (refine wpAnyH_take (i := 21) (oi := ?oi21_88) (v := undef) ?hi21_88 (by kernel_rfl) (by kernel_rfl) (by kernel_rfl) ?hQ21_88 ?hy21_88 (by assumption) ?rest21_88; (case hi21_88 => ((simp only [List.getElem?_toArray, List.getElem?_cons_succ, List.getElem?_cons_zero]); rfl)); (case hQ21_88 => exact (fun _ _ _ h => h)); (case hy21_88 => exact Or.inr ⟨by rfl, rfl⟩); (try simp only [Act.put, List.setIfInBounds_toArray, List.set_cons_zero, List.set_cons_succ]))
                    (refine wpAnyH_take (i := 22) (oi := ?oi22_89) (v := undef) ?hi22_89 (by kernel_rfl) (by kernel_rfl) (by kernel_rfl) ?hQ22_89 ?hy22_89 (by assumption) ?rest22_89; (case hi22_89 => ((simp only [List.getElem?_toArray, List.getElem?_cons_succ, List.getElem?_cons_zero]); rfl)); (case hQ22_89 => exact (fun _ _ _ h => h)); (case hy22_89 => exact Or.inr ⟨by rfl, rfl⟩); (try simp only [Act.put, List.setIfInBounds_toArray, List.set_cons_zero, List.set_cons_succ]))
                    (refine wpAnyH_take (i := 23) (oi := ?oi23_90) (v := undef) ?hi23_90 (by kernel_rfl) (by kernel_rfl) (by kernel_rfl) ?hQ23_90 ?hy23_90 (by assumption) ?rest23_90; (case hi23_90 => ((simp only [List.getElem?_toArray, List.getElem?_cons_succ, List.getElem?_cons_zero]); rfl)); (case hQ23_90 => exact (fun _ _ _ h => h)); (case hy23_90 => exact Or.inr ⟨by rfl, rfl⟩); (try simp only [Act.put, List.setIfInBounds_toArray, List.set_cons_zero, List.set_cons_succ]))
                    (refine wpAnyH_take (i := 24) (oi := ?oi24_91) (v := undef) ?hi24_91 (by kernel_rfl) (by kernel_rfl) (by kernel_rfl) ?hQ24_91 ?hy24_91 (by assumption) ?rest24_91; (case hi24_91 => ((simp only [List.getElem?_toArray, List.getElem?_cons_succ, List.getElem?_cons_zero]); rfl)); (case hQ24_91 => exact (fun _ _ _ h => h)); (case hy24_91 => exact Or.inr ⟨by rfl, rfl⟩); (try simp only [Act.put, List.setIfInBounds_toArray, List.set_cons_zero, List.set_cons_succ]))
                    (refine wpAnyH_take (i := 25) (oi := ?oi25_92) (v := undef) ?hi25_92 (by kernel_rfl) (by kernel_rfl) (by kernel_rfl) ?hQ25_92 ?hy25_92 (by assumption) ?rest25_92; (case hi25_92 => ((simp only [List.getElem?_toArray, List.getElem?_cons_succ, List.getElem?_cons_zero]); rfl)); (case hQ25_92 => exact (fun _ _ _ h => h)); (case hy25_92 => exact Or.inr ⟨by rfl, rfl⟩); (try simp only [Act.put, List.setIfInBounds_toArray, List.set_cons_zero, List.set_cons_succ]))
                    (refine wpAnyH_take (i := 26) (oi := ?oi26_93) (v := undef) ?hi26_93 (by kernel_rfl) (by kernel_rfl) (by kernel_rfl) ?hQ26_93 ?hy26_93 (by assumption) ?rest26_93; (case hi26_93 => ((simp only [List.getElem?_toArray, List.getElem?_cons_succ, List.getElem?_cons_zero]); rfl)); (case hQ26_93 => exact (fun _ _ _ h => h)); (case hy26_93 => exact Or.inr ⟨by rfl, rfl⟩); (try simp only [Act.put, List.setIfInBounds_toArray, List.set_cons_zero, List.set_cons_succ]))
                    (refine wpAnyH_take (i := 27) (oi := ?oi27_94) (v := undef) ?hi27_94 (by kernel_rfl) (by kernel_rfl) (by kernel_rfl) ?hQ27_94 ?hy27_94 (by assumption) ?rest27_94; (case hi27_94 => ((simp only [List.getElem?_toArray, List.getElem?_cons_succ, List.getElem?_cons_zero]); rfl)); (case hQ27_94 => exact (fun _ _ _ h => h)); (case hy27_94 => exact Or.inr ⟨by rfl, rfl⟩); (try simp only [Act.put, List.setIfInBounds_toArray, List.set_cons_zero, List.set_cons_succ]))
                    (refine wpAnyH_take (i := 28) (oi := ?oi28_95) (v := undef) ?hi28_95 (by kernel_rfl) (by kernel_rfl) (by kernel_rfl) ?hQ28_95 ?hy28_95 (by assumption) ?rest28_95; (case hi28_95 => ((simp only [List.getElem?_toArray, List.getElem?_cons_succ, List.getElem?_cons_zero]); rfl)); (case hQ28_95 => exact (fun _ _ _ h => h)); (case hy28_95 => exact Or.inr ⟨by rfl, rfl⟩); (try simp only [Act.put, List.setIfInBounds_toArray, List.set_cons_zero, List.set_cons_succ]))
                    (refine wpAnyH_take (i := 29) (oi := ?oi29_96) (v := ?vv29_96) ?hi29_96 (by kernel_rfl) (by kernel_rfl) (by kernel_rfl) ?hQ29_96 ?hy29_96 (by assumption) ?rest29_96; (case hi29_96 => ((simp only [List.getElem?_toArray, List.getElem?_cons_succ, List.getElem?_cons_zero]); rfl)); (case hQ29_96 => exact (fun _ _ _ h => h)); (case hy29_96 => (refine Or.inl ⟨by rfl, ?_⟩; intro w hSw; (try dsimp only at hSw); go_simp; try (with_reducible rfl))); (try simp only [Act.put, List.setIfInBounds_toArray, List.set_cons_zero, List.set_cons_succ]))
                    (refine wpAnyH_take (i := 30) (oi := ?oi30_97) (v := ?vv30_97) ?hi30_97 (by kernel_rfl) (by kernel_rfl) (by kernel_rfl) ?hQ30_97 ?hy30_97 (by assumption) ?rest30_97; (case hi30_97 => ((simp only [List.getElem?_toArray, List.getElem?_cons_succ, List.getElem?_cons_zero]); rfl)); (case hQ30_97 => exact (fun _ _ _ h => h)); (case hy30_97 => (refine Or.inl ⟨by rfl, ?_⟩; intro w hSw; (try dsimp only at hSw); go_simp; try (with_reducible rfl))); (try simp only [Act.put, List.setIfInBounds_toArray, List.set_cons_zero, List.set_cons_succ]))
                    (refine wpAnyH_take (i := 31) (oi := ?oi31_98) (v := ?vv31_98) ?hi31_98 (by kernel_rfl) (by kernel_rfl) (by kernel_rfl) ?hQ31_98 ?hy31_98 (by assumption) ?rest31_98; (case hi31_98 => ((simp only [List.getElem?_toArray, List.getElem?_cons_succ, List.getElem?_cons_zero]); rfl)); (case hQ31_98 => exact (fun _ _ _ h => h)); (case hy31_98 => (refine Or.inl ⟨by rfl, ?_⟩; intro w hSw; (try dsimp only at hSw); go_simp; try (with_reducible rfl))); (try simp only [Act.put, List.setIfInBounds_toArray, List.set_cons_zero, List.set_cons_succ]))
                    (refine wpAnyH_ready (rs := [32]) (by kernel_rfl) (by simp) ?_; refine AllReadyH.cons (o := ?oc32_99) ?ho32_99 (fun K hK => ?_) AllReadyH.nil; (case ho32_99 => ((simp only [List.getElem?_toArray, List.getElem?_cons_succ, List.getElem?_cons_zero]); rfl)); go_simp)
                    go_wp2_with fail
                    refine hK.out _ _ (Hcj.out _ Hsb.out) (fun hHeld2 => ?_)
                    refine wpAnyH_done (by kernel_rfl) ?_ _
                    clear hHeld hHeld2
                    go_wp2_with fail
                    go_roundw
                    case rel => exact ⟨j + 1 + 1, by go_num, by omega, Hset, Hsb⟩
                    case measure => first | (simp [intOf]; done) | (simp [intOf]; omega)
                  · have e95 : (P.kind == 95) = false := by simpa using h95
                    have hcmp := St8_cmp P.letter x
                    have hval : dpStep P ls f (j + 1) = decide (P.letter = x) := by
                      rw [hval0]
                      exact one_zero (by rcases Hkd.out with h | h | h; exact h; exact absurd h h37; exact absurd h h95)
                    have Hset := Lib.hid (hsetD.out _ hval)
                    have Hsb := Lib.hid (hsbD.out (decide (P.letter = x)))
                    rw [e95] at r1
                    generalize decide (P.letter = x) = eqb at *
                    have Hcj : Hid (∀ w', Below G wo w' → w'.cell? ⟨g, j, none⟩ = some (.bool true) ∧ w'.cell? ⟨pb, po + i * 3 + 1, none⟩ = some (.bool false) ∧ w'.cell? ⟨pb, po + i * 3 + 2, none⟩ = some (.string (St8 P.letter)) ∧ w'.cell? ⟨lb, lo + j, none⟩ = some (.string (St8 x))) := fun w' hb => by
                      have h1 := canAt.out w' j hb (by omega)
                      rw [hfj] at h1
                      obtain ⟨k0, k1, k2⟩ := keep.out w' hb
                      rw [e95] at k1
                      exact ⟨h1, k1, k2, hll0.out w' hb⟩
                    clear hval hval0 hsetD hfj hk0 h95 h37
                    go_wp2_with fail
                    refine wp_region_held_drew (S := fun w' => w'.cell? ⟨g, j, none⟩ = some (.bool true) ∧ w'.cell? ⟨pb, po + i * 3 + 1, none⟩ = some (.bool false) ∧ w'.cell? ⟨pb, po + i * 3 + 2, none⟩ = some (.string (St8 P.letter)) ∧ w'.cell? ⟨lb, lo + j, none⟩ = some (.string (St8 x))) (by kernel_rfl) ⟨hjc, r1, r2, hlx⟩ (fun hHeld => ?_)
                    (refine wpAnyH_take (i := 0) (oi := ?oi0_100) (v := ?vv0_100) ?hi0_100 (by kernel_rfl) (by kernel_rfl) (by kernel_rfl) ?hQ0_100 ?hy0_100 (by assumption) ?rest0_100; (case hi0_100 => ((simp only [List.getElem?_toArray, List.getElem?_cons_zero]); rfl)); (case hQ0_100 => exact (fun _ _ _ h => h)); (case hy0_100 => (refine Or.inl ⟨by rfl, ?_⟩; intro w hSw; (try dsimp only at hSw); go_simp; try (with_reducible rfl))); (try simp only [Act.put, List.setIfInBounds_toArray, List.set_cons_zero, List.set_cons_succ]))
                    (refine wpAnyH_take (i := 1) (oi := ?oi1_101) (v := ?vv1_101) ?hi1_101 (by kernel_rfl) (by kernel_rfl) (by kernel_rfl) ?hQ1_101 ?hy1_101 (by assumption) ?rest1_101; (case hi1_101 => ((simp only [List.getElem?_toArray, List.getElem?_cons_succ, List.getElem?_cons_zero]); rfl)); (case hQ1_101 => exact (fun _ _ _ h => h)); (case hy1_101 => (refine Or.inl ⟨by rfl, ?_⟩; intro w hSw; (try dsimp only at hSw); go_simp; try (with_reducible rfl))); (try simp only [Act.put, List.setIfInBounds_toArray, List.set_cons_zero, List.set_cons_succ]))
                    (refine wpAnyH_take (i := 2) (oi := ?oi2_102) (v := ?vv2_102) ?hi2_102 (by kernel_rfl) (by kernel_rfl) (by kernel_rfl) ?hQ2_102 ?hy2_102 (by assumption) ?rest2_102; (case hi2_102 => ((simp only [List.getElem?_toArray, List.getElem?_cons_succ, List.getElem?_cons_zero]); rfl)); (case hQ2_102 => exact (fun _ _ _ h => h)); (case hy2_102 => (refine Or.inl ⟨by rfl, ?_⟩; intro w hSw; (try dsimp only at hSw); go_simp; try (with_reducible rfl))); (try simp only [Act.put, List.setIfInBounds_toArray, List.set_cons_zero, List.set_cons_succ]))
                    (refine wpAnyH_take (i := 3) (oi := ?oi3_103) (v := ?vv3_103) ?hi3_103 (by kernel_rfl) (by kernel_rfl) (by kernel_rfl) ?hQ3_103 ?hy3_103 (by assumption) ?rest3_103; (case hi3_103 => ((simp only [List.getElem?_toArray, List.getElem?_cons_succ, List.getElem?_cons_zero]); rfl)); (case hQ3_103 => exact (fun _ _ _ h => h)); (case hy3_103 => (refine Or.inl ⟨by rfl, ?_⟩; intro w hSw; (try dsimp only at hSw); go_simp; try (with_reducible rfl))); (try simp only [Act.put, List.setIfInBounds_toArray, List.set_cons_zero, List.set_cons_succ]))
                    (refine wpAnyH_take (i := 4) (oi := ?oi4_104) (v := ?vv4_104) ?hi4_104 (by kernel_rfl) (by kernel_rfl) (by kernel_rfl) ?hQ4_104 ?hy4_104 (by assumption) ?rest4_104; (case hi4_104 => ((simp only [List.getElem?_toArray, List.getElem?_cons_succ, List.getElem?_cons_zero]); rfl)); (case hQ4_104 => exact (fun _ _ _ h => h)); (case hy4_104 => (refine Or.inl ⟨by rfl, ?_⟩; intro w hSw; (try dsimp only at hSw); go_simp; try (with_reducible rfl))); (try simp only [Act.put, List.setIfInBounds_toArray, List.set_cons_zero, List.set_cons_succ]))
                    (refine wpAnyH_take (i := 5) (oi := ?oi5_105) (v := ?vv5_105) ?hi5_105 (by kernel_rfl) (by kernel_rfl) (by kernel_rfl) ?hQ5_105 ?hy5_105 (by assumption) ?rest5_105; (case hi5_105 => ((simp only [List.getElem?_toArray, List.getElem?_cons_succ, List.getElem?_cons_zero]); rfl)); (case hQ5_105 => exact (fun _ _ _ h => h)); (case hy5_105 => (refine Or.inl ⟨by rfl, ?_⟩; intro w hSw; (try dsimp only at hSw); go_simp; try (with_reducible rfl))); (try simp only [Act.put, List.setIfInBounds_toArray, List.set_cons_zero, List.set_cons_succ]))
                    (refine wpAnyH_take (i := 6) (oi := ?oi6_106) (v := ?vv6_106) ?hi6_106 (by kernel_rfl) (by kernel_rfl) (by kernel_rfl) ?hQ6_106 ?hy6_106 (by assumption) ?rest6_106; (case hi6_106 => ((simp only [List.getElem?_toArray, List.getElem?_cons_succ, List.getElem?_cons_zero]); rfl)); (case hQ6_106 => exact (fun _ _ _ h => h)); (case hy6_106 => (refine Or.inl ⟨by rfl, ?_⟩; intro w hSw; (try dsimp only at hSw); go_simp; try (with_reducible rfl))); (try simp only [Act.put, List.setIfInBounds_toArray, List.set_cons_zero, List.set_cons_succ]))
                    (refine wpAnyH_take (i := 7) (oi := ?oi7_107) (v := ?vv7_107) ?hi7_107 (by kernel_rfl) (by kernel_rfl) (by kernel_rfl) ?hQ7_107 ?hy7_107 (by assumption) ?rest7_107; (case hi7_107 => ((simp only [List.getElem?_toArray, List.getElem?_cons_succ, List.getElem?_cons_zero]); rfl)); (case hQ7_107 => exact (fun _ _ _ h => h)); (case hy7_107 => (refine Or.inl ⟨by rfl, ?_⟩; intro w hSw; (try dsimp only at hSw); go_simp; try (with_reducible rfl))); (try simp only [Act.put, List.setIfInBounds_toArray, List.set_cons_zero, List.set_cons_succ]))
                    (refine wpAnyH_take (i := 8) (oi := ?oi8_108) (v := ?vv8_108) ?hi8_108 (by kernel_rfl) (by kernel_rfl) (by kernel_rfl) ?hQ8_108 ?hy8_108 (by assumption) ?rest8_108; (case hi8_108 => ((simp only [List.getElem?_toArray, List.getElem?_cons_succ, List.getElem?_cons_zero]); rfl)); (case hQ8_108 => exact (fun _ _ _ h => h)); (case hy8_108 => (refine Or.inl ⟨by rfl, ?_⟩; intro w hSw; (try dsimp only at hSw); go_simp; try (with_reducible rfl))); (try simp only [Act.put, List.setIfInBounds_toArray, List.set_cons_zero, List.set_cons_succ]))
                    (refine wpAnyH_take (i := 9) (oi := ?oi9_109) (v := ?vv9_109) ?hi9_109 (by kernel_rfl) (by kernel_rfl) (by kernel_rfl) ?hQ9_109 ?hy9_109 (by assumption) ?rest9_109; (case hi9_109 => ((simp only [List.getElem?_toArray, List.getElem?_cons_succ, List.getElem?_cons_zero]); rfl)); (case hQ9_109 => exact (fun _ _ _ h => h)); (case hy9_109 => (refine Or.inl ⟨by rfl, ?_⟩; intro w hSw; (try dsimp only at hSw); go_simp; try (with_reducible rfl))); (try simp only [Act.put, List.setIfInBounds_toArray, List.set_cons_zero, List.set_cons_succ]))
                    (refine wpAnyH_take (i := 10) (oi := ?oi10_110) (v := ?vv10_110) ?hi10_110 (by kernel_rfl) (by kernel_rfl) (by kernel_rfl) ?hQ10_110 ?hy10_110 (by assumption) ?rest10_110; (case hi10_110 => ((simp only [List.getElem?_toArray, List.getElem?_cons_succ, List.getElem?_cons_zero]); rfl)); (case hQ10_110 => exact (fun _ _ _ h => h)); (case hy10_110 => (refine Or.inl ⟨by rfl, ?_⟩; intro w hSw; (try dsimp only at hSw); go_simp; try (with_reducible rfl))); (try simp only [Act.put, List.setIfInBounds_toArray, List.set_cons_zero, List.set_cons_succ]))
                    (refine wpAnyH_take (i := 11) (oi := ?oi11_111) (v := ?vv11_111) ?hi11_111 (by kernel_rfl) (by kernel_rfl) (by kernel_rfl) ?hQ11_111 ?hy11_111 (by assumption) ?rest11_111; (case hi11_111 => ((simp only [List.getElem?_toArray, List.getElem?_cons_succ, List.getElem?_cons_zero]); rfl)); (case hQ11_111 => exact (fun _ _ _ h => h)); (case hy11_111 => (refine Or.inl ⟨by rfl, ?_⟩; intro w hSw; (try dsimp only at hSw); go_simp; try (with_reducible rfl))); (try simp only [Act.put, List.setIfInBounds_toArray, List.set_cons_zero, List.set_cons_succ]))
                    (refine wpAnyH_take (i := 12) (oi := ?oi12_112) (v := ?vv12_112) ?hi12_112 (by kernel_rfl) (by kernel_rfl) (by kernel_rfl) ?hQ12_112 ?hy12_112 (by assumption) ?rest12_112; (case hi12_112 => ((simp only [List.getElem?_toArray, List.getElem?_cons_succ, List.getElem?_cons_zero]); rfl)); (case hQ12_112 => exact (fun _ _ _ h => h)); (case hy12_112 => (refine Or.inl ⟨by rfl, ?_⟩; intro w hSw; (try dsimp only at hSw); go_simp; try (with_reducible rfl))); (try simp only [Act.put, List.setIfInBounds_toArray, List.set_cons_zero, List.set_cons_succ]))
                    (refine wpAnyH_take (i := 13) (oi := ?oi13_113) (v := ?vv13_113) ?hi13_113 (by kernel_rfl) (by kernel_rfl) (by kernel_rfl) ?hQ13_113 ?hy13_113 (by assumption) ?rest13_113; (case hi13_113 => ((simp only [List.getElem?_toArray, List.getElem?_cons_succ, List.getElem?_cons_zero]); rfl)); (case hQ13_113 => exact (fun _ _ _ h => h)); (case hy13_113 => (refine Or.inl ⟨by rfl, ?_⟩; intro w hSw; (try dsimp only at hSw); go_simp; try (with_reducible rfl))); (try simp only [Act.put, List.setIfInBounds_toArray, List.set_cons_zero, List.set_cons_succ]))
                    (refine wpAnyH_take (i := 14) (oi := ?oi14_114) (v := ?vv14_114) ?hi14_114 (by kernel_rfl) (by kernel_rfl) (by kernel_rfl) ?hQ14_114 ?hy14_114 (by assumption) ?rest14_114; (case hi14_114 => ((simp only [List.getElem?_toArray, List.getElem?_cons_succ, List.getElem?_cons_zero]); rfl)); (case hQ14_114 => exact (fun _ _ _ h => h)); (case hy14_114 => (refine Or.inl ⟨by rfl, ?_⟩; intro w hSw; (try dsimp only at hSw); go_simp; try (with_reducible rfl))); (try simp only [Act.put, List.setIfInBounds_toArray, List.set_cons_zero, List.set_cons_succ]))
                    (refine wpAnyH_take (i := 15) (oi := ?oi15_115) (v := ?vv15_115) ?hi15_115 (by kernel_rfl) (by kernel_rfl) (by kernel_rfl) ?hQ15_115 ?hy15_115 (by assumption) ?rest15_115; (case hi15_115 => ((simp only [List.getElem?_toArray, List.getElem?_cons_succ, List.getElem?_cons_zero]); rfl)); (case hQ15_115 => exact (fun _ _ _ h => h)); (case hy15_115 => (refine Or.inl ⟨by rfl, ?_⟩; intro w hSw; (try dsimp only at hSw); go_simp; try (with_reducible rfl))); (try simp only [Act.put, List.setIfInBounds_toArray, List.set_cons_zero, List.set_cons_succ]))
                    (refine wpAnyH_take (i := 16) (oi := ?oi16_116) (v := ?vv16_116) ?hi16_116 (by kernel_rfl) (by kernel_rfl) (by kernel_rfl) ?hQ16_116 ?hy16_116 (by assumption) ?rest16_116; (case hi16_116 => ((simp only [List.getElem?_toArray, List.getElem?_cons_succ, List.getElem?_cons_zero]); rfl)); (case hQ16_116 => exact (fun _ _ _ h => h)); (case hy16_116 => (refine Or.inl ⟨by rfl, ?_⟩; intro w hSw; (try dsimp only at hSw); go_simp; try (with_reducible rfl))); (try simp only [Act.put, List.setIfInBounds_toArray, List.set_cons_zero, List.set_cons_succ]))
                    (refine wpAnyH_take (i := 17) (oi := ?oi17_117) (v := ?vv17_117) ?hi17_117 (by kernel_rfl) (by kernel_rfl) (by kernel_rfl) ?hQ17_117 ?hy17_117 (by assumption) ?rest17_117; (case hi17_117 => ((simp only [List.getElem?_toArray, List.getElem?_cons_succ, List.getElem?_cons_zero]); rfl)); (case hQ17_117 => exact (fun _ _ _ h => h)); (case hy17_117 => (refine Or.inl ⟨by rfl, ?_⟩; intro w hSw; (try dsimp only at hSw); go_simp; try (with_reducible rfl))); (try simp only [Act.put, List.setIfInBounds_toArray, List.set_cons_zero, List.set_cons_succ]))
                    (refine wpAnyH_take (i := 18) (oi := ?oi18_118) (v := ?vv18_118) ?hi18_118 (by kernel_rfl) (by kernel_rfl) (by kernel_rfl) ?hQ18_118 ?hy18_118 (by assumption) ?rest18_118; (case hi18_118 => ((simp only [List.getElem?_toArray, List.getElem?_cons_succ, List.getElem?_cons_zero]); rfl)); (case hQ18_118 => exact (fun _ _ _ h => h)); (case hy18_118 => (refine Or.inl ⟨by rfl, ?_⟩; intro w hSw; (try dsimp only at hSw); go_simp; try (with_reducible rfl))); (try simp only [Act.put, List.setIfInBounds_toArray, List.set_cons_zero, List.set_cons_succ]))
                    (refine wpAnyH_take (i := 19) (oi := ?oi19_119) (v := ?vv19_119) ?hi19_119 (by kernel_rfl) (by kernel_rfl) (by kernel_rfl) ?hQ19_119 ?hy19_119 (by assumption) ?rest19_119; (case hi19_119 => ((simp only [List.getElem?_toArray, List.getElem?_cons_succ, List.getElem?_cons_zero]); rfl)); (case hQ19_119 => exact (fun _ _ _ h => h)); (case hy19_119 => (refine Or.inl ⟨by rfl, ?_⟩; intro w hSw; (try dsimp only at hSw); go_simp; try (with_reducible rfl))); (try simp only [Act.put, List.setIfInBounds_toArray, List.set_cons_zero, List.set_cons_succ]))
                    (refine wpAnyH_take (i := 20) (oi := ?oi20_120) (v := ?vv20_120) ?hi20_120 (by kernel_rfl) (by kernel_rfl) (by kernel_rfl) ?hQ20_120 ?hy20_120 (by assumption) ?rest20_120; (case hi20_120 => ((simp only [List.getElem?_toArray, List.getElem?_cons_succ, List.getElem?_cons_zero]); rfl)); (case hQ20_120 => exact (fun _ _ _ h => h)); (case hy20_120 => (refine Or.inl ⟨by rfl, ?_⟩; intro w hSw; (try dsimp only at hSw); go_simp; try (with_reducible rfl))); (try simp only [Act.put, List.setIfInBounds_toArray, List.set_cons_zero, List.set_cons_succ]))
                    (refine wpAnyH_take (i := 21) (oi := ?oi21_121) (v := ?vv21_121) ?hi21_121 (by kernel_rfl) (by kernel_rfl) (by kernel_rfl) ?hQ21_121 ?hy21_121 (by assumption) ?rest21_121; (case hi21_121 => ((simp only [List.getElem?_toArray, List.getElem?_cons_succ, List.getElem?_cons_zero]); rfl)); (case hQ21_121 => exact (fun _ _ _ h => h)); (case hy21_121 => (refine Or.inl ⟨by rfl, ?_⟩; intro w hSw; (try dsimp only at hSw); go_simp; try (with_reducible rfl))); (try simp only [Act.put, List.setIfInBounds_toArray, List.set_cons_zero, List.set_cons_succ]))
                    (refine wpAnyH_take (i := 22) (oi := ?oi22_122) (v := ?vv22_122) ?hi22_122 (by kernel_rfl) (by kernel_rfl) (by kernel_rfl) ?hQ22_122 ?hy22_122 (by assumption) ?rest22_122; (case hi22_122 => ((simp only [List.getElem?_toArray, List.getElem?_cons_succ, List.getElem?_cons_zero]); rfl)); (case hQ22_122 => exact (fun _ _ _ h => h)); (case hy22_122 => (refine Or.inl ⟨by rfl, ?_⟩; intro w hSw; (try dsimp only at hSw); go_simp; try (with_reducible rfl))); (try simp only [Act.put, List.setIfInBounds_toArray, List.set_cons_zero, List.set_cons_succ]))
                    (refine wpAnyH_take (i := 23) (oi := ?oi23_123) (v := ?vv23_123) ?hi23_123 (by kernel_rfl) (by kernel_rfl) (by kernel_rfl) ?hQ23_123 ?hy23_123 (by assumption) ?rest23_123; (case hi23_123 => ((simp only [List.getElem?_toArray, List.getElem?_cons_succ, List.getElem?_cons_zero]); rfl)); (case hQ23_123 => exact (fun _ _ _ h => h)); (case hy23_123 => (refine Or.inl ⟨by rfl, ?_⟩; intro w hSw; (try dsimp only at hSw); go_simp; try (with_reducible rfl))); (try simp only [Act.put, List.setIfInBounds_toArray, List.set_cons_zero, List.set_cons_succ]))
                    (refine wpAnyH_take (i := 24) (oi := ?oi24_124) (v := ?vv24_124) ?hi24_124 (by kernel_rfl) (by kernel_rfl) (by kernel_rfl) ?hQ24_124 ?hy24_124 (by assumption) ?rest24_124; (case hi24_124 => ((simp only [List.getElem?_toArray, List.getElem?_cons_succ, List.getElem?_cons_zero]); rfl)); (case hQ24_124 => exact (fun _ _ _ h => h)); (case hy24_124 => (refine Or.inl ⟨by rfl, ?_⟩; intro w hSw; (try dsimp only at hSw); go_simp; try (with_reducible rfl))); (try simp only [Act.put, List.setIfInBounds_toArray, List.set_cons_zero, List.set_cons_succ]))
                    (refine wpAnyH_take (i := 25) (oi := ?oi25_125) (v := ?vv25_125) ?hi25_125 (by kernel_rfl) (by kernel_rfl) (by kernel_rfl) ?hQ25_125 ?hy25_125 (by assumption) ?rest25_125; (case hi25_125 => ((simp only [List.getElem?_toArray, List.getElem?_cons_succ, List.getElem?_cons_zero]); rfl)); (case hQ25_125 => exact (fun _ _ _ h => h)); (case hy25_125 => (refine Or.inl ⟨by rfl, ?_⟩; intro w hSw; (try dsimp only at hSw); go_simp; try (with_reducible rfl))); (try simp only [Act.put, List.setIfInBounds_toArray, List.set_cons_zero, List.set_cons_succ]))
                    (refine wpAnyH_take (i := 26) (oi := ?oi26_126) (v := ?vv26_126) ?hi26_126 (by kernel_rfl) (by kernel_rfl) (by kernel_rfl) ?hQ26_126 ?hy26_126 (by assumption) ?rest26_126; (case hi26_126 => ((simp only [List.getElem?_toArray, List.getElem?_cons_succ, List.getElem?_cons_zero]); rfl)); (case hQ26_126 => exact (fun _ _ _ h => h)); (case hy26_126 => (refine Or.inl ⟨by rfl, ?_⟩; intro w hSw; (try dsimp only at hSw); go_simp; try (with_reducible rfl))); (try simp only [Act.put, List.setIfInBounds_toArray, List.set_cons_zero, List.set_cons_succ]))
                    (refine wpAnyH_take (i := 27) (oi := ?oi27_127) (v := ?vv27_127) ?hi27_127 (by kernel_rfl) (by kernel_rfl) (by kernel_rfl) ?hQ27_127 ?hy27_127 (by assumption) ?rest27_127; (case hi27_127 => ((simp only [List.getElem?_toArray, List.getElem?_cons_succ, List.getElem?_cons_zero]); rfl)); (case hQ27_127 => exact (fun _ _ _ h => h)); (case hy27_127 => (refine Or.inl ⟨by rfl, ?_⟩; intro w hSw; (try dsimp only at hSw); go_simp; try (with_reducible rfl))); (try simp only [Act.put, List.setIfInBounds_toArray, List.set_cons_zero, List.set_cons_succ]))
                    (refine wpAnyH_take (i := 28) (oi := ?oi28_128) (v := ?vv28_128) ?hi28_128 (by kernel_rfl) (by kernel_rfl) (by kernel_rfl) ?hQ28_128 ?hy28_128 (by assumption) ?rest28_128; (case hi28_128 => ((simp only [List.getElem?_toArray, List.getElem?_cons_succ, List.getElem?_cons_zero]); rfl)); (case hQ28_128 => exact (fun _ _ _ h => h)); (case hy28_128 => (refine Or.inl ⟨by rfl, ?_⟩; intro w hSw; (try dsimp only at hSw); go_simp; try (with_reducible rfl))); (try simp only [Act.put, List.setIfInBounds_toArray, List.set_cons_zero, List.set_cons_succ]))
                    (refine wpAnyH_take (i := 29) (oi := ?oi29_129) (v := ?vv29_129) ?hi29_129 (by kernel_rfl) (by kernel_rfl) (by kernel_rfl) ?hQ29_129 ?hy29_129 (by assumption) ?rest29_129; (case hi29_129 => ((simp only [List.getElem?_toArray, List.getElem?_cons_succ, List.getElem?_cons_zero]); rfl)); (case hQ29_129 => exact (fun _ _ _ h => h)); (case hy29_129 => (refine Or.inl ⟨by rfl, ?_⟩; intro w hSw; (try dsimp only at hSw); go_simp; try (with_reducible rfl))); (try simp only [Act.put, List.setIfInBounds_toArray, List.set_cons_zero, List.set_cons_succ]))
                    (refine wpAnyH_take (i := 30) (oi := ?oi30_130) (v := ?vv30_130) ?hi30_130 (by kernel_rfl) (by kernel_rfl) (by kernel_rfl) ?hQ30_130 ?hy30_130 (by assumption) ?rest30_130; (case hi30_130 => ((simp only [List.getElem?_toArray, List.getElem?_cons_succ, List.getElem?_cons_zero]); rfl)); (case hQ30_130 => exact (fun _ _ _ h => h)); (case hy30_130 => (refine Or.inl ⟨by rfl, ?_⟩; intro w hSw; (try dsimp only at hSw); go_simp; try (with_reducible rfl))); (try simp only [Act.put, List.setIfInBounds_toArray, List.set_cons_zero, List.set_cons_succ]))
                    (refine wpAnyH_take (i := 31) (oi := ?oi31_131) (v := ?vv31_131) ?hi31_131 (by kernel_rfl) (by kernel_rfl) (by kernel_rfl) ?hQ31_131 ?hy31_131 (by assumption) ?rest31_131; (case hi31_131 => ((simp only [List.getElem?_toArray, List.getElem?_cons_succ, List.getElem?_cons_zero]); rfl)); (case hQ31_131 => exact (fun _ _ _ h => h)); (case hy31_131 => (refine Or.inl ⟨by rfl, ?_⟩; intro w hSw; (try dsimp only at hSw); go_simp; try (with_reducible rfl))); (try simp only [Act.put, List.setIfInBounds_toArray, List.set_cons_zero, List.set_cons_succ]))
                    (refine wpAnyH_ready (rs := [32]) (by kernel_rfl) (by simp) ?_; refine AllReadyH.cons (o := ?oc32_132) ?ho32_132 (fun K hK => ?_) AllReadyH.nil; (case ho32_132 => ((simp only [List.getElem?_toArray, List.getElem?_cons_succ, List.getElem?_cons_zero]); rfl)); go_simp)
                    go_wp2_with fail
                    refine hK.out _ _ (Hcj.out _ Hsb.out) (fun hHeld2 => ?_)
                    refine wpAnyH_done (by kernel_rfl) ?_ _
                    clear hHeld hHeld2
                    go_wp2_with fail
                    go_roundw
                    case rel => exact ⟨j + 1 + 1, by go_num, by omega, Hset, Hsb⟩
                    case measure => first | (simp [intOf]; done) | (simp [intOf]; omega)
          · obtain rfl : k = L + 1 := by omega
            have hkI : ¬ ((L : Int) + 1 ≤ (L : Int)) := by omega
            have hkI' : ¬ (((L + 1 : Nat) : Int) ≤ (L : Int)) := by omega
            have Hk6 : Hid (Blk wr G 4 (tbl (L + 1) fun k => .bool (dpStep P ls f k))) := by
              have e : tbl (L + 1) (upto (L + 1) (dpStep P ls f)) = tbl (L + 1) fun k => .bool (dpStep P ls f k) := tbl_ext fun i hi => by unfold upto; rw [if_pos hi]
              have := Hkk.out
              rw [e] at this
              exact this
            have hb6 : Below wo.heap.size wo wr := by rw [HG.out]; exact Hbb.out
            have HP6 := Lib.hid (HP.out.below hb6)
            have HB6 := Lib.hid (HB.out.below hb6)
            have Hb6 := Lib.hid (Hb.out.trans (hb6.mono Hb.out.size))
            have Hg6 : Hid (w.heap.size ≤ G) := by
              show _ ≤ _
              rw [← HG.out]
              exact Hb.out.size
            have Hdr2 : Hid (dp ls (q.drop (i + 1)) (dpStep P ls f) L = R) := by
              have := Hdr.out
              exact this
            clear hb6 Hkk Hbb HP HB Hb c0 c1 c2
            go_wp2_with fail
            go_roundw
            case rel => exact ⟨i + 1, G, dpStep P ls f, rfl, by go_num, by omega, Hg6, Hk6, Hdr2, HP6, HB6, Hb6⟩
            case measure => simp [intOf]; omega
      · obtain rfl : i = n := by omega
        have hdr := HR.out
        rw [List.drop_eq_nil_of_le (show q.length ≤ i by rw [Hn.out]; exact Nat.le_refl _), dp] at hdr
        have hcl := Hk.out.cell L
        rw [tbl_get (by omega), hdr] at hcl
        have hLI3 : (L : Int) < (L : Int) + 1 := by omega
        have hLI4 : (0 : Int) ≤ (L : Int) := by omega
        clear hdr HR HP HB
        go_wp2_with fail
        go_ret2
        exact ⟨⟨0, rfl⟩, Hb.out⟩
end Go.Proofs.YtipnglidepfkbaaDoor
namespace Go.Proofs.YtipnglidepfkbaaDoor
set_option linter.unusedVariables false
set_option linter.unusedSimpArgs false
open Go.RowKit

attribute [local go_sem ↓] Go.wp_at_zero Go.wp_at_succ

set_option maxHeartbeats 4000000 in
set_option maxRecDepth 100000 in
theorem leaf_c (n : Nd) (v : Va) (w : World) (hs1 : n.v.s.length ≤ 1000000) (hs2 : v.s.length ≤ 1000000) : Calls Tryd.prog 30 #[n.agg, v.agg] w fun e w' => e = .returned (.int .u8 (leafM n v)) ∧ Below w.heap.size w w' := by
  have hv : Hid (leafM n v = if n.op = 5 then truthV v n.v (decide (cmpVa v n.v = 0)) else if n.op = 6 then truthV v n.v (decide (cmpVa v n.v < 0)) else if n.op = 8 then (if v.k = 0 then 2 else 0)
    else if v.k = 0 then 1 else if matchM n.v.s v.s then 2 else 0) := rfl
  have heq := Lib.hid (fun w' => equal_c v n.v w')
  have hle := Lib.hid (fun w' => less_c v n.v w')
  have hma := Lib.hid (fun w' => match_any n.v.s v.s w' hs1 hs2)
  have htr := Lib.hid (fun b w' => atruth_c b w')
  generalize leafM n v = R at *
  obtain ⟨op, col, kids, k, nn, s⟩ := n
  obtain ⟨k', n', s'⟩ := v
  dsimp only at hv heq hle hma
  generalize truthV ⟨k', n', s'⟩ ⟨k, nn, s⟩ (decide (cmpVa ⟨k', n', s'⟩ ⟨k, nn, s⟩ = 0)) = T1 at *
  generalize truthV ⟨k', n', s'⟩ ⟨k, nn, s⟩ (decide (cmpVa ⟨k', n', s'⟩ ⟨k, nn, s⟩ < 0)) = T2 at *
  generalize matchM s s' = M at *
  unfold Va.agg at heq hle
  unfold Nd.agg Va.agg
  dsimp only at heq hle ⊢
  have Hb1 : Hid (Below w.heap.size w ((w.alloc (.cells #[.int .u8 op, .int .i64 col, .int .i64 kids, .int .u8 k, .int .i64 nn, .string (St8 s)] 46)).alloc (.cells #[.int .u8 k', .int .i64 n', .string (St8 s')] 44))) := ((Below.refl _ _).alloc (Nat.le_refl _) _).alloc (by rw [World.size_alloc]; omega) _
  clear hs1 hs2
  by_cases h5 : op = 5
  · subst h5
    rw [if_pos rfl] at hv
    go_enter Tryd.func30, Tryd.ntmps30
    go_wp2_with fail
    refine (heq.out _).mono ?_
    rintro e w1 ⟨rfl, hb1⟩
    go_wp2_with fail
    go_ret
    rw [hv.out]
    exact ⟨rfl, Hb1.out.trans (hb1.mono Hb1.out.size)⟩
  · have e5 : (op == 5) = false := by rw [beq_eq_false_iff_ne]; exact h5
    rw [if_neg h5] at hv
    by_cases h6 : op = 6
    · subst h6
      rw [if_pos rfl] at hv
      go_enter Tryd.func30, Tryd.ntmps30
      go_wp2_with fail
      refine (hle.out _).mono ?_
      rintro e w1 ⟨rfl, hb1⟩
      go_wp2_with fail
      go_ret
      rw [hv.out]
      exact ⟨rfl, Hb1.out.trans (hb1.mono Hb1.out.size)⟩
    · have e6 : (op == 6) = false := by rw [beq_eq_false_iff_ne]; exact h6
      rw [if_neg h6] at hv
      by_cases h8 : op = 8
      · subst h8
        rw [if_pos rfl] at hv
        by_cases hk : k' = 0
        · subst hk
          rw [if_pos rfl] at hv
          go_enter Tryd.func30, Tryd.ntmps30
          go_wp2_with fail
          refine (htr.out true _).mono ?_
          rintro e w1 ⟨rfl, rfl⟩
          go_wp2_with fail
          go_ret
          rw [hv.out]
          exact ⟨rfl, Hb1.out⟩
        · rw [if_neg hk] at hv
          have ek : (k' == 0) = false := by rw [beq_eq_false_iff_ne]; exact hk
          go_enter Tryd.func30, Tryd.ntmps30
          go_wp2_with fail
          refine (htr.out false _).mono ?_
          rintro e w1 ⟨rfl, rfl⟩
          go_wp2_with fail
          go_ret
          rw [hv.out]
          exact ⟨rfl, Hb1.out⟩
      · have e8 : (op == 8) = false := by rw [beq_eq_false_iff_ne]; exact h8
        rw [if_neg h8] at hv
        by_cases hk : k' = 0
        · subst hk
          rw [if_pos rfl] at hv
          go_enter Tryd.func30, Tryd.ntmps30
          go_wp2_with fail
          go_ret
          rw [hv.out]
          exact ⟨rfl, Hb1.out⟩
        · rw [if_neg hk] at hv
          have ek : (k' == 0) = false := by rw [beq_eq_false_iff_ne]; exact hk
          obtain ⟨V, hV⟩ : ∃ V : Int, V = if M = true then 2 else 0 := ⟨_, rfl⟩
          rw [← hV] at hv
          have htm := htr.out M
          rw [← hV] at htm
          have Htm := Lib.hid htm
          clear htm hV htr
          go_enter Tryd.func30, Tryd.ntmps30
          go_wp2_with fail
          refine (hma.out _).mono ?_
          rintro e w1 ⟨⟨er, rfl⟩, hb1⟩
          go_wp2_with fail
          refine (Htm.out _).mono ?_
          rintro e w2 ⟨rfl, rfl⟩
          go_wp2_with fail
          go_ret
          rw [hv.out]
          exact ⟨rfl, Hb1.out.trans (hb1.mono Hb1.out.size)⟩

theorem fine_parts {cols : Nat} {x : Nd} (h : fineN cols x = true) : 0 ≤ x.parts ∧ x.parts ≤ 40 := by
  unfold fineN Nd.many at h
  unfold Nd.parts
  simp only [Bool.and_eq_true, Bool.not_eq_true', Bool.and_eq_false_iff, decide_eq_true_eq, decide_eq_false_iff_not] at h
  obtain ⟨⟨h1, h2⟩, h3⟩ := h
  split
  · rcases h3 with h3 | h3 <;> omega
  · split <;> omega

set_option maxHeartbeats 16000000 in
set_option maxRecDepth 100000 in
theorem whole_c (l : List Nd) (L : Option Addr) (n c cols : Nat) (w : World) (hl : l.length = n) (hL : Rd w L (ncells l)) (hn : n ≤ 1000000) :
    Calls Tryd.prog 27 #[.slice L n c, .int .i64 (cols : Int)] w fun e w' => e = .returned (.bool (wholeN cols l)) ∧ Below w.heap.size w w' := by
  have hR : Hid (wholeN cols l = (decide (1 ≤ l.length ∧ l.length ≤ 40) && l.all (fineN cols) && ends 1 l)) := rfl
  rw [hl] at hR
  generalize wholeN cols l = R at *
  by_cases h0 : n = 0
  · rw [decide_eq_false (by omega), Bool.false_and, Bool.false_and] at hR
    subst h0
    clear hL
    go_enter Tryd.func27, Tryd.ntmps27
    go_wp2_with fail
    go_ret
    rw [hR.out]
    exact ⟨rfl, Below.refl _ _⟩
  · have e0 : ((n : Int) == 0) = false := by rw [beq_eq_false_iff_ne]; omega
    by_cases h40 : 40 < n
    · rw [decide_eq_false (by omega), Bool.false_and, Bool.false_and] at hR
      have h40I : (40 : Int) < (n : Int) := by omega
      clear hL
      go_enter Tryd.func27, Tryd.ntmps27
      go_wp2_with fail
      go_ret
      rw [hR.out]
      exact ⟨rfl, Below.refl _ _⟩
    · rw [decide_eq_true (by omega), Bool.true_and] at hR
      have h40I : ¬ (40 : Int) < (n : Int) := by omega
      have Hl := Lib.hid hl
      have HL := Lib.hid hL
      have hend := Lib.hid (fun (hm : l.all (fineN cols) = true) w' (hb : Below w.heap.size w w') => end_any l L n c w' hl (hL.below hb) (by omega) (fun x hx => fine_parts (List.all_eq_true.1 hm x hx)))
      clear hl hL
      go_enter Tryd.func27, Tryd.ntmps27
      go_wp2_with fail
      go_loopw [17] (fun vi wr => ∃ j : Nat, vi = .int .i64 j ∧ j ≤ n ∧ Hid ((l.take j).all (fineN cols) = true) ∧ Hid (Below w.heap.size w wr)) (fun vi _ => n - (intOf vi).toNat)
      case atStart => exact ⟨0, rfl, by omega, rfl, Below.refl _ _⟩
      case round =>
        obtain ⟨j, rfl, hj, Hall, Hb⟩ := hrel
        by_cases hjn : j < n
        · have hjI : (j : Int) < (n : Int) := by omega
          have hjI0 : (0 : Int) ≤ (j : Int) := by omega
          have hjl : j < l.length := by rw [Hl.out]; exact hjn
          have hg := List.getElem?_eq_getElem hjl
          obtain ⟨b, o, rfl, c0, c1, c2, c3, c4, c5⟩ := node_cells (HL.out.below Hb.out) hg
          have Htk := Lib.hid (List.take_succ_eq_append_getElem hjl)
          have Hmm := Lib.hid (List.getElem_mem hjl)
          have has := fun w' => asks_any l[j] w'
          have hfi : Hid (fineN cols l[j] = (decide (1 ≤ l[j].op ∧ l[j].op ≤ 8) && !(l[j].asks && decide (l[j].col < 0 ∨ (cols : Int) ≤ l[j].col)) && !(decide (l[j].op = 2 ∨ l[j].op = 3) && decide (l[j].kids < 1 ∨ 40 < l[j].kids)))) := rfl
          have hbad : Hid (fineN cols l[j] = false → R = false) := fun h => by
            rw [hR.out, List.all_eq_false.2 ⟨_, Hmm.out, by rw [h]; simp⟩]
            rfl
          have hgood : Hid (fineN cols l[j] = true → (l.take (j + 1)).all (fineN cols) = true) := fun h => by
            rw [Htk.out, List.all_append, Hall.out]
            simp [h]
          have hask : Hid (l[j].asks = decide (5 ≤ l[j].op ∧ l[j].op ≤ 8)) := rfl
          clear Hmm Htk
          generalize l[j] = x at *
          obtain ⟨op, col, kids, k, nn, s⟩ := x
          unfold Nd.agg at has
          dsimp only at c0 c1 c2 c3 c4 c5 has hfi hask
          generalize (Nd.mk op col kids ⟨k, nn, s⟩).asks = ask at *
          generalize fineN cols ⟨op, col, kids, k, nn, s⟩ = F at *
          have hbl := Blk.new wr 46 #[.int .u8 op, .int .i64 col, .int .i64 kids, .int .u8 k, .int .i64 nn, .string (St8 s)]
          have hb0 : Below wr.heap.size wr (wr.alloc (.cells #[.int .u8 op, .int .i64 col, .int .i64 kids, .int .u8 k, .int .i64 nn, .string (St8 s)] 46)) := (Below.refl _ _).alloc (Nat.le_refl _) _
          have Hc : Hid (∀ w', Below (wr.alloc (.cells #[.int .u8 op, .int .i64 col, .int .i64 kids, .int .u8 k, .int .i64 nn, .string (St8 s)] 46)).heap.size (wr.alloc (.cells #[.int .u8 op, .int .i64 col, .int .i64 kids, .int .u8 k, .int .i64 nn, .string (St8 s)] 46)) w' → w'.cell? ⟨wr.heap.size, 0, none⟩ = some (.int .u8 op) ∧ w'.cell? ⟨wr.heap.size, 1, none⟩ = some (.int .i64 col) ∧ w'.cell? ⟨wr.heap.size, 2, none⟩ = some (.int .i64 kids) ∧ w'.cell? ⟨wr.heap.size, 3, none⟩ = some (.int .u8 k) ∧ w'.cell? ⟨wr.heap.size, 4, none⟩ = some (.int .i64 nn) ∧ w'.cell? ⟨wr.heap.size, 5, none⟩ = some (.string (St8 s)) ∧ Hid (Below w.heap.size w w')) := fun w' hb => ⟨(hbl.below hb).cell 0, (hbl.below hb).cell 1, (hbl.below hb).cell 2, (hbl.below hb).cell 3, (hbl.below hb).cell 4, (hbl.below hb).cell 5, Hb.out.trans ((hb0.trans (hb.mono hb0.size)).mono Hb.out.size)⟩
          have HB0 : Hid (Below w.heap.size w (wr.alloc (.cells #[.int .u8 op, .int .i64 col, .int .i64 kids, .int .u8 k, .int .i64 nn, .string (St8 s)] 46))) := Hb.out.trans (hb0.mono Hb.out.size)
          clear hbl hb0 hg hjl
          by_cases h1 : op < 1
          · rw [decide_eq_false (by omega), Bool.false_and, Bool.false_and] at hfi
            go_wp2_with fail
            go_ret
            rw [hbad.out hfi.out]
            exact ⟨rfl, HB0.out⟩
          · by_cases h8 : 8 < op
            · rw [decide_eq_false (by omega), Bool.false_and, Bool.false_and] at hfi
              go_wp2_with fail
              go_ret
              rw [hbad.out hfi.out]
              exact ⟨rfl, HB0.out⟩
            · rw [decide_eq_true (show 1 ≤ op ∧ op ≤ 8 by omega), Bool.true_and] at hfi
              by_cases h5 : 5 ≤ op
              · obtain rfl : ask = true := by rw [hask.out]; exact decide_eq_true (by omega)
                have Has := Lib.hid has
                have o2 : (op == 2) = false := by rw [beq_eq_false_iff_ne]; omega
                have o3 : (op == 3) = false := by rw [beq_eq_false_iff_ne]; omega
                rw [decide_eq_false (show ¬ (op = 2 ∨ op = 3) by omega), Bool.false_and, Bool.not_false, Bool.and_true, Bool.true_and] at hfi
                clear has hask
                by_cases hc0 : col < 0
                · rw [decide_eq_true (show col < 0 ∨ (cols : Int) ≤ col by omega)] at hfi
                  go_wp2_with fail
                  refine (Has.out _).mono ?_
                  rintro e w1 ⟨rfl, hb1⟩
                  obtain ⟨d0, d1, d2, d3, d4, d5, Hb1⟩ := Hc.out w1 hb1
                  clear hb1 c0 c1 c2 c3 c4 c5
                  go_wp2_with fail
                  go_ret
                  rw [hbad.out hfi.out]
                  exact ⟨rfl, Hb1.out⟩
                · by_cases hc1 : (cols : Int) ≤ col
                  · rw [decide_eq_true (show col < 0 ∨ (cols : Int) ≤ col by omega)] at hfi
                    go_wp2_with fail
                    refine (Has.out _).mono ?_
                    rintro e w1 ⟨rfl, hb1⟩
                    obtain ⟨d0, d1, d2, d3, d4, d5, Hb1⟩ := Hc.out w1 hb1
                    clear hb1 c0 c1 c2 c3 c4 c5
                    go_wp2_with fail
                    go_ret
                    rw [hbad.out hfi.out]
                    exact ⟨rfl, Hb1.out⟩
                  · rw [decide_eq_false (show ¬ (col < 0 ∨ (cols : Int) ≤ col) by omega)] at hfi
                    go_wp2_with fail
                    refine (Has.out _).mono ?_
                    rintro e w1 ⟨rfl, hb1⟩
                    obtain ⟨d0, d1, d2, d3, d4, d5, Hb1⟩ := Hc.out w1 hb1
                    clear hb1 c0 c1 c2 c3 c4 c5
                    go_wp2_with fail
                    go_roundw
                    case rel => exact ⟨j + 1, by go_num, by omega, hgood.out hfi.out, Hb1⟩
                    case measure => simp [intOf]; omega
              · obtain rfl : ask = false := by rw [hask.out]; exact decide_eq_false (by omega)
                have Has := Lib.hid has
                rw [Bool.false_and, Bool.not_false, Bool.true_and] at hfi
                clear has hask
                rcases (show op = 1 ∨ op = 2 ∨ op = 3 ∨ op = 4 by omega) with rfl | rfl | rfl | rfl
                · rw [decide_eq_false (by omega), Bool.false_and] at hfi
                  go_wp2_with fail
                  refine (Has.out _).mono ?_
                  rintro e w1 ⟨rfl, hb1⟩
                  obtain ⟨d0, d1, d2, d3, d4, d5, Hb1⟩ := Hc.out w1 hb1
                  clear hb1 c0 c1 c2 c3 c4 c5
                  go_wp2_with fail
                  go_roundw
                  case rel => exact ⟨j + 1, by go_num, by omega, hgood.out hfi.out, Hb1⟩
                  case measure => simp [intOf]; omega
                · rw [decide_eq_true (by omega), Bool.true_and] at hfi
                  by_cases hk1 : kids < 1
                  · rw [decide_eq_true (show kids < 1 ∨ 40 < kids by omega)] at hfi
                    go_wp2_with fail
                    refine (Has.out _).mono ?_
                    rintro e w1 ⟨rfl, hb1⟩
                    obtain ⟨d0, d1, d2, d3, d4, d5, Hb1⟩ := Hc.out w1 hb1
                    clear hb1 c0 c1 c2 c3 c4 c5
                    go_wp2_with fail
                    go_ret
                    rw [hbad.out hfi.out]
                    exact ⟨rfl, Hb1.out⟩
                  · by_cases hk40 : 40 < kids
                    · rw [decide_eq_true (show kids < 1 ∨ 40 < kids by omega)] at hfi
                      go_wp2_with fail
                      refine (Has.out _).mono ?_
                      rintro e w1 ⟨rfl, hb1⟩
                      obtain ⟨d0, d1, d2, d3, d4, d5, Hb1⟩ := Hc.out w1 hb1
                      clear hb1 c0 c1 c2 c3 c4 c5
                      go_wp2_with fail
                      go_ret
                      rw [hbad.out hfi.out]
                      exact ⟨rfl, Hb1.out⟩
                    · rw [decide_eq_false (show ¬ (kids < 1 ∨ 40 < kids) by omega)] at hfi
                      go_wp2_with fail
                      refine (Has.out _).mono ?_
                      rintro e w1 ⟨rfl, hb1⟩
                      obtain ⟨d0, d1, d2, d3, d4, d5, Hb1⟩ := Hc.out w1 hb1
                      clear hb1 c0 c1 c2 c3 c4 c5
                      go_wp2_with fail
                      go_roundw
                      case rel => exact ⟨j + 1, by go_num, by omega, hgood.out hfi.out, Hb1⟩
                      case measure => simp [intOf]; omega
                · rw [decide_eq_true (by omega), Bool.true_and] at hfi
                  by_cases hk1 : kids < 1
                  · rw [decide_eq_true (show kids < 1 ∨ 40 < kids by omega)] at hfi
                    go_wp2_with fail
                    refine (Has.out _).mono ?_
                    rintro e w1 ⟨rfl, hb1⟩
                    obtain ⟨d0, d1, d2, d3, d4, d5, Hb1⟩ := Hc.out w1 hb1
                    clear hb1 c0 c1 c2 c3 c4 c5
                    go_wp2_with fail
                    go_ret
                    rw [hbad.out hfi.out]
                    exact ⟨rfl, Hb1.out⟩
                  · by_cases hk40 : 40 < kids
                    · rw [decide_eq_true (show kids < 1 ∨ 40 < kids by omega)] at hfi
                      go_wp2_with fail
                      refine (Has.out _).mono ?_
                      rintro e w1 ⟨rfl, hb1⟩
                      obtain ⟨d0, d1, d2, d3, d4, d5, Hb1⟩ := Hc.out w1 hb1
                      clear hb1 c0 c1 c2 c3 c4 c5
                      go_wp2_with fail
                      go_ret
                      rw [hbad.out hfi.out]
                      exact ⟨rfl, Hb1.out⟩
                    · rw [decide_eq_false (show ¬ (kids < 1 ∨ 40 < kids) by omega)] at hfi
                      go_wp2_with fail
                      refine (Has.out _).mono ?_
                      rintro e w1 ⟨rfl, hb1⟩
                      obtain ⟨d0, d1, d2, d3, d4, d5, Hb1⟩ := Hc.out w1 hb1
                      clear hb1 c0 c1 c2 c3 c4 c5
                      go_wp2_with fail
                      go_roundw
                      case rel => exact ⟨j + 1, by go_num, by omega, hgood.out hfi.out, Hb1⟩
                      case measure => simp [intOf]; omega
                · rw [decide_eq_false (by omega), Bool.false_and] at hfi
                  go_wp2_with fail
                  refine (Has.out _).mono ?_
                  rintro e w1 ⟨rfl, hb1⟩
                  obtain ⟨d0, d1, d2, d3, d4, d5, Hb1⟩ := Hc.out w1 hb1
                  clear hb1 c0 c1 c2 c3 c4 c5
                  go_wp2_with fail
                  go_roundw
                  case rel => exact ⟨j + 1, by go_num, by omega, hgood.out hfi.out, Hb1⟩
                  case measure => simp [intOf]; omega
        · have hA : l.all (fineN cols) = true := by
            have := Hall.out
            rw [List.take_of_length_le (by rw [Hl.out]; omega)] at this
            exact this
          have He := Lib.hid (hend.out hA wr Hb.out)
          rw [hA, Bool.true_and] at hR
          clear hA hend Hall
          go_wp2_with fail
          refine He.out.mono ?_
          rintro e w2 ⟨⟨E, rfl, hE⟩, hb2⟩
          have Hb2 := Lib.hid (Hb.out.trans (hb2.mono Hb.out.size))
          rw [← hR.out] at hE
          clear hb2 He hR
          cases R
          · have hne : ((E : Int) == (n : Int)) = false := by
              have : ¬ E = n := fun h => by have := hE.1 h; cases this
              rw [beq_eq_false_iff_ne]
              omega
            clear hE
            go_wp2_with fail
            go_ret
            exact ⟨rfl, Hb2.out⟩
          · obtain rfl : E = n := hE.2 rfl
            clear hE
            go_wp2_with fail
            go_ret
            exact ⟨rfl, Hb2.out⟩
end Go.Proofs.YtipnglidepfkbaaDoor
namespace Go.Proofs.YtipnglidepfkbaaDoor
set_option linter.unusedVariables false
set_option linter.unusedSimpArgs false
open Go.RowKit

attribute [local go_sem ↓] Go.wp_at_zero Go.wp_at_succ

set_option maxRecDepth 100000 in
theorem column_c (op : Int) (w : World) : Calls Tryd.prog 35 #[.int .u8 op] w fun e w' => e = .returned (.bool (decide (5 ≤ op ∧ op ≤ 8))) ∧ w = w' := by
  by_cases h5 : op = 5
  · subst h5
    go_enter Tryd.func35, Tryd.ntmps35
    go_wp2_with fail
    go_ret
    exact ⟨rfl, rfl⟩
  · have e5 : (op == 5) = false := by rw [beq_eq_false_iff_ne]; exact h5
    by_cases h6 : op = 6
    · subst h6
      go_enter Tryd.func35, Tryd.ntmps35
      go_wp2_with fail
      go_ret
      exact ⟨rfl, rfl⟩
    · have e6 : (op == 6) = false := by rw [beq_eq_false_iff_ne]; exact h6
      by_cases h7 : op = 7
      · subst h7
        go_enter Tryd.func35, Tryd.ntmps35
        go_wp2_with fail
        go_ret
        exact ⟨rfl, rfl⟩
      · have e7 : (op == 7) = false := by rw [beq_eq_false_iff_ne]; exact h7
        have hR : Hid (decide (5 ≤ op ∧ op ≤ 8) = (op == 8)) := by
          show _ = _
          by_cases h8 : op = 8
          · subst h8; rfl
          · rw [decide_eq_false (by omega)]
            exact (beq_eq_false_iff_ne.2 h8).symm
        rw [hR.out]
        go_enter Tryd.func35, Tryd.ntmps35
        go_wp2_with fail
        go_ret
        exact ⟨rfl, rfl⟩

def rkids (n : Nd) : Int := if n.op = 4 then 1 else n.kids
set_option maxRecDepth 100000 in
theorem rkids_c (n : Nd) (w : World) : Calls Tryd.prog 37 #[n.agg] w fun e w' => e = .returned (.int .i64 (rkids n)) ∧ Below w.heap.size w w' := by
  have hv : Hid (rkids n = if n.op = 4 then 1 else n.kids) := rfl
  generalize rkids n = R at *
  obtain ⟨op, col, kids, k, nn, s⟩ := n
  unfold Nd.agg
  dsimp only at hv ⊢
  have hb0 : Hid (Below w.heap.size w (w.alloc (.cells #[.int .u8 op, .int .i64 col, .int .i64 kids, .int .u8 k, .int .i64 nn, .string (St8 s)] 46))) := (Below.refl _ _).alloc (Nat.le_refl _) _
  by_cases h4 : op = 4
  · subst h4
    rw [if_pos rfl] at hv
    go_enter Tryd.func37, Tryd.ntmps37
    go_wp2_with fail
    go_ret
    rw [hv.out]
    exact ⟨rfl, hb0.out⟩
  · have e4 : (op == 4) = false := by rw [beq_eq_false_iff_ne]; exact h4
    rw [if_neg h4] at hv
    go_enter Tryd.func37, Tryd.ntmps37
    go_wp2_with fail
    go_ret
    rw [hv.out]
    exact ⟨rfl, hb0.out⟩

set_option maxHeartbeats 4000000 in
set_option maxRecDepth 100000 in
theorem rleaf_c (n : Nd) (v : Va) (w : World) (hs1 : n.v.s.length ≤ 1000000) (hs2 : v.s.length ≤ 1000000) (hT : Lib.Utf8Tabs 0 1 w) : Calls Tryd.prog 36 #[n.agg, v.agg] w fun e w' => e = .returned (.int .u8 (leafM n v)) ∧ Below w.heap.size w w' := by
  have hv : Hid (leafM n v = if n.op = 5 then truthV v n.v (decide (v = n.v)) else if n.op = 6 then truthV v n.v (decide (cmpVa v n.v < 0)) else if n.op = 8 then (if v.k = 0 then 2 else 0)
    else if v.k = 0 then 1 else if matchM n.v.s v.s then 2 else 0) := by show _ = _; rw [← cmpVa_eq]; rfl
  have heq := Lib.hid (fun w' => requal_c v n.v w')
  have hle := Lib.hid (fun w' => rless_c v n.v w')
  have hma := Lib.hid (fun w' (hb : Below w.heap.size w w') => rmatch_c n.v.s v.s w' hs1 hs2 (Utf8Tabs_below hT hb))
  have htr := Lib.hid (fun b w' => ratruth_c b w')
  generalize leafM n v = R at *
  obtain ⟨op, col, kids, k, nn, s⟩ := n
  obtain ⟨k', n', s'⟩ := v
  dsimp only at hv heq hle hma
  generalize truthV ⟨k', n', s'⟩ ⟨k, nn, s⟩ (decide ((⟨k', n', s'⟩ : Va) = ⟨k, nn, s⟩)) = T1 at *
  generalize truthV ⟨k', n', s'⟩ ⟨k, nn, s⟩ (decide (cmpVa ⟨k', n', s'⟩ ⟨k, nn, s⟩ < 0)) = T2 at *
  generalize matchM s s' = M at *
  unfold Va.agg at heq hle
  unfold Nd.agg Va.agg
  dsimp only at heq hle ⊢
  have Hb1 : Hid (Below w.heap.size w ((w.alloc (.cells #[.int .u8 op, .int .i64 col, .int .i64 kids, .int .u8 k, .int .i64 nn, .string (St8 s)] 46)).alloc (.cells #[.int .u8 k', .int .i64 n', .string (St8 s')] 44))) := ((Below.refl _ _).alloc (Nat.le_refl _) _).alloc (by rw [World.size_alloc]; omega) _
  clear hs1 hs2 hT
  by_cases h5 : op = 5
  · subst h5
    rw [if_pos rfl] at hv
    go_enter Tryd.func36, Tryd.ntmps36
    go_wp2_with fail
    refine (heq.out _).mono ?_
    rintro e w1 ⟨rfl, hb1⟩
    go_wp2_with fail
    go_ret
    rw [hv.out]
    exact ⟨rfl, Hb1.out.trans (hb1.mono Hb1.out.size)⟩
  · have e5 : (op == 5) = false := by rw [beq_eq_false_iff_ne]; exact h5
    rw [if_neg h5] at hv
    by_cases h6 : op = 6
    · subst h6
      rw [if_pos rfl] at hv
      go_enter Tryd.func36, Tryd.ntmps36
      go_wp2_with fail
      refine (hle.out _).mono ?_
      rintro e w1 ⟨rfl, hb1⟩
      go_wp2_with fail
      go_ret
      rw [hv.out]
      exact ⟨rfl, Hb1.out.trans (hb1.mono Hb1.out.size)⟩
    · have e6 : (op == 6) = false := by rw [beq_eq_false_iff_ne]; exact h6
      rw [if_neg h6] at hv
      by_cases h8 : op = 8
      · subst h8
        rw [if_pos rfl] at hv
        by_cases hk : k' = 0
        · subst hk
          rw [if_pos rfl] at hv
          go_enter Tryd.func36, Tryd.ntmps36
          go_wp2_with fail
          refine (htr.out true _).mono ?_
          rintro e w1 ⟨rfl, rfl⟩
          go_wp2_with fail
          go_ret
          rw [hv.out]
          exact ⟨rfl, Hb1.out⟩
        · rw [if_neg hk] at hv
          have ek : (k' == 0) = false := by rw [beq_eq_false_iff_ne]; exact hk
          go_enter Tryd.func36, Tryd.ntmps36
          go_wp2_with fail
          refine (htr.out false _).mono ?_
          rintro e w1 ⟨rfl, rfl⟩
          go_wp2_with fail
          go_ret
          rw [hv.out]
          exact ⟨rfl, Hb1.out⟩
      · have e8 : (op == 8) = false := by rw [beq_eq_false_iff_ne]; exact h8
        rw [if_neg h8] at hv
        by_cases hk : k' = 0
        · subst hk
          rw [if_pos rfl] at hv
          go_enter Tryd.func36, Tryd.ntmps36
          go_wp2_with fail
          go_ret
          rw [hv.out]
          exact ⟨rfl, Hb1.out⟩
        · rw [if_neg hk] at hv
          have ek : (k' == 0) = false := by rw [beq_eq_false_iff_ne]; exact hk
          obtain ⟨V, hV⟩ : ∃ V : Int, V = if M = true then 2 else 0 := ⟨_, rfl⟩
          rw [← hV] at hv
          have htm := htr.out M
          rw [← hV] at htm
          have Htm := Lib.hid htm
          clear htm hV htr
          go_enter Tryd.func36, Tryd.ntmps36
          go_wp2_with fail
          refine (hma.out _ Hb1.out).mono ?_
          rintro e w1 ⟨⟨er, rfl⟩, hb1⟩
          go_wp2_with fail
          refine (Htm.out _).mono ?_
          rintro e w2 ⟨rfl, rfl⟩
          go_wp2_with fail
          go_ret
          rw [hv.out]
          exact ⟨rfl, Hb1.out.trans (hb1.mono Hb1.out.size)⟩

end Go.Proofs.YtipnglidepfkbaaDoor
