/- Walks: the document's way to sort. Walks: rows that were written down; shown: the document's examples. -/
import Derived.Test.YtcadjekcdokkjaaGreatMSnCD
import Derived.Deep.RegionLaw
namespace Go.Proofs.YtcadjekcdokkjaaGreat
set_option linter.unusedVariables false
set_option linter.unusedSimpArgs false
open Go.RowKit
attribute [local go_sem ↓] Go.wp_at_zero Go.wp_at_succ
theorem Rows.put {w : World} {hs : List Value} {l : List RowM} (h : Rows w hs l) {E : Option Addr} {d : Nat} {x : RowM} (hd1 : x.length ≤ d) (hd2 : d ≤ maxLen) (hE : Rd w E (rcells x)) (hok : ∀ v ∈ x, v.ok) {k : Nat} (hk : k ≤ l.length) : Rows w (hs.take k ++ .slice E x.length d :: hs.drop k) (l.take k ++ x :: l.drop k) := by
 have hl := h.len
 refine ⟨by simp [hl], fun i r hi => ?_⟩
 have h1 : (l.take k).length = k := by rw [List.length_take]; omega
 have h2 : (hs.take k).length = k := by rw [List.length_take]; omega
 by_cases hik : i < k
 ·rw [List.getElem?_append_left (by omega), List.getElem?_take_of_lt hik] at hi
  rw [List.getElem?_append_left (by omega), List.getElem?_take_of_lt hik]
  exact h.at_ i r hi
 ·rw [List.getElem?_append_right (by omega), h1] at hi
  rw [List.getElem?_append_right (by omega), h2]
  cases hq : i - k with
  | zero =>
   rw [hq] at hi
   injection hi with hi
   subst hi
   exact ⟨E, d, rfl, hd1, hd2, hE, hok⟩
  | succ q =>
   rw [hq, List.getElem?_cons_succ, List.getElem?_drop] at hi
   rw [List.getElem?_cons_succ, List.getElem?_drop]
   exact h.at_ _ r hi
theorem Rows.one {w : World} {hs : List Value} {l : List RowM} (h : Rows w hs l) : ∀ u ∈ hs, u.oneCell' = true := fun u hu => by
 obtain ⟨i, hi⟩ := List.getElem?_of_mem hu
 have hl := (List.getElem?_eq_some_iff.1 hi).1
 rw [h.len] at hl
 obtain ⟨A, c, h1, _⟩ := h.at_ i l[i] (List.getElem?_eq_getElem hl)
 rw [hi] at h1
 injection h1 with h1
 rw [h1]
 rfl
set_option maxHeartbeats 16000000 in
set_option maxRecDepth 100000 in
theorem rsort_any (rs : List RowM) (hs : List Value) (n c : Nat) (A : Option Addr) (KA : Option Addr) (kn kc : Nat) (ks : List Ky) (w : World) (hn : rs.length = n) (hA : Rd w A hs) (hR : Rows w hs rs) (hn1 : n ≤ 1000) (hks : ks.length = kn) (hK : Rd w KA (kyc ks)) (hkn : kn ≤ 1000000) :
  Calls Tryz.prog 21 #[.slice A n c, .slice KA kn kc] w fun e w' => ∃ g n' c' hs', e = .returned (.slice g n' c') ∧ (sortR ks rs).length = n' ∧ Rd w' g hs' ∧ Rows w' hs' (sortR ks rs) ∧ Below w.heap.size w w' := by
 have Hn := Lib.hid hn
 have HA := Lib.hid hA
 have HR := Lib.hid hR
 have HK := Lib.hid hK
 have Hks := Lib.hid hks
 clear hn hA hR hK hks
 go_enter Tryz.func21, Tryz.ntmps21
 go_wp2_with fail
 go_loopw [5, 6] (fun vo vi wr => ∃ (j : Nat) (OA : Option Addr) (oc : Nat) (ho : List Value), j ≤ n ∧ vi = .int .i64 (j : Int) ∧ vo = .slice OA j oc ∧ (j = 0 → OA = none ∧ oc = 0) ∧ OwnX wr w.heap.size 23 OA j oc ho ∧ Hid (Rows w ho (sortR ks (rs.take j))) ∧ Hid (Below w.heap.size w wr)) (fun _ i _ => n - (intOf i).toNat)
 case atStart => exact ⟨0, none, 0, [], by omega, by go_num, by go_num, fun _ => ⟨rfl, rfl⟩, OwnX.nil _ _ _, ⟨rfl, fun i r h => by simp [sortR, Sq.sortM] at h⟩, Below.refl _ _⟩
 case round =>
  obtain ⟨j, OA, oc, ho, hj, rfl, rfl, h0, hO, hRo, Hb⟩ := hrel
  by_cases hlt : j < n
  ·obtain ⟨r, hr⟩ : ∃ r, rs[j]? = some r := ⟨_, List.getElem?_eq_getElem (by rw [Hn.out]; exact hlt)⟩
   obtain ⟨E, d, hjs, hd1, hd2, hd3, hd4⟩ := HR.out.at_ j r hr
   obtain ⟨hjl, hje⟩ := List.getElem?_eq_some_iff.1 hjs
   have hts := Lib.hid (take_snoc hr).1
   obtain ⟨so, hso⟩ : ∃ so, so = sortR ks (rs.take j) := ⟨_, rfl⟩
   rw [← hso] at hRo
   have Hso := Lib.hid hso
   have hsl : so.length = j := by rw [hso, sort_length, List.length_take, Hn.out]; omega
   have Hup : Hid (Sq.Up (leRow ks) so) := by show Sq.Up _ _; rw [hso]; exact Sq.sort_up (leRow_ordb ks) _
   have Hd := Lib.hid (And.intro hd1 (And.intro hd2 (And.intro hd3 hd4)))
   obtain ⟨rl, hrl⟩ : ∃ rl, rl = r.length := ⟨_, rfl⟩
   have Hrl := Lib.hid hrl
   have HO := Lib.hid hO
   have Hcap := Lib.hid hO.cap
   have hjI : (j : Int) < (n : Int) := by omega
   have hjI0 : (0 : Int) ≤ (j : Int) := by omega
   obtain ⟨gx, ox, rfl, _, _, hcx⟩ := (HA.out.below Hb.out).get hjl
   rw [hje, ← hrl] at hcx
   clear hso hd1 hd2 hd3 hd4 hrl hO hjs hje
   go_wp2_with fail
   generalize wr = wq at *
   go_loopw [7] (fun vk w8 => ∃ k : Nat, k ≤ j ∧ vk = .int .i64 (k : Int) ∧ Hid (∀ (h : k < so.length), leRow ks so[k] r = false) ∧ Hid (Below wq.heap.size wq w8)) (fun vk _ => (intOf vk).toNat)
   case atStart => exact ⟨j, Nat.le_refl _, by go_num, (fun h => by omega), Below.refl _ _⟩
   case round =>
    obtain ⟨k, hk, rfl, Hle, Hb8⟩ := hrel
    generalize wr = wp at *
    have hbp := Hb.out.trans (Hb8.out.mono Hb.out.size)
    have hcp := cell_keep Hb8.out hcx
    by_cases hk0 : k = 0
    ·subst hk0
     clear hcp
     go_wp2_with fail
     go_quiet (fail)
     go_wp2_with (first | (at_builtin; refine hold ?_) | (at_make; refine hold ?_))
     (with_reducible refine unhold ?_)
     have HBB : Hid (Below wq.heap.size wq (wp.drewN nq)) := Hb8.out.trans ((show Below wp.heap.size wp (wp.drewN nq) from ⟨rfl, rfl, rfl, Nat.le_refl _, fun _ _ => rfl⟩).mono Hb8.out.size)
     have hbB : Hid (Below w.heap.size w (wp.drewN nq)) := Hb.out.trans (HBB.out.mono Hb.out.size)
     have HOB := Lib.hid (HO.out.below HBB.out)
     have cB := cell_keep HBB.out hcx
     have hbE : Below (wp.drewN nq).heap.size (wp.drewN nq) ((wp.drewN nq).alloc (.cells #[] 23)) := (Below.refl _ _).alloc (Nat.le_refl _) _
     have hoE : Own ((wp.drewN nq).alloc (.cells #[] 23)) (wp.drewN nq).heap.size 23 1 (some ⟨(wp.drewN nq).heap.size, 0, none⟩) 0 0 [] := World.ownsRow_made (wp.drewN nq) #[] 0 (Nat.le_refl _) (by unfold maxLen; omega) rfl
     have hsrc : OwnX ((wp.drewN nq).alloc (.cells #[] 23)) w.heap.size 23 OA (j) (oc) (ho.drop (0)) := by rw [List.drop_zero]; exact HOB.out.below hbE
     have hone : ∀ u ∈ ho, u.oneCell' = true := hRo.out.one
     have hol : ho.length = j := by rw [hRo.out.len, hsl]
     refine wpList_apd rfl (.tmp 35) (.tmp 38) 32 rfl Erows (wp.drewN nq).heap.size (some ⟨(wp.drewN nq).heap.size, 0, none⟩) 0 0 [] (by simp [Act.eval, Act.put]) hoE OA (j) (oc) (ho.drop (0)) (by simp [Act.eval, Act.put]) (by rw [List.length_drop, hol]; try omega) hsrc.rd (fun u hu => hone u (List.mem_of_mem_drop hu)) (j) (Nat.zero_add _) (ho.drop (0)) rfl (by omega) (by omega) hbE.size ?_
     intro A5 c5 w5 ho5 hg5 hat5
     have hb5 : Hid (Below (wp.drewN nq).heap.size (wp.drewN nq) w5) := hbE.grown hg5 hbE.size hoE.row_ge
     have Hb5 := Lib.hid (hbB.out.trans (hb5.out.mono hbB.out.size))
     have HO5 := Lib.hid (HOB.out.below hb5.out)
     have c5x := cell_keep hb5.out cB
     have Ho5 := Lib.hid ho5
     have Hsl5 : Hid (∀ b o : Nat, (OA : Option Addr) = some ⟨b, o, none⟩ → b < (wp.drewN nq).heap.size) := fun b o e => HOB.out.in_ b o e
     clear hbE hoE hsrc ho5 hg5 hat5 cB hcx
     go_wp2_with fail
     have hp1I : (0 : Int) ≤ (j : Int) + 1 := by omega
     skip
     have hbA : Below w5.heap.size w5 ((w5.alloc (.cells #[.slice E rl d] 23)).drew) := ((Below.refl _ _).alloc (Nat.le_refl _) _).drew
     have hOA := ((HO5.out.take (k := 0) (Nat.zero_le _)).below hbA)
     go_region_law
      (refine step_apx rfl (.tmp 42) (.tmp 47) 32 rfl Erows w.heap.size OA (0) oc (ho.take (0)) (by simp [Act.eval, Act.put]) hOA (some ⟨w5.heap.size, 0, none⟩) 1 1 [.slice E rl d] (by simp [Act.eval, Act.put]) rfl (Rd.of_blk (Blk.new w5 23 #[.slice E rl d])) (by simp [Value.oneCell']) (1) rfl (ho.take (0) ++ [.slice E rl d]) rfl (by omega) (by omega) (by have := Hb5.out.size; have := hbA.size; omega) ?_; intro A6 c6 w6 ho6 hg6 hat6)
     all_goals
      have hrd6 : Hid (Rd w6 A5 (ho.drop (0))) := Rd.grown (Rd.below Ho5.out.rd hbA) hg6 fun b o e hb => by
       obtain ⟨hge, _⟩ := Own.type Ho5.out e
       obtain ⟨a, ha, hab⟩ := Option.map_eq_some_iff.1 hb.symm
       rcases hOA with ⟨hn, _⟩ | ⟨g', o', ys, hn, _⟩
       ·rw [hn] at ha; cases ha
       ·have h1 := Hsl5.out g' o' hn
        rw [hn] at ha
        injection ha with ha
        subst ha
        have h2 : g' = b := hab
        omega
      have hb6 : Hid (Below w.heap.size w w6) := (Hb5.out.trans (hbA.mono Hb5.out.size)).grown hg6 (Nat.le_trans Hb5.out.size hbA.size) fun k hk => by
       obtain ⟨a, ha, hab⟩ := Option.map_eq_some_iff.1 hk
       rcases hOA with ⟨hn, _⟩ | ⟨g', o', ys, hn, hge, _⟩
       ·rw [hn] at ha; cases ha
       ·rw [hn] at ha
        injection ha with ha
        subst ha
        have h2 : g' = k := hab
        omega
      have Ho6 := Lib.hid ho6
      have hins : Hid (sortR ks (rs.take (j + 1)) = so.take (0) ++ r :: so.drop (0)) := by
       show _ = _
       rw [hts.out]
       show Sq.sortM (leRow ks) (rs.take j ++ [r]) = _
       rw [Sq.sort_snoc]
       have e0 : Sq.sortM (leRow ks) (rs.take j) = so := Hso.out.symm
       rw [e0]
       exact Sq.ins_at (leRow_ordb ks) Hup.out (0) (by omega) Hle.out (fun h => by omega)
      clear ho6 hg6 hat6 hOA hbA
      go_wp2_with (first | (at_builtin; refine hold ?_) | (at_make; refine hold ?_))
      (with_reducible refine unhold ?_)
      refine wpList_apx rfl (.tmp 49) (.tmp 50) 32 rfl Erows w.heap.size A6 (1) c6 (ho.take (0) ++ [.slice E rl d]) (by simp [Act.eval, Act.put]) Ho6.out A5 (j) c5 (ho.drop (0)) (by simp [Act.eval, Act.put]) (by rw [List.length_drop, hol]; try omega) hrd6.out (fun u hu => hone u (List.mem_of_mem_drop hu)) (j + 1) (by omega) (ho.take (0) ++ .slice E rl d :: ho.drop (0)) (by simp) (by omega) (by omega) hb6.out.size ?_
      intro A7 c7 w7 ho7 hg7 hat7
      have hb7 : Hid (Below w.heap.size w w7) := hb6.out.grown hg7 hb6.out.size fun k hk => by
       obtain ⟨a, ha, hab⟩ := Option.map_eq_some_iff.1 hk
       rcases Ho6.out with ⟨hn, _⟩ | ⟨g', o', ys, hn, hge, _⟩
       ·rw [hn] at ha; cases ha
       ·rw [hn] at ha
        injection ha with ha
        subst ha
        have h2 : g' = k := hab
        omega
      have Ho7 := Lib.hid ho7
      clear ho7 hg7 hat7 Ho6 hrd6
      go_wp2_with fail
      go_roundw
      case rel =>
       refine ⟨j + 1, A7, c7, _, by omega, by go_num, rfl, (fun h => by omega), Ho7.out, ?_, hb7⟩
       show Rows _ _ _
       rw [hins.out, Hrl.out]
       have h9 := hRo.out.put (k := 0) Hd.out.1 Hd.out.2.1 Hd.out.2.2.1 Hd.out.2.2.2 (by omega)
       exact h9
      case measure => simp [intOf]; omega
    ·obtain ⟨p, rfl⟩ : ∃ p, k = p + 1 := ⟨k - 1, by omega⟩
     have hpl : p < so.length := by omega
     obtain ⟨F, f, hfs, hf1, hf2, hf3, hf4⟩ := hRo.out.at_ p so[p] (List.getElem?_eq_getElem hpl)
     obtain ⟨go, oo, rfl, _, hrg⟩ := (HO.out.below Hb8.out).at_ (by omega)
     have q0 := hrg p _ hfs
     have hcall := Lib.hid (rcmp15_k so[p] r so[p].length f rl d F E KA kn kc ks wp.drew rfl Hrl.out.symm ((hf3.below hbp).below (Below.refl _ _).drew) ((Hd.out.2.2.1.below hbp).below (Below.refl _ _).drew) hf4 Hd.out.2.2.2 Hks.out ((HK.out.below hbp).below (Below.refl _ _).drew) hkn)
     obtain ⟨fl, hfl⟩ : ∃ fl, fl = so[p].length := ⟨_, rfl⟩
     rw [← hfl] at q0 hcall
     obtain ⟨R, hRR⟩ : ∃ R, R = cmpR ks so[p] r := ⟨_, rfl⟩
     rw [← hRR] at hcall
     have HRR := Lib.hid hRR
     have qd : wp.drew.cell? ⟨go, oo + p, none⟩ = some (.slice F fl f) := q0
     have cd : wp.drew.cell? ⟨gx, ox + j, none⟩ = some (.slice E rl d) := hcp
     have hpj : p < j := by omega
     have hpjI : (p : Int) < (j : Int) := by omega
     have hpI0 : (0 : Int) ≤ (p : Int) := by omega
     have hwI : IntKind.i64.wrap (p : Int) = (p : Int) := by rw [IntKind.wrap_i64]; omega
     have hwI2 : IntKind.i64.wrap ((p : Int) + 1 - 1) = (p : Int) := by rw [IntKind.wrap_i64]; omega
     have hkI : (0 : Int) < (p : Int) + 1 := by omega
     have Hbp := Lib.hid hbp
     clear hf1 hf2 hf3 hf4 hfs hrg hfl hRR hk0 hbp
     go_wp2_with fail
     go_region_held3 (fun w' => w'.cell? ⟨go, oo + p, none⟩ = some (.slice F fl f) ∧ w'.cell? ⟨gx, ox + j, none⟩ = some (.slice E rl d))
      (first | assumption | exact ⟨q0, hcp⟩ | exact ⟨qd, cd⟩ | exact ⟨q3, c3⟩)
      (first | (go_at_call 45; refine hcall.out.mono ?_; rintro e w3 ⟨rfl, hb3⟩; have q3 := cell_keep hb3 qd; have c3 := cell_keep hb3 cd))
     by_cases hpos : 0 < R
     ·have hb3' := Lib.hid (Hb8.out.trans (((Below.refl wp.heap.size wp).drew.trans hb3).mono Hb8.out.size))
      have hle : Hid (∀ (h : p < so.length), leRow ks so[p] r = false) := fun h => leRow_no.2 (by rw [← HRR.out]; exact hpos)
      have hgt : (0 : Int) < R := hpos
      clear hcall hb3 q3 c3 q0 qd cd HRR
      go_wp2_with fail
      go_roundw
      case rel => exact ⟨p, by omega, by go_num, hle, hb3'⟩
      case measure => simp [intOf]
     ·have hngt : ¬ ((0 : Int) < R) := hpos
      clear hcall
      by_cases hcap : oc = p + 1
      ·subst hcap
       go_wp2_with (first | (at_builtin; refine hold ?_) | (at_make; refine hold ?_))
       (with_reducible refine unhold ?_)
       have HBB := Lib.hid (Hb8.out.trans (((Below.refl wp.heap.size wp).drew.trans hb3).mono Hb8.out.size))
       have hbB : Hid (Below w.heap.size w (w3)) := Hb.out.trans (HBB.out.mono Hb.out.size)
       have HOB := Lib.hid (HO.out.below HBB.out)
       have cB := cell_keep HBB.out hcx
       have hbE : Below (w3).heap.size (w3) ((w3).alloc (.cells #[] 23)) := (Below.refl _ _).alloc (Nat.le_refl _) _
       have hoE : Own ((w3).alloc (.cells #[] 23)) (w3).heap.size 23 1 (some ⟨(w3).heap.size, 0, none⟩) 0 0 [] := World.ownsRow_made (w3) #[] 0 (Nat.le_refl _) (by unfold maxLen; omega) rfl
       have hsrc : OwnX ((w3).alloc (.cells #[] 23)) w.heap.size 23 (some ⟨go, oo, none⟩) (j - (p + 1)) (0) (ho.drop (p + 1)) := by have h9 := (HOB.out.below hbE).rest (k := p + 1) hk (some ⟨go, oo, none⟩) (by rw [if_pos rfl]); rw [Nat.sub_self] at h9; exact h9
       have hone : ∀ u ∈ ho, u.oneCell' = true := hRo.out.one
       have hol : ho.length = j := by rw [hRo.out.len, hsl]
       refine wpList_apd rfl (.tmp 35) (.tmp 38) 32 rfl Erows (w3).heap.size (some ⟨(w3).heap.size, 0, none⟩) 0 0 [] (by simp [Act.eval, Act.put]) hoE (some ⟨go, oo, none⟩) (j - (p + 1)) (0) (ho.drop (p + 1)) (by simp [Act.eval, Act.put]) (by rw [List.length_drop, hol]; try omega) hsrc.rd (fun u hu => hone u (List.mem_of_mem_drop hu)) (j - (p + 1)) (Nat.zero_add _) (ho.drop (p + 1)) rfl (by omega) (by omega) hbE.size ?_
       intro A5 c5 w5 ho5 hg5 hat5
       have hb5 : Hid (Below (w3).heap.size (w3) w5) := hbE.grown hg5 hbE.size hoE.row_ge
       have Hb5 := Lib.hid (hbB.out.trans (hb5.out.mono hbB.out.size))
       have HO5 := Lib.hid (HOB.out.below hb5.out)
       have c5x := cell_keep hb5.out cB
       have Ho5 := Lib.hid ho5
       have Hsl5 : Hid (∀ b o : Nat, ((some ⟨go, oo, none⟩) : Option Addr) = some ⟨b, o, none⟩ → b < (w3).heap.size) := fun b o e => HOB.out.in_ b o e
       clear hbE hoE hsrc ho5 hg5 hat5 cB hb3 q3 c3 q0 qd cd
       go_wp2_with fail
       have hp1I : (0 : Int) ≤ (p : Int) + 1 := by omega
       skip
       have hbA : Below w5.heap.size w5 ((w5.alloc (.cells #[.slice E rl d] 23)).drew) := ((Below.refl _ _).alloc (Nat.le_refl _) _).drew
       have hOA := ((HO5.out.take (k := p + 1) hk).below hbA)
       go_region_law
        (refine step_apx rfl (.tmp 42) (.tmp 47) 32 rfl Erows w.heap.size (some ⟨go, oo, none⟩) (p + 1) (p + 1) (ho.take (p + 1)) (by simp [Act.eval, Act.put]) hOA (some ⟨w5.heap.size, 0, none⟩) 1 1 [.slice E rl d] (by simp [Act.eval, Act.put]) rfl (Rd.of_blk (Blk.new w5 23 #[.slice E rl d])) (by simp [Value.oneCell']) (p + 2) rfl (ho.take (p + 1) ++ [.slice E rl d]) rfl (by omega) (by omega) (by have := Hb5.out.size; have := hbA.size; omega) ?_; intro A6 c6 w6 ho6 hg6 hat6)
       all_goals
        have hrd6 : Hid (Rd w6 A5 (ho.drop (p + 1))) := Rd.grown (Rd.below Ho5.out.rd hbA) hg6 fun b o e hb => by
         obtain ⟨hge, _⟩ := Own.type Ho5.out e
         obtain ⟨a, ha, hab⟩ := Option.map_eq_some_iff.1 hb.symm
         rcases hOA with ⟨hn, _⟩ | ⟨g', o', ys, hn, _⟩
         ·rw [hn] at ha; cases ha
         ·have h1 := Hsl5.out g' o' hn
          rw [hn] at ha
          injection ha with ha
          subst ha
          have h2 : g' = b := hab
          omega
        have hb6 : Hid (Below w.heap.size w w6) := (Hb5.out.trans (hbA.mono Hb5.out.size)).grown hg6 (Nat.le_trans Hb5.out.size hbA.size) fun k hk => by
         obtain ⟨a, ha, hab⟩ := Option.map_eq_some_iff.1 hk
         rcases hOA with ⟨hn, _⟩ | ⟨g', o', ys, hn, hge, _⟩
         ·rw [hn] at ha; cases ha
         ·rw [hn] at ha
          injection ha with ha
          subst ha
          have h2 : g' = k := hab
          omega
        have Ho6 := Lib.hid ho6
        have hins : Hid (sortR ks (rs.take (j + 1)) = so.take (p + 1) ++ r :: so.drop (p + 1)) := by
         show _ = _
         rw [hts.out]
         show Sq.sortM (leRow ks) (rs.take j ++ [r]) = _
         rw [Sq.sort_snoc]
         have e0 : Sq.sortM (leRow ks) (rs.take j) = so := Hso.out.symm
         rw [e0]
         exact Sq.ins_at (leRow_ordb ks) Hup.out (p + 1) (by omega) Hle.out (fun h h2 => leRow_iff.2 (by have := HRR.out; simp only [Nat.add_sub_cancel] at *; omega))
        clear ho6 hg6 hat6 hOA hbA
        go_wp2_with (first | (at_builtin; refine hold ?_) | (at_make; refine hold ?_))
        (with_reducible refine unhold ?_)
        refine wpList_apx rfl (.tmp 49) (.tmp 50) 32 rfl Erows w.heap.size A6 (p + 2) c6 (ho.take (p + 1) ++ [.slice E rl d]) (by simp [Act.eval, Act.put]) Ho6.out A5 (j - (p + 1)) c5 (ho.drop (p + 1)) (by simp [Act.eval, Act.put]) (by rw [List.length_drop, hol]; try omega) hrd6.out (fun u hu => hone u (List.mem_of_mem_drop hu)) (j + 1) (by omega) (ho.take (p + 1) ++ .slice E rl d :: ho.drop (p + 1)) (by simp) (by omega) (by omega) hb6.out.size ?_
        intro A7 c7 w7 ho7 hg7 hat7
        have hb7 : Hid (Below w.heap.size w w7) := hb6.out.grown hg7 hb6.out.size fun k hk => by
         obtain ⟨a, ha, hab⟩ := Option.map_eq_some_iff.1 hk
         rcases Ho6.out with ⟨hn, _⟩ | ⟨g', o', ys, hn, hge, _⟩
         ·rw [hn] at ha; cases ha
         ·rw [hn] at ha
          injection ha with ha
          subst ha
          have h2 : g' = k := hab
          omega
        have Ho7 := Lib.hid ho7
        clear ho7 hg7 hat7 Ho6 hrd6
        go_wp2_with fail
        go_roundw
        case rel =>
         refine ⟨j + 1, A7, c7, _, by omega, by go_num, rfl, (fun h => by omega), Ho7.out, ?_, hb7⟩
         show Rows _ _ _
         rw [hins.out, Hrl.out]
         have h9 := hRo.out.put (k := p + 1) Hd.out.1 Hd.out.2.1 Hd.out.2.2.1 Hd.out.2.2.2 (by omega)
         exact h9
        case measure => simp [intOf]; omega
      ·go_wp2_with (first | (at_builtin; refine hold ?_) | (at_make; refine hold ?_))
       (with_reducible refine unhold ?_)
       have HBB := Lib.hid (Hb8.out.trans (((Below.refl wp.heap.size wp).drew.trans hb3).mono Hb8.out.size))
       have hbB : Hid (Below w.heap.size w (w3)) := Hb.out.trans (HBB.out.mono Hb.out.size)
       have HOB := Lib.hid (HO.out.below HBB.out)
       have cB := cell_keep HBB.out hcx
       have hbE : Below (w3).heap.size (w3) ((w3).alloc (.cells #[] 23)) := (Below.refl _ _).alloc (Nat.le_refl _) _
       have hoE : Own ((w3).alloc (.cells #[] 23)) (w3).heap.size 23 1 (some ⟨(w3).heap.size, 0, none⟩) 0 0 [] := World.ownsRow_made (w3) #[] 0 (Nat.le_refl _) (by unfold maxLen; omega) rfl
       have hsrc : OwnX ((w3).alloc (.cells #[] 23)) w.heap.size 23 (some ⟨go, oo + (p + 1), none⟩) (j - (p + 1)) (oc - (p + 1)) (ho.drop (p + 1)) := (HOB.out.below hbE).rest (k := p + 1) hk _ (by rw [if_neg (fun e => hcap e.symm)])
       have hone : ∀ u ∈ ho, u.oneCell' = true := hRo.out.one
       have hol : ho.length = j := by rw [hRo.out.len, hsl]
       refine wpList_apd rfl (.tmp 35) (.tmp 38) 32 rfl Erows (w3).heap.size (some ⟨(w3).heap.size, 0, none⟩) 0 0 [] (by simp [Act.eval, Act.put]) hoE (some ⟨go, oo + (p + 1), none⟩) (j - (p + 1)) (oc - (p + 1)) (ho.drop (p + 1)) (by simp [Act.eval, Act.put]) (by rw [List.length_drop, hol]; try omega) hsrc.rd (fun u hu => hone u (List.mem_of_mem_drop hu)) (j - (p + 1)) (Nat.zero_add _) (ho.drop (p + 1)) rfl (by omega) (by omega) hbE.size ?_
       intro A5 c5 w5 ho5 hg5 hat5
       have hb5 : Hid (Below (w3).heap.size (w3) w5) := hbE.grown hg5 hbE.size hoE.row_ge
       have Hb5 := Lib.hid (hbB.out.trans (hb5.out.mono hbB.out.size))
       have HO5 := Lib.hid (HOB.out.below hb5.out)
       have c5x := cell_keep hb5.out cB
       have Ho5 := Lib.hid ho5
       have Hsl5 : Hid (∀ b o : Nat, ((some ⟨go, oo, none⟩) : Option Addr) = some ⟨b, o, none⟩ → b < (w3).heap.size) := fun b o e => HOB.out.in_ b o e
       clear hbE hoE hsrc ho5 hg5 hat5 cB hb3 q3 c3 q0 qd cd
       go_wp2_with fail
       have hp1I : (0 : Int) ≤ (p : Int) + 1 := by omega
       have hp1O : (p : Int) + 1 ≤ (oc : Int) := by have := Hcap.out; omega
       have hbA : Below w5.heap.size w5 ((w5.alloc (.cells #[.slice E rl d] 23)).drew) := ((Below.refl _ _).alloc (Nat.le_refl _) _).drew
       have hOA := ((HO5.out.take (k := p + 1) hk).below hbA)
       go_region_law
        (refine step_apx rfl (.tmp 42) (.tmp 47) 32 rfl Erows w.heap.size (some ⟨go, oo, none⟩) (p + 1) oc (ho.take (p + 1)) (by simp [Act.eval, Act.put]) hOA (some ⟨w5.heap.size, 0, none⟩) 1 1 [.slice E rl d] (by simp [Act.eval, Act.put]) rfl (Rd.of_blk (Blk.new w5 23 #[.slice E rl d])) (by simp [Value.oneCell']) (p + 2) rfl (ho.take (p + 1) ++ [.slice E rl d]) rfl (by omega) (by omega) (by have := Hb5.out.size; have := hbA.size; omega) ?_; intro A6 c6 w6 ho6 hg6 hat6)
       all_goals
        have hrd6 : Hid (Rd w6 A5 (ho.drop (p + 1))) := Rd.grown (Rd.below Ho5.out.rd hbA) hg6 fun b o e hb => by
         obtain ⟨hge, _⟩ := Own.type Ho5.out e
         obtain ⟨a, ha, hab⟩ := Option.map_eq_some_iff.1 hb.symm
         rcases hOA with ⟨hn, _⟩ | ⟨g', o', ys, hn, _⟩
         ·rw [hn] at ha; cases ha
         ·have h1 := Hsl5.out g' o' hn
          rw [hn] at ha
          injection ha with ha
          subst ha
          have h2 : g' = b := hab
          omega
        have hb6 : Hid (Below w.heap.size w w6) := (Hb5.out.trans (hbA.mono Hb5.out.size)).grown hg6 (Nat.le_trans Hb5.out.size hbA.size) fun k hk => by
         obtain ⟨a, ha, hab⟩ := Option.map_eq_some_iff.1 hk
         rcases hOA with ⟨hn, _⟩ | ⟨g', o', ys, hn, hge, _⟩
         ·rw [hn] at ha; cases ha
         ·rw [hn] at ha
          injection ha with ha
          subst ha
          have h2 : g' = k := hab
          omega
        have Ho6 := Lib.hid ho6
        have hins : Hid (sortR ks (rs.take (j + 1)) = so.take (p + 1) ++ r :: so.drop (p + 1)) := by
         show _ = _
         rw [hts.out]
         show Sq.sortM (leRow ks) (rs.take j ++ [r]) = _
         rw [Sq.sort_snoc]
         have e0 : Sq.sortM (leRow ks) (rs.take j) = so := Hso.out.symm
         rw [e0]
         exact Sq.ins_at (leRow_ordb ks) Hup.out (p + 1) (by omega) Hle.out (fun h h2 => leRow_iff.2 (by have := HRR.out; simp only [Nat.add_sub_cancel] at *; omega))
        clear ho6 hg6 hat6 hOA hbA
        go_wp2_with (first | (at_builtin; refine hold ?_) | (at_make; refine hold ?_))
        (with_reducible refine unhold ?_)
        refine wpList_apx rfl (.tmp 49) (.tmp 50) 32 rfl Erows w.heap.size A6 (p + 2) c6 (ho.take (p + 1) ++ [.slice E rl d]) (by simp [Act.eval, Act.put]) Ho6.out A5 (j - (p + 1)) c5 (ho.drop (p + 1)) (by simp [Act.eval, Act.put]) (by rw [List.length_drop, hol]; try omega) hrd6.out (fun u hu => hone u (List.mem_of_mem_drop hu)) (j + 1) (by omega) (ho.take (p + 1) ++ .slice E rl d :: ho.drop (p + 1)) (by simp) (by omega) (by omega) hb6.out.size ?_
        intro A7 c7 w7 ho7 hg7 hat7
        have hb7 : Hid (Below w.heap.size w w7) := hb6.out.grown hg7 hb6.out.size fun k hk => by
         obtain ⟨a, ha, hab⟩ := Option.map_eq_some_iff.1 hk
         rcases Ho6.out with ⟨hn, _⟩ | ⟨g', o', ys, hn, hge, _⟩
         ·rw [hn] at ha; cases ha
         ·rw [hn] at ha
          injection ha with ha
          subst ha
          have h2 : g' = k := hab
          omega
        have Ho7 := Lib.hid ho7
        clear ho7 hg7 hat7 Ho6 hrd6
        go_wp2_with fail
        go_roundw
        case rel =>
         refine ⟨j + 1, A7, c7, _, by omega, by go_num, rfl, (fun h => by omega), Ho7.out, ?_, hb7⟩
         show Rows _ _ _
         rw [hins.out, Hrl.out]
         have h9 := hRo.out.put (k := p + 1) Hd.out.1 Hd.out.2.1 Hd.out.2.2.1 Hd.out.2.2.2 (by omega)
         exact h9
        case measure => simp [intOf]; omega
  ·obtain rfl : n = j := by omega
   have ht : Hid (rs.take n = rs) := List.take_of_length_le (by rw [Hn.out]; exact Nat.le_refl _)
   have HO := Lib.hid hO
   clear hO
   go_wp2_with fail
   go_ret
   have h1 := hRo.out
   rw [ht.out] at h1
   exact ⟨OA, n, oc, ho, rfl, by rw [sort_length, Hn.out], HO.out.rd, h1.below Hb.out, Hb.out⟩
end Go.Proofs.YtcadjekcdokkjaaGreat
namespace Go.Proofs.YtcadjekcdokkjaaGreat
set_option linter.unusedVariables false
set_option linter.unusedSimpArgs false
open Go.RowKit
attribute [local go_sem ↓] Go.wp_at_zero Go.wp_at_succ
structure LitRows (w : World) (hs : List Value) (rs : List RowM) : Prop where
 len : hs.length = rs.length
 at_ : ∀ (i : Nat) (r : RowM), rs[i]? = some r → ∃ b, hs[i]? = some (.slice (some ⟨b, 0, none⟩) r.length r.length) ∧ Blk w b 38 (rcells r) ∧ r.length ≤ maxLen ∧ ∀ v ∈ r, v.ok
namespace LitRows
variable {w w' : World} {hs : List Value} {rs : List RowM}
theorem keeps {T : List TypeId} {B : Nat} (h : LitRows w hs rs) (ht : 38 ∉ T) (hk : Keeps T B w w') : LitRows w' hs rs := ⟨h.len, fun i r hi => by
 obtain ⟨b, h1, h2, h3⟩ := h.at_ i r hi
 exact ⟨b, h1, h2.keeps ht hk, h3⟩⟩
theorem below (h : LitRows w hs rs) (hb : Below w.heap.size w w') : LitRows w' hs rs := h.keeps (T := []) (B := 0) (by simp) (Keeps.of_below hb)
theorem rows (h : LitRows w hs rs) : Rows w hs rs := ⟨h.len, fun i r hi => by
 obtain ⟨b, h1, h2, h3, h4⟩ := h.at_ i r hi
 exact ⟨some ⟨b, 0, none⟩, r.length, h1, Nat.le_refl _, h3, Rd.of_blk h2, h4⟩⟩
theorem nil (w : World) : LitRows w [] [] := ⟨rfl, fun i r h => by simp at h⟩
theorem snoc (h : LitRows w hs rs) {b : Nat} {r : RowM} (hb : Blk w b 38 (rcells r)) (hl : r.length ≤ maxLen) (hok : ∀ v ∈ r, v.ok) : LitRows w (hs ++ [.slice (some ⟨b, 0, none⟩) r.length r.length]) (rs ++ [r]) := by
 refine ⟨by rw [List.length_append, List.length_append, h.len]; rfl, fun i x hx => ?_⟩
 by_cases hi : i < rs.length
 ·rw [List.getElem?_append_left hi] at hx
  rw [List.getElem?_append_left (by rw [h.len]; exact hi)]
  exact h.at_ i x hx
 ·rw [List.getElem?_append_right (by omega)] at hx
  rw [List.getElem?_append_right (by rw [h.len]; omega), h.len]
  cases hq : i - rs.length with
  | zero =>
   rw [hq] at hx
   injection hx with hx
   subst hx
   exact ⟨b, rfl, hb, hl, hok⟩
  | succ k => rw [hq] at hx; simp at hx
theorem came {w : World} {B bp most left least g : Nat} (h : LitRows w hs rs) (hg : Blk w g 23 hs) (hp : Pu w bp most left least) (hB : B ≤ bp) : Came w B bp (some ⟨g, 0, none⟩) hs rs := fun w' hT =>
 ⟨Rd.of_blk (hg.keeps (by decide) (hT.purse hp hB)), (h.keeps (by decide) (hT.purse hp hB)).rows⟩
end LitRows
theorem KeyIn.blk {w : World} {B bp g : Nat} {ks : List Ky} (h : Blk w g 40 (kyc ks)) (hne : g ≠ bp) : KeyIn w B bp (some ⟨g, 0, none⟩) ks :=
 ⟨fun _ => ⟨g, 0, rfl, h.range, .inr fun c t f e m => by
  unfold Blk at h
  rw [h] at e
  injection e with e
  injection e with _ e
  exact absurd m (e ▸ by decide)⟩, fun _ b o e => by
  injection e with e
  injection e with e _
  rw [← e]
  exact ⟨h.lt, hne⟩⟩
def numR (n : Int) : RowM := [⟨2, n, []⟩]
theorem numR_ok {n : Int} (h1 : -9223372036854775808 ≤ n) (h2 : n ≤ 9223372036854775807) : ∀ v ∈ numR n, v.ok := fun v hv => by
 rw [List.mem_singleton.1 hv]
 exact ⟨⟨by show (0 : Int) ≤ 2; decide, by show (2 : Int) ≤ 255; decide⟩, ⟨h1, h2⟩, by show 0 ≤ _; omega⟩
theorem num_any (n : Int) (w : World) : Calls Tryz.prog 34 #[.int .i64 n] w fun e w' => e = .returned (.slice (some ⟨w.heap.size, 0, none⟩) 1 1) ∧ Blk w' w.heap.size 38 (rcells (numR n)) ∧ Below w.heap.size w w' ∧ w.heap.size < w'.heap.size := by
 have hb : Below w.heap.size w (w.alloc (.cells #[.int .u8 2, .int .i64 n, .string ⟨#[]⟩] 38)) := (Below.refl _ _).alloc (Nat.le_refl _) _
 have hk : Blk (w.alloc (.cells #[.int .u8 2, .int .i64 n, .string ⟨#[]⟩] 38)) w.heap.size 38 (rcells (numR n)) := Blk.new w _ _
 have Hb := Lib.hid hb
 have Hk := Lib.hid hk
 clear hb hk
 go_enter Tryz.func34, Tryz.ntmps34
 go_wp2_with fail
 go_ret
 exact ⟨rfl, Hk.out, Hb.out, Hk.out.lt⟩
def exN : List RowM := [numR 3, numR 1, numR 2]
def exS : List RowM := [numR 1, numR 2, numR 3]
def exK : List Ky := [⟨0, false⟩]
theorem exN_sort : sortR exK exN = exS := by decide
theorem exN_runs : runsN 32 exN = some 2 := by decide
theorem exN_none : runsN 15 exN = none := by decide
theorem exN_bytes : (rowsB exN).length = 9 := by decide
theorem exN_fine : ∀ r ∈ exN, FineR 16 r := fun r hr => by
 have h : r = numR 3 ∨ r = numR 1 ∨ r = numR 2 := by simpa [exN] using hr
 have hf : ∀ n : Int, -9223372036854775808 ≤ n → n ≤ 9223372036854775807 → FineR 16 (numR n) := fun n h1 h2 =>
  ⟨⟨by simp [numR, mayR, rightV], numR_ok h1 h2⟩, numR_ok h1 h2, by simp [rowC, numR], by simp [numR]⟩
 rcases h with rfl | rfl | rfl <;> exact hf _ (by omega) (by omega)
theorem Told.below {w w' : World} {B : Nat} {A : Option Addr} {n c : Nat} {rs : List RowM} (h : Told w B A n c rs) (hb : Below w.heap.size w w') : Told w' B A n c rs := h.keeps (Keeps.of_below hb)
theorem Told.rows {w : World} {B : Nat} {A : Option Addr} {n c : Nat} {rs : List RowM} (h : Told w B A n c rs) : rs.length = n ∧ ∃ hs, Rd w A hs ∧ Rows w hs rs := by
 obtain ⟨h1, hs, h2⟩ := h
 exact ⟨h1, hs, h2 w (Keeps.refl _ _ _)⟩
theorem three {w : World} {a b c : Nat} {x y z : RowM} (ha : Blk w a 38 (rcells x)) (hb : Blk w b 38 (rcells y)) (hc : Blk w c 38 (rcells z)) (h1 : ∀ r ∈ [x, y, z], r.length = 1 ∧ ∀ v ∈ r, v.ok) : LitRows w [.slice (some ⟨a, 0, none⟩) 1 1, .slice (some ⟨b, 0, none⟩) 1 1, .slice (some ⟨c, 0, none⟩) 1 1] [x, y, z] := by
 have hx := h1 x (by simp)
 have hy := h1 y (by simp)
 have hz := h1 z (by simp)
 have hm : 1 ≤ maxLen := by unfold maxLen; decide
 refine ⟨rfl, fun i r hi => ?_⟩
 match i, hi with
 | 0, hi => injection hi with hi; subst hi; exact ⟨a, by rw [hx.1]; rfl, ha, by rw [hx.1]; exact hm, hx.2⟩
 | 1, hi => injection hi with hi; subst hi; exact ⟨b, by rw [hy.1]; rfl, hb, by rw [hy.1]; exact hm, hy.2⟩
 | 2, hi => injection hi with hi; subst hi; exact ⟨c, by rw [hz.1]; rfl, hc, by rw [hz.1]; exact hm, hz.2⟩
 | i + 3, hi => simp at hi
theorem exN_ok : ∀ r ∈ exN, r.length = 1 ∧ ∀ v ∈ r, v.ok := fun r hr => by
 have h : r = numR 3 ∨ r = numR 1 ∨ r = numR 2 := by simpa [exN] using hr
 rcases h with rfl | rfl | rfl <;> exact ⟨rfl, numR_ok (by omega) (by omega)⟩
theorem exS_ok : ∀ r ∈ exS, r.length = 1 ∧ ∀ v ∈ r, v.ok := fun r hr => by
 have h : r = numR 1 ∨ r = numR 2 ∨ r = numR 3 := by simpa [exS] using hr
 rcases h with rfl | rfl | rfl <;> exact ⟨rfl, numR_ok (by omega) (by omega)⟩
set_option maxHeartbeats 16000000 in
set_option maxRecDepth 100000 in
theorem shown18 (w : World) : Calls Tryz.prog 9 #[] w fun e w' => e = .returned (.bool true) ∧ Below w.heap.size w w' := by
 go_enter Tryz.func9, Tryz.ntmps9
 go_wp2_with fail
 refine (new_yes 9 w (by omega)).mono ?_
 rintro e w1 ⟨bs, rfl, hs1, hb1⟩
 have Hs1 := Lib.hid hs1
 have Hb1 := Lib.hid hb1
 clear hs1 hb1
 go_wp2_with fail
 refine (pnew_any 32 w1 (by omega)).mono ?_
 rintro e w2 ⟨bp, rfl, hp2, hbp, hb2⟩
 have Hs2 := Lib.hid (Hs1.out.below hb2)
 have Hb2 := Lib.hid (Hb1.out.trans (hb2.mono Hb1.out.size))
 have Hp2 := Lib.hid hp2
 have hz1 := Hb1.out.size
 clear Hs1 Hb1 hb2 hp2
 go_wp2_with fail
 refine (pnew_any 15 w2 (by omega)).mono ?_
 rintro e w3 ⟨bq, rfl, hq3, hbq, hb3⟩
 have Hs3 := Lib.hid (Hs2.out.below hb3)
 have Hp3 := Lib.hid (Hp2.out.below hb3)
 have Hb3 := Lib.hid (Hb2.out.trans (hb3.mono Hb2.out.size))
 have Hq3 := Lib.hid hq3
 have hbpl := Hp2.out.lt
 have hz2 := Hb2.out.size
 clear Hs2 Hb2 Hp2 hb3 hq3
 go_wp2_with fail
 refine (num_any 3 w3).mono ?_
 rintro e w4 ⟨rfl, ha, hb4, hz4⟩
 have Ha4 := Lib.hid ha
 have Hb4 := Lib.hid hb4
 clear ha hb4
 go_wp2_with fail
 refine (num_any 1 w4).mono ?_
 rintro e w5 ⟨rfl, hb, hb5, hz5⟩
 have Ha5 := Lib.hid (Ha4.out.below hb5)
 have Hc5 := Lib.hid hb
 have Hb5 := Lib.hid (Hb4.out.trans (hb5.mono Hb4.out.size))
 clear Ha4 hb hb5 Hb4
 go_wp2_with fail
 refine (num_any 2 w5).mono ?_
 rintro e w6 ⟨rfl, hc, hb6, hz6⟩
 have Ha6 := Lib.hid (Ha5.out.below hb6)
 have Hc6 := Lib.hid (Hc5.out.below hb6)
 have Hd6 := Lib.hid hc
 have Hb6 := Lib.hid (Hb5.out.trans (hb6.mono Hb5.out.size))
 clear Ha5 Hc5 hc hb6 Hb5
 have hsz3 : bp < w3.heap.size ∧ bq < w3.heap.size := ⟨Nat.lt_of_lt_of_le hbpl (by have := Hb3.out.size; have := Hq3.out.lt; have := hbq; omega), Hq3.out.lt⟩
 have hne : bp ≠ bq := by omega
 have Hs6 := Lib.hid (Hs3.out.below (Hb6.out))
 have Hp6 := Lib.hid (Hp3.out.below (Hb6.out))
 have Hq6 := Lib.hid (Hq3.out.below (Hb6.out))
 have Hbw6 := Lib.hid (Hb3.out.trans (Hb6.out.mono Hb3.out.size))
 have hx45 : w3.heap.size ≠ w4.heap.size ∧ w4.heap.size ≠ w5.heap.size := by omega
 clear Hs3 Hp3 Hq3 Hb3 Hb6
 go_wp2_with fail
 have hbR : Below w6.heap.size w6 (w6.alloc (.cells #[.slice (some ⟨w3.heap.size, 0, none⟩) 1 1, .slice (some ⟨w4.heap.size, 0, none⟩) 1 1, .slice (some ⟨w5.heap.size, 0, none⟩) 1 1] 23)) := (Below.refl _ _).alloc (Nat.le_refl _) _
 have hgR : Blk (w6.alloc (.cells #[.slice (some ⟨w3.heap.size, 0, none⟩) 1 1, .slice (some ⟨w4.heap.size, 0, none⟩) 1 1, .slice (some ⟨w5.heap.size, 0, none⟩) 1 1] 23)) w6.heap.size 23 [.slice (some ⟨w3.heap.size, 0, none⟩) 1 1, .slice (some ⟨w4.heap.size, 0, none⟩) 1 1, .slice (some ⟨w5.heap.size, 0, none⟩) 1 1] := Blk.new w6 _ _
 have hLR := (three Ha6.out Hc6.out Hd6.out exN_ok).below hbR
 have HsR := Lib.hid (Hs6.out.below hbR)
 have HpR := Lib.hid (Hp6.out.below hbR)
 have HqR := Lib.hid (Hq6.out.below hbR)
 have HbR := Lib.hid (Hbw6.out.trans (hbR.mono Hbw6.out.size))
 have hlR : w6.heap.size < (w6.alloc (.cells #[.slice (some ⟨w3.heap.size, 0, none⟩) 1 1, .slice (some ⟨w4.heap.size, 0, none⟩) 1 1, .slice (some ⟨w5.heap.size, 0, none⟩) 1 1] 23)).heap.size := by simp
 have hzR : (w6.alloc (.cells #[.slice (some ⟨w3.heap.size, 0, none⟩) 1 1, .slice (some ⟨w4.heap.size, 0, none⟩) 1 1, .slice (some ⟨w5.heap.size, 0, none⟩) 1 1] 23)).heap.size = w6.heap.size + 1 := by simp
 have HLR := Lib.hid hLR
 have HgR := Lib.hid hgR
 clear hbR hgR hLR Ha6 Hc6 Hd6 Hs6 Hp6 Hq6 Hbw6
 generalize w6.alloc (.cells #[.slice (some ⟨w3.heap.size, 0, none⟩) 1 1, .slice (some ⟨w4.heap.size, 0, none⟩) 1 1, .slice (some ⟨w5.heap.size, 0, none⟩) 1 1] 23) = wR at *
 have hbK : Below wR.heap.size wR (wR.alloc (.cells #[.int .i64 0, .bool false] 40)) := (Below.refl _ _).alloc (Nat.le_refl _) _
 have hgK : Blk (wR.alloc (.cells #[.int .i64 0, .bool false] 40)) wR.heap.size 40 (kyc exK) := Blk.new wR _ _
 have hpK := HpR.out.below hbK
 have hqK := HqR.out.below hbK
 have hLK := HLR.out.below hbK
 have hGK := HgR.out.below hbK
 have hneK : wR.heap.size ≠ bp := by have := HpR.out.lt; omega
 have hsrt := sort_s (wR.alloc (.cells #[.int .i64 0, .bool false] 40)) w.heap.size bs bp (some ⟨wR.heap.size, 0, none⟩) 1 1 32 32 (some ⟨w6.heap.size, 0, none⟩) 3 3 _ exN exK [] (List.replicate 9 none) 32 2 16 (by have := HbR.out.size; have := hbK.size; omega) (by omega) (HsR.out.below hbK) hpK (Pg.Has.none_ 9) (hLK.came hGK hpK (by omega)) rfl (by omega) (KeyIn.blk hgK hneK) rfl (by omega) (by omega) (by omega) (by omega) (by omega) (by omega) (by omega) exN_fine (by rw [exN_bytes]; omega)
 rw [hzR] at hsrt
 have Hsrt := Lib.hid hsrt
 have hmk : Keeps (74 :: StT) w.heap.size (wR.alloc (.cells #[.int .i64 0, .bool false] 40)) (wR.alloc (.cells #[.int .i64 0, .bool false] 40)) := Keeps.refl _ _ _
 have HbK := Lib.hid (HbR.out.trans (hbK.mono HbR.out.size))
 have HpK := Lib.hid hpK
 have HqK := Lib.hid hqK
 have HLK := Lib.hid hLK
 have HGK := Lib.hid hGK
 clear hbK hgK hpK hqK hLK hGK hsrt hmk HsR HpR HqR HLR HgR HbR
 refine Hsrt.out.mono ?_
 rintro e w7 ⟨hend, least', hle', hdo⟩
 have hcase : ∃ A c, e = .returned (.tuple #[.slice A 3 c, .int .i64 0]) ∧ Told w7 w.heap.size A 3 c exS := by
  rcases hend with ⟨A, c, h1, h2, _⟩ | ⟨_, h1, _⟩ | ⟨_, h1, _⟩
  ·rw [exN_sort] at h2
   exact ⟨A, c, h1, h2⟩
  ·omega
  ·rw [exN_bytes] at h1
   simp [exN] at h1
 obtain ⟨A, c, rfl, hT⟩ := hcase
 have hk7 := hdo.fr.purse HpK.out (by omega)
 obtain ⟨s7, hs7, hN7, _, hl7⟩ := hdo.st
 have hq7 : Pu w7 bq 15 15 15 := HqK.out.turned hdo.fr (by have := HqK.out.lt; omega)
 have hb7 : Below w.heap.size w w7 := HbK.out.trans ((hdo.fr.below (fun k hk => by rcases hk with hk | hk; (· omega); (· have := HbK.out.size; omega)) HbK.out.size (Nat.le_refl _)))
 have HT7 := Lib.hid hT
 have HL7 := Lib.hid (HLK.out.keeps (by decide) hk7)
 have HG7 := Lib.hid (HGK.out.keeps (by decide) hk7)
 have Hs7 := Lib.hid hs7
 have HN7 := Lib.hid hN7
 have Hq7 := Lib.hid hq7
 have Hb7 := Lib.hid hb7
 have Hl7 := Lib.hid hl7
 clear hend hdo hT hk7 hs7 hN7 hq7 hb7 hl7 Hsrt HbK HpK HqK HLK HGK
 go_wp2_with fail
 have hbK : Below w7.heap.size w7 (w7.alloc (.cells #[.int .i64 0, .bool false] 40)) := (Below.refl _ _).alloc (Nat.le_refl _) _
 have hgK : Blk (w7.alloc (.cells #[.int .i64 0, .bool false] 40)) w7.heap.size 40 (kyc exK) := Blk.new w7 _ _
 have hqK := Hq7.out.below hbK
 have hLK := HL7.out.below hbK
 have hGK := HG7.out.below hbK
 have hneK : w7.heap.size ≠ bq := by have := Hq7.out.lt; omega
 have hBq : w.heap.size ≤ bq := by omega
 have hsrt := sort_s (w7.alloc (.cells #[.int .i64 0, .bool false] 40)) w.heap.size bs bq (some ⟨w7.heap.size, 0, none⟩) 1 1 15 15 (some ⟨w6.heap.size, 0, none⟩) 3 3 _ exN exK [] s7 15 2 16 (by have := Hb7.out.size; have := hbK.size; omega) hBq (Hs7.out.below hbK) hqK HN7.out (hLK.came hGK hqK hBq) rfl (by omega) (KeyIn.blk hgK hneK) rfl (by omega) (by omega) (by omega) (by omega) (by omega) (by omega) (by omega) exN_fine (by rw [exN_bytes]; omega)
 have Hsrt := Lib.hid hsrt
 have HbK := Lib.hid (Hb7.out.trans (hbK.mono Hb7.out.size))
 have HqK := Lib.hid hqK
 have HLK := Lib.hid hLK
 have HGK := Lib.hid hGK
 have HTK := Lib.hid (HT7.out.below hbK)
 clear hbK hgK hqK hLK hGK hsrt Hs7 HN7 HT7 HL7 HG7 Hq7 Hb7
 refine Hsrt.out.mono ?_
 rintro e w8 ⟨hend, least2, hle2, hdo⟩
 have hcase : e = .returned (.tuple #[.slice none 0 0, .int .i64 5]) := by
  rcases hend with ⟨A, c, _, _, k, h1⟩ | ⟨h1, _⟩ | ⟨_, h1, _⟩
  ·rw [exN_none] at h1; cases h1
  ·exact h1
  ·rw [exN_bytes, Hl7.out] at h1
   simp [exN] at h1
 obtain rfl := hcase
 have hk8 := hdo.fr.purse HqK.out hBq
 have hb8 : Below w.heap.size w w8 := HbK.out.trans ((hdo.fr.below (fun k hk => by rcases hk with hk | hk; (· omega); (· have := HbK.out.size; omega)) HbK.out.size (Nat.le_refl _)))
 have HT8 := Lib.hid (HTK.out.keeps (hk8.types (T' := DropT) (by unfold DropT; simp)))
 have HL8 := Lib.hid (HLK.out.keeps (by decide) hk8)
 have HG8 := Lib.hid (HGK.out.keeps (by decide) hk8)
 have Hb8 := Lib.hid hb8
 clear hend hdo hk8 hb8 Hsrt HbK HqK HLK HGK HTK Hl7
 have hrun := truns_any exN _ 3 3 (some ⟨w6.heap.size, 0, none⟩) 32 w8 rfl (Rd.of_blk HG8.out) HL8.out.rows (by omega) (by omega) (fun r hr => ⟨by have := (exN_fine r hr).le; omega, (exN_fine r hr).len⟩)
 rw [(runsK_some exN_runs).1, (runsK_some exN_runs).2] at hrun
 have Hrun := Lib.hid hrun
 clear hrun HL8 HG8
 go_wp2_with fail
 refine Hrun.out.mono ?_
 rintro e w9 ⟨rfl, hb9⟩
 have Hb9 := Lib.hid (Hb8.out.trans (hb9.mono Hb8.out.size))
 have HT9 := Lib.hid (HT8.out.below hb9)
 clear hb9 Hrun HT8 Hb8
 go_wp2_with fail
 refine (num_any 1 w9).mono ?_
 rintro e v4 ⟨rfl, ha, hb4, hy4⟩
 have Ha4 := Lib.hid ha
 have Hv4 := Lib.hid (Hb9.out.trans (hb4.mono Hb9.out.size))
 have HT4 := Lib.hid (HT9.out.below hb4)
 clear ha hb4 HT9 Hb9
 go_wp2_with fail
 refine (num_any 2 v4).mono ?_
 rintro e v5 ⟨rfl, hb, hb5, hy5⟩
 have Ha5 := Lib.hid (Ha4.out.below hb5)
 have Hc5 := Lib.hid hb
 have Hv5 := Lib.hid (Hv4.out.trans (hb5.mono Hv4.out.size))
 have HT5 := Lib.hid (HT4.out.below hb5)
 clear Ha4 hb hb5 Hv4 HT4
 go_wp2_with fail
 refine (num_any 3 v5).mono ?_
 rintro e v6 ⟨rfl, hc, hb6, hy6⟩
 have Ha6 := Lib.hid (Ha5.out.below hb6)
 have Hc6 := Lib.hid (Hc5.out.below hb6)
 have Hd6 := Lib.hid hc
 have Hv6 := Lib.hid (Hv5.out.trans (hb6.mono Hv5.out.size))
 have HT6 := Lib.hid (HT5.out.below hb6)
 clear Ha5 Hc5 hc hb6 Hv5 HT5
 go_wp2_with fail
 have hbR : Below v6.heap.size v6 (v6.alloc (.cells #[.slice (some ⟨w9.heap.size, 0, none⟩) 1 1, .slice (some ⟨v4.heap.size, 0, none⟩) 1 1, .slice (some ⟨v5.heap.size, 0, none⟩) 1 1] 23)) := (Below.refl _ _).alloc (Nat.le_refl _) _
 have hgR := Rd.of_blk (Blk.new v6 23 #[.slice (some ⟨w9.heap.size, 0, none⟩) 1 1, .slice (some ⟨v4.heap.size, 0, none⟩) 1 1, .slice (some ⟨v5.heap.size, 0, none⟩) 1 1])
 have hLR := (three Ha6.out Hc6.out Hd6.out exS_ok).below hbR
 obtain ⟨hTl, hhs, hT1, hT2⟩ := (HT6.out.below hbR).rows
 have hb1 : ∀ r ∈ exS, r.length ≤ 140737488355328 := fun r hr => by have := (exS_ok r hr).1; omega
 have hsame := samerows_any exS exS hhs _ 3 3 A (some ⟨v6.heap.size, 0, none⟩) c 3 _ hTl rfl hT1 hgR hT2 hLR.rows (by omega) (by omega) hb1 hb1
 rw [decide_eq_true (rfl : exS = exS)] at hsame
 have Hsame := Lib.hid hsame
 have Hfin := Lib.hid (Hv6.out.trans (hbR.mono Hv6.out.size))
 clear hbR hgR hLR hT1 hT2 hsame hb1
 refine Hsame.out.mono ?_
 rintro e v7 ⟨rfl, q, rfl⟩
 have Hfin2 := Lib.hid (below_drewN' Hfin.out q)
 clear Hsame
 go_wp2_with fail
 go_ret
 exact ⟨rfl, Hfin2.out⟩
end Go.Proofs.YtcadjekcdokkjaaGreat
