/- The walk of ColumnWords. (Printed by gen_tlh.py.) -/
import Derived.Test.YtojppmnmhdgnnaaMTlG
namespace Go.Proofs.Ytojppmnmhdgnnaa
open Go.RowKit

attribute [local go_sem ↓] Go.wp_at_zero Go.wp_at_succ

theorem howB_nil : howB [] = 0 := rfl
theorem nodup_snoc {U : List (List UInt8)} {x : List UInt8} (h : U.Nodup) (hx : x ∉ U) : (U ++ [x]).Nodup := by
  rw [List.nodup_append]
  exact ⟨h, by simp, fun a ha b hb e => by
    rw [List.mem_singleton] at hb
    rw [e, hb] at ha
    exact hx ha⟩

set_option maxHeartbeats 16000000 in
set_option maxRecDepth 100000 in
theorem columnwords_walk (kind how : Int) (l : RowM) (n c : Nat) (A : Option Addr) (w : World) (hl : l.length = n) (hr : Rd w A (rcells l)) (hok : ∀ v ∈ l, v.ok) (hnc : n ≤ c) (hc : c ≤ 9223372036854775807) (hkb : 0 ≤ kind ∧ kind ≤ 255) (hhb : 0 ≤ how ∧ how ≤ 255) :
    Calls Try.prog 8 #[.int .u8 kind, .slice A n c, .int .u8 how] w fun e w' => e = .returned (.bool true) ∧ Below w.heap.size w w' := by
  have hfw := Lib.hid (fun w' (hb : Below w.heap.size w w') => few_any l n c A w' hl (hr.below hb) hok hnc hc)
  have Hl := Lib.hid hl
  have Hr := Lib.hid hr
  have Hok := Lib.hid hok
  clear hl hr hok hnc hc
  go_enter Try.func8, Try.ntmps8
  go_wp2_with fail
  refine (shown_any w).mono ?_
  rintro e w0 ⟨rfl, hb0⟩
  have Hb := Lib.hid hb0
  clear hb0
  go_wp2_with fail
  refine (hfw.out w0 Hb.out).mono ?_
  rintro e u1 ⟨⟨K, rfl, hKn, hK3⟩, rfl⟩
  have HX0 := Lib.hid (rd_take Hr.out K)
  have HXok : Hid (∀ v ∈ l.take K, v.ok) := fun v hv => Hok.out v (List.mem_of_mem_take hv)
  have HK : Hid ((l.take K).length = K) := by show _ = _; rw [List.length_take, Hl.out]; omega
  generalize l.take K = X at *
  clear hfw
  have hpu := Lib.hid (cputc_any kind how X K c A w0 HK.out (HX0.out.below Hb.out) (by omega) HXok.out hkb hhb)
  rcases cput_two kind how X with ⟨E, hE, hput⟩ | ⟨hk1, hh1, hall, hput⟩
  · have hpu2 := Lib.hid (hpu.out.mono fun _ _ h => CPutOK.uniB h hput rfl)
    have qE : (E != 0) = true := by rw [bne_iff_ne]; exact hE
    clear hpu hE hput
    dsimp only [List.length_nil] at hpu2
    go_wp2_with fail
    refine hpu2.out.mono ?_
    rintro e w2 ⟨⟨A2, c2, rfl, ho2⟩, hb2⟩
    have Hb2 := Lib.hid (Hb.out.trans (hb2.mono Hb.out.size))
    have hcap := ho2.cap
    unfold maxLen at hcap
    have hcw := Lib.hid (cwords_any [] 0 c2 A2 w2 rfl ho2.rd (by omega) hcap.1 (by omega))
    clear hb2 hpu2 ho2 hcap
    go_wp2_with fail
    refine hcw.out.mono ?_
    rintro e w3 ⟨⟨-, rfl⟩ | ⟨_, _, _, _, _, _, hs, _⟩, hb3⟩
    · have Hb3 := Lib.hid (Hb2.out.trans (hb3.mono Hb2.out.size))
      clear hb3 hcw
      go_wp2_with fail
      go_ret
      exact ⟨rfl, Hb3.out⟩
    · cases hs
  · obtain ⟨L, hL⟩ : ∃ L, (colB kind how X).1.length = L := ⟨_, rfl⟩
    have hL5 := colB_le (how := how) hall HXok.out (by rw [HK.out]; exact hK3)
    rw [hL] at hL5
    have hpu2 := Lib.hid (hpu.out.mono fun _ _ h => CPutOK.uniB h hput hL)
    have hrd := col_round hk1 hh1 hall (nums_ok HXok.out) (by rw [HK.out]; omega)
    have HL := Lib.hid hL
    clear hpu hput hL
    by_cases hu : (colB kind how X).2 = 3
    · obtain ⟨hk3, th, rest, W, r, hs, hW, hWs, hW2, hWm⟩ := col_words hall (by rw [HK.out]; omega) hu
      subst hk3
      have hctk : Hid ((∃ l, ctakeM 3 (colB 3 how X).1 = some l) ∧ howB (colB 3 how X).1 = 3) := ⟨⟨X, hrd.1⟩, hrd.2.trans hu⟩
      have Hlen : Hid (∀ v ∈ X, v.k = 3 → v.s.length ≤ 1024) := Lib.hid fun v hv h3 => textsM_in rfl hall _ (by
        rw [keysT_all hall]
        exact List.mem_map.2 ⟨v, List.mem_filter.2 ⟨hv, by simp [h3]⟩, rfl⟩)
      rw [hu] at hpu2
      have Hs := Lib.hid hs
      have HW := Lib.hid hW
      have HWs := Lib.hid hWs
      have HWm := Lib.hid hWm
      clear hrd hk1 hh1 hall hs hW hWs hWm hu
      generalize (colB 3 how X).1 = BB at *
      go_wp2_with fail
      refine hpu2.out.mono ?_
      rintro e w2 ⟨⟨A2, c2, rfl, ho2⟩, hb2⟩
      have Hb2 := Lib.hid (Hb.out.trans (hb2.mono Hb.out.size))
      have hcap := ho2.cap
      unfold maxLen at hcap
      have hcw := Lib.hid (cwords_any BB L c2 A2 w2 HL.out ho2.rd hL5 hcap.1 (by omega))
      clear hb2 hpu2 ho2 hcap
      go_wp2_with fail
      refine hcw.out.mono ?_
      rintro e w3 ⟨⟨hno, _⟩ | ⟨th2, rest2, W2, r2, WA, wd, hs2, hWx, -, rfl, hrW⟩, hb3⟩
      · exact absurd hctk.out hno
      · rw [Hs.out] at hs2
        injection hs2 with hs2
        injection hs2 with e1 e2
        subst e1
        subst e2
        rw [HW.out] at hWx
        injection hWx with hWx
        injection hWx with e1 e2
        subst e1
        subst e2
        have Hb3 := Lib.hid (Hb2.out.trans (hb3.mono Hb2.out.size))
        have HrW := Lib.hid hrW
        obtain ⟨M, hM⟩ : ∃ M, W.length = M := ⟨_, rfl⟩
        rw [hM] at hW2 ⊢
        have HM := Lib.hid hM
        clear hb3 hcw hrW hM
        have him := Lib.hid (SMap.made w3)
        have hbm : Hid (Below w3.heap.size w3 (w3.alloc (.map #[] 0))) := (Below.refl _ _).alloc (Nat.le_refl _) _
        have hmm := @run_makeMap Try.prog
        go_wp2_with fail
        go_loopw [54] (fun v54 wr => ∃ i q z : Nat, v54 = .int .i64 (i : Int) ∧ i ≤ K ∧ q ≤ i ∧ Hid (SMap wr w3.heap.size q (keysT (X.take i)) z) ∧ Hid (∃ U : List (List UInt8), U.Nodup ∧ (∀ y, y ∈ U ↔ y ∈ keysT (X.take i)) ∧ U.length = z) ∧ Hid (Below w3.heap.size w3 wr)) (fun v54 _ => K - (intOf v54).toNat)
        case atStart => exact ⟨0, 0, 0, rfl, by omega, by omega, him, ⟨[], List.nodup_nil, fun y => Iff.rfl, rfl⟩, hbm⟩
        case round =>
          obtain ⟨i, q, z, rfl, hi, hq, Hm, HU, Hbr⟩ := hrel
          have Hbw := Lib.hid (Hb3.out.trans (Hbr.out.mono Hb3.out.size))
          by_cases hiK : i < K
          · have hil : i < X.length := by rw [HK.out]; exact hiK
            have hiI : (i : Int) < (K : Int) := by omega
            have hi0 : (0 : Int) ≤ (i : Int) := by omega
            obtain ⟨b, o, rfl, c0, c1, c2'⟩ := row_cells (HX0.out.below Hbw.out) hil
            have Htk : Hid (keysT (X.take (i + 1)) = if (X[i]).k = 3 then keysT (X.take i) ++ [(X[i]).s] else keysT (X.take i)) := by
              show _ = _
              rw [List.take_succ_eq_append_getElem hil, keysT_snoc]
            have Hvl : Hid ((X[i]).k = 3 → (X[i]).s.length ≤ 1024) := Hlen.out _ (List.getElem_mem hil)
            generalize X[i] = v at *
            clear hil
            have hbx := Blk.new wr 30 #[.int .u8 v.k, .int .i64 v.n, .string (St8 v.s)]
            have hbA : Below wr.heap.size wr (wr.alloc (.cells #[.int .u8 v.k, .int .i64 v.n, .string (St8 v.s)] 30)) := (Below.refl _ _).alloc (Nat.le_refl _) _
            have Hbr1 := Lib.hid (Hbr.out.trans (hbA.mono Hbr.out.size))
            have Hm1 := Lib.hid (Hm.out.below hbA)
            have k0 := hbx.cell 0
            have kk2 := hbx.cell 2
            simp only [List.getElem?_cons_zero, List.getElem?_cons_succ] at k0 kk2
            obtain ⟨vk, vn, vs⟩ := v
            dsimp only at c0 c1 c2' k0 kk2 Htk Hvl Hbr1 Hm1
            clear hbx hbA Hm Hbw Hbr
            by_cases h3 : vk = 3
            · subst h3
              have hvl := Hvl.out rfl
              have hmax : vs.length ≤ maxLen := by unfold maxLen; omega
              have Htk2 : Hid (keysT (X.take (i + 1)) = keysT (X.take i) ++ [vs]) := Htk.out.trans (if_pos rfl)
              obtain ⟨w5, hpt, hm5, hg5⟩ := Hm1.out.put (by unfold maxLen; omega) hmax (keysT (X.take (i + 1))) (fun y => by
                rw [Htk2.out, List.mem_append, List.mem_singleton]
                exact Or.comm)
              have Hm5 := Lib.hid hm5
              have Hb5 := Lib.hid (Hbr1.out.grown hg5 Hbr1.out.size (fun k hk => by cases hk; exact Nat.le_refl _))
              have HU5 : Hid (∃ U : List (List UInt8), U.Nodup ∧ (∀ y, y ∈ U ↔ y ∈ keysT (X.take (i + 1))) ∧ U.length = if vs ∈ keysT (X.take i) then z else z + 1) := by
                obtain ⟨U, u1, u2, u3⟩ := HU.out
                by_cases hin : vs ∈ keysT (X.take i)
                · refine ⟨U, u1, fun y => ?_, by rw [if_pos hin]; exact u3⟩
                  rw [u2, Htk2.out, List.mem_append, List.mem_singleton]
                  exact ⟨.inl, fun h => h.elim id (fun e => by rw [e]; exact hin)⟩
                · refine ⟨U ++ [vs], nodup_snoc u1 (fun h => hin ((u2 vs).1 h)), fun y => ?_, by rw [if_neg hin, List.length_append, u3]; rfl⟩
                  rw [Htk2.out, List.mem_append, List.mem_append, u2]
              clear hm5 hg5 Htk Htk2 HU Hm1 Hvl hvl hmax
              go_wp2_with fail
              go_roundw
              case rel => exact ⟨i + 1, q + 1, _, by go_num, by omega, by omega, Hm5, HU5, Hb5⟩
              case measure => simp only [intOf, Int.toNat_natCast]; omega
            · have q3 : (vk == 3) = false := by rw [beq_eq_false_iff_ne]; exact h3
              have Htk2 : Hid (keysT (X.take (i + 1)) = keysT (X.take i)) := Htk.out.trans (if_neg h3)
              clear Htk h3 Hvl
              go_wp2_with fail
              go_roundw
              case rel => exact ⟨i + 1, q, z, by go_num, by omega, by omega, (by show SMap _ _ _ _ _; rw [Htk2.out]; exact Hm1.out), (by show ∃ U, _; rw [Htk2.out]; exact HU.out), Hbr1⟩
              case measure => simp only [intOf, Int.toNat_natCast]; omega
          · obtain rfl : i = K := by omega
            have hta : X.take i = X := List.take_of_length_le (by rw [HK.out]; exact Nat.le_refl _)
            rw [hta] at Hm HU
            have hzM : M = z := by
              obtain ⟨U, u1, u2, u3⟩ := HU.out
              rw [← HM.out, ← u3]
              refine List.Perm.length_eq ((List.perm_ext_iff_of_nodup ?_ u1).2 fun y => ?_)
              · exact HWs.out.imp (fun {a b} (h : a < b) (e : a = b) => by subst e; exact wlt_irrefl a h)
              · rw [HWm.out, u2]
            subst hzM
            have Hlk : Hid (∀ x ∈ W, (Instr.lookup 55 (.map (some w3.heap.size)) (.string (St8 x)) false).run Try.prog wr = .ok (.bool true) wr) := Lib.hid fun x hx => by
              obtain ⟨v, hv, rfl⟩ := List.mem_map.1 ((HWm.out x).1 hx)
              rw [List.mem_filter] at hv
              have h1 := Hlen.out v hv.1 (of_decide_eq_true hv.2)
              rw [Hm.out.look (by unfold maxLen; omega), decide_eq_true (show v.s ∈ keysT X from List.mem_map.2 ⟨v, List.mem_filter.2 hv, rfl⟩)]
            have hln := fun ty => Hm.out.len ty
            have HrWr := Lib.hid (HrW.out.below Hbr.out)
            clear hta HU Hm HWm hiK hi hq
            generalize hwm : wr = wM at *
            clear hwm
            go_wp2_with fail
            go_loopw [67] (fun v67 wr => ∃ j : Nat, v67 = .int .i64 (j : Int) ∧ j ≤ M ∧ wr = wM) (fun v67 _ => M - (intOf v67).toNat)
            case atStart => exact ⟨0, rfl, by omega, rfl⟩
            case round =>
              obtain ⟨j, rfl, hj, rfl⟩ := hrel
              by_cases hjM : j < M
              · have hjI : (j : Int) < (M : Int) := by omega
                have hj0 : (0 : Int) ≤ (j : Int) := by omega
                have hjl : j < W.length := by rw [HM.out]; exact hjM
                obtain ⟨b, o, hWA, cj⟩ := HrWr.out.word hjl
                have hlk := Hlk.out _ (List.getElem_mem hjl)
                have HrW2 := Lib.hid HrWr.out
                subst hWA
                by_cases hj1 : j = 0
                · subst hj1
                  rw [Nat.add_zero] at cj
                  generalize W[0] = x at *
                  clear hjl
                  go_wp2_with fail
                  go_roundw
                  case rel => exact ⟨1, by go_num, by omega, (by first | rfl | trivial)⟩
                  case measure => simp only [intOf, Int.toNat_natCast]; omega
                · obtain ⟨k, hk⟩ : ∃ k, j = k + 1 := ⟨j - 1, by omega⟩
                  have hkl : k < W.length := by omega
                  obtain ⟨b2, o2, hWA2, ck⟩ := HrW2.out.word hkl
                  cases hWA2
                  have hlt : W[k] < W[j] := List.pairwise_iff_getElem.1 HWs.out k j hkl hjl (by omega)
                  have hls := less_St8 W[k] W[j]
                  rw [decide_eq_true hlt] at hls
                  have hpos : (0 : Int) < (j : Int) := by omega
                  have hsub : IntKind.i64.wrap ((j : Int) - 1) = (k : Int) := by rw [IntKind.wrap_i64]; omega
                  have hk0 : (0 : Int) ≤ (k : Int) := by omega
                  have hkM : (k : Int) < (M : Int) := by omega
                  have hkMN : k < M := by omega
                  have hjk : (j : Int) - 1 = (k : Int) := by omega
                  clear hlt hj1 hk
                  generalize W[k] = y at *
                  generalize W[j] = x at *
                  clear hkl hjl
                  go_wp2_with fail
                  go_roundw
                  case rel => exact ⟨j + 1, by go_num, by omega, (by first | rfl | trivial)⟩
                  case measure => simp only [intOf, Int.toNat_natCast]; omega
              · obtain rfl : j = M := by omega
                go_wp2_with fail
                go_ret
                exact ⟨rfl, Hb3.out.trans (Hbr.out.mono Hb3.out.size)⟩
    · have hno : Hid (¬ ((∃ l, ctakeM 3 (colB kind how X).1 = some l) ∧ howB (colB kind how X).1 = 3)) := by
        rintro ⟨-, h⟩
        exact hu (hrd.2.symm.trans h)
      have HhB : Hid (¬ howB (colB kind how X).1 = 3) := Lib.hid fun h => hu (hrd.2.symm.trans h)
      have q3 : ((colB kind how X).2 != 3) = true := by rw [bne_iff_ne]; exact hu
      clear hrd hk1 hh1 hall hu
      generalize (colB kind how X).2 = U at *
      generalize (colB kind how X).1 = BB at *
      go_wp2_with fail
      refine hpu2.out.mono ?_
      rintro e w2 ⟨⟨A2, c2, rfl, ho2⟩, hb2⟩
      have Hb2 := Lib.hid (Hb.out.trans (hb2.mono Hb.out.size))
      have hcap := ho2.cap
      unfold maxLen at hcap
      have hcw := Lib.hid (cwords_any BB L c2 A2 w2 HL.out ho2.rd hL5 hcap.1 (by omega))
      clear hb2 hpu2 ho2 hcap
      go_wp2_with fail
      refine hcw.out.mono ?_
      rintro e w3 ⟨⟨-, rfl⟩ | ⟨th, rest, W, r, WA, wd, hs, hW, hh3, _⟩, hb3⟩
      · have Hb3 := Lib.hid (Hb2.out.trans (hb3.mono Hb2.out.size))
        clear hb3 hcw
        go_wp2_with fail
        go_ret
        exact ⟨rfl, Hb3.out⟩
      · exact absurd hh3 HhB.out
end Go.Proofs.Ytojppmnmhdgnnaa
