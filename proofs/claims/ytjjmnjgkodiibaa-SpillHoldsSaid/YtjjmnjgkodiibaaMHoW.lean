/- The walk of SpillHolds. -/
import Derived.Test.YtjjmnjgkodiibaaMHoB
import Derived.Test.YtjjmnjgkodiibaaMSpLN
import Derived.StillTailTactics
import Derived.Deep.Cut
namespace Go.Proofs.Ytjjmnjgkodiibaa
open Go.RowKit

attribute [local go_sem ↓] Go.wp_at_zero Go.wp_at_succ

theorem Efil : ElemT Try.prog 31 39 1 8 (.pointer none) := ElemT.mk' (by kernel_rfl) (by kernel_rfl) rfl (by omega)
theorem HS.cell3 {w : World} {B bs : Nat} {on : Nat → Prop} {bw : Nat → Nat} {bf : List Nat} {F : List (List Nat)} {A : Option Addr} {nf c j : Nat} {E : List (Nat × TypeId × List Value)} {b6 : Nat} (h : HS w B bs on bw bf F A nf c j ((b6, 29, arr3 bw) :: E)) {k : Nat} (hk : k < 3) : w.cell? ⟨b6, k, none⟩ = some (.pointer (some ⟨bw k, 0, none⟩)) := by
  rw [(h.ext (b6, 29, arr3 bw) (by simp)).cell k]
  exact arr3_get bw hk

/-- The array, of which the first i writers are there. -/
def arrP (i : Nat) (bw : Nat → Nat) : List Value := [if 0 < i then .pointer (some ⟨bw 0, 0, none⟩) else .pointer none, if 1 < i then .pointer (some ⟨bw 1, 0, none⟩) else .pointer none, if 2 < i then .pointer (some ⟨bw 2, 0, none⟩) else .pointer none]
theorem arrP_set {i : Nat} (hi : i < 3) (bw : Nat → Nat) (nb : Nat) : (arrP i bw).set i (.pointer (some ⟨nb, 0, none⟩)) = arrP (i + 1) (Pg.upd bw i nb) := by
  match i, hi with
  | 0, _ => rfl
  | 1, _ => rfl
  | 2, _ => rfl
theorem arrP_get {i : Nat} (hi : i < 3) (bw : Nat → Nat) : (arrP i bw)[i]? = some (.pointer none) := by
  match i, hi with
  | 0, _ => rfl
  | 1, _ => rfl
  | 2, _ => rfl

set_option maxHeartbeats 16000000 in
set_option maxRecDepth 100000 in
theorem holds17_walk (ys : List ActH) (n c : Nat) (X : Option Addr) (w : World) (hn : ys.length = n) (hnc : n ≤ c) (hc : c ≤ 9223372036854775807) (hX : Rd w X (actsH ys)) (hok : ∀ a ∈ ys, a.ok w) :
    Calls Try.prog 3 #[.slice X n c] w fun e w' => e = .returned (.bool true) ∧ Below w.heap.size w w' := by
  have Hn := Lib.hid hn
  have HX := Lib.hid hX
  have Hok := Lib.hid hok
  have hmm := @run_makeMap Try.prog
  clear hn hX hok
  go_enter Try.func3, Try.ntmps3
  go_wp2_with fail
  refine (shown17 w).mono ?_
  rintro e w1 ⟨rfl, hb1⟩
  go_wp2_with fail
  refine (new_yes 40 w1 (by omega)).mono ?_
  rintro e w2 ⟨bs, rfl, hs2, hb2⟩
  have hz1 := hb1.size
  have hz2 := hb2.size
  have hb02 := hb1.trans (hb2.mono hb1.size)
  have hst := HS.start (fun _ => 0) hs2 hz2
  have hst3 := Lib.hid (hst.next (w' := w2.alloc (.cells #[.pointer none, .pointer none, .pointer none] 29)) ((Below.refl _ _).alloc (Nat.le_refl _) _) (E' := [(w2.heap.size, 29, [.pointer none, .pointer none, .pointer none])]) (by
    intro x hx
    rw [List.mem_singleton] at hx
    subst hx
    exact ⟨Nat.le_refl _, Blk.new w2 _ _, by show 29 ∉ _; decide⟩))
  have Hb03 := Lib.hid (hb02.alloc hb02.size (.cells #[.pointer none, .pointer none, .pointer none] 29))
  rw [List.append_nil] at hst3
  clear hb1 hb2 hs2 hb02 hst
  go_wp2_with fail

  go_loopw [35] (fun vi wr => ∃ (i : Nat) (bw : Nat → Nat), i ≤ 3 ∧ vi = .int .i64 i ∧ Hid (HS wr w1.heap.size bs (fun q => q < i) bw [] [] none 0 0 0 [(w2.heap.size, 29, arrP i bw)]) ∧ Hid (Below w.heap.size w wr)) (fun i _ => 3 - (intOf i).toNat)
  case atStart => exact ⟨0, fun _ => 0, by omega, rfl, hst3.out.out (k := 0) (by simp) (fun q => ⟨fun h => by omega, fun h => h.elim⟩), Hb03⟩
  case round =>
    obtain ⟨i, bw, hi, rfl, Hs, Hb⟩ := hrel
    have hzr := Hb.out.size
    by_cases hi3 : i < 3
    · go_wp2_with fail
      refine (new_c (some ⟨bs, 0, none⟩) wr).mono ?_
      rintro e w4 ⟨rfl, hnew, hb4, hlt4⟩
      have hz4 := hb4.size
      have hs4 := Hs.out.below hb4
      have hbl : Blk w4 w2.heap.size 29 (arrP i bw) := hs4.ext (w2.heap.size, 29, arrP i bw) (by simp)
      have kc := hbl.cell i
      have kf := hbl.frozen i
      rw [arrP_get hi3 bw] at kc
      have Hput := Lib.hid (put_h (on' := fun q => q < i + 1) Hs.out hi3 (by omega) (fun q => by omega) (by simp) hb4 (Nat.le_refl _) hnew)
      rw [arrP_set hi3] at Hput
      have Hb4 := Lib.hid (Hb.out.trans (hb4.mono hzr))
      have hB6 : w.heap.size ≤ w2.heap.size := by omega
      clear hs4 hbl hnew
      generalize wr.heap.size = nb at *
      go_wp2_with fail
      go_roundw
      case rel => exact ⟨i + 1, Pg.upd bw i nb, by omega, by go_num, Hput.out, Hb4.out.setCell hB6 _⟩
      case measure => simp [intOf]; omega
    · have Hs3 : Hid (HS wr w1.heap.size bs (fun q => q < 3) bw [] [] none 0 0 0 [(w2.heap.size, 29, arr3 bw)]) := by
        obtain rfl : i = 3 := by omega
        exact Hs.out
      clear Hs hst3
      go_wp2_with fail

      generalize w2.heap.size = b6 at *
      go_loopw [8, 45] (fun vf vi wr => ∃ (j nf cf : Nat) (A : Option Addr) (bw : Nat → Nat) (bf : List Nat) (F : List (List Nat)), j ≤ n ∧ j ≤ 60 ∧ nf ≤ j ∧ vi = .int .i64 j ∧ vf = .slice A nf cf ∧ Hid (HS wr w1.heap.size bs (fun q => q < 3) bw bf F A nf cf j [(b6, 29, arr3 bw)]) ∧ Hid (Below w.heap.size w wr)) (fun _ i _ => n - (intOf i).toNat)
      case atStart => exact ⟨0, 0, 0, none, bw, [], [], by omega, by omega, by omega, rfl, rfl, Hs3.out, Hb.out⟩
      case round =>
        clear Hs3 Hb
        obtain ⟨j, nf, cf, A, bw, bf, F, hj, hj60, hnf, rfl, rfl, Hs, Hb⟩ := hrel
        have hzr := Hb.out.size
        obtain ⟨wq, rfl⟩ : ∃ x : World, x = wr := ⟨_, rfl⟩
        by_cases hlt : j < n
        · have hjl : j < ys.length := by rw [Hn.out]; exact hlt
          obtain ⟨xb, xo, rfl, d0, d1, d2⟩ := acts_cells (HX.out.below Hb.out) hjl
          have ha := Hok.out _ (List.getElem_mem hjl)
          generalize ys[j] = a at *
          obtain ⟨kd, wh, r, RA, rl, rc⟩ := a
          obtain ⟨ha1, ha2, ha3, ha4, ha5, ha6, ha7⟩ := ha
          dsimp only at d0 d1 d2 ha1 ha2 ha3 ha4 ha5 ha6 ha7
          have Hs1 := Lib.hid (Hs.out.next (w' := wq.alloc (.cells #[.int .u8 (kd : Int), .int .u8 (wh : Int), .slice RA rl rc] 35)) ((Below.refl _ _).alloc (Nat.le_refl _) _) (E' := [(wq.heap.size, 35, [.int .u8 (kd : Int), .int .u8 (wh : Int), .slice RA rl rc])]) (by
            intro x hx
            rw [List.mem_singleton] at hx
            subst hx
            exact ⟨Nat.le_refl _, Blk.new wq _ _, by show 35 ∉ _; decide⟩))
          have Hb1 := Lib.hid (Hb.out.alloc hzr (.cells #[.int .u8 (kd : Int), .int .u8 (wh : Int), .slice RA rl rc] 35))
          have HR := Lib.hid ha4
          have Hl := Lib.hid ha3
          have Hv := Lib.hid ha5
          clear ha3 ha4 ha5
          by_cases h60 : 60 ≤ j
          · have HF := Lib.hid (Hs1.out.sub (E' := [(b6, 29, arr3 bw)]) (by simp))
            have HbF := Lib.hid Hb1.out
            clear Hs Hb Hs1 Hb1
            go_wp2_with fail
            go_loopw [187] (fun vi wr => ∃ i : Nat, i ≤ 3 ∧ vi = .int .i64 i ∧ Hid (HS wr w1.heap.size bs (fun q => q < 3 ∧ i ≤ q) bw bf F A nf cf j [(b6, 29, arr3 bw)]) ∧ Hid (Below w.heap.size w wr)) (fun i _ => 3 - (intOf i).toNat)
            case atStart => exact ⟨0, by omega, rfl, HF.out.out (k := 3) (by omega) (fun q => ⟨fun h => h.1, fun h => ⟨h, Nat.zero_le _⟩⟩), HbF.out⟩
            case round =>
              clear HF HbF
              obtain ⟨i, hi, rfl, Hs, Hb⟩ := hrel
              have hzr := Hb.out.size
              obtain ⟨wa, rfl⟩ : ∃ x : World, x = wr := ⟨_, rfl⟩
              by_cases hi3 : i < 3
              · have hcc := Hs.out.cell3 hi3
                have hi3' : (i : Int) < 3 := by omega
                have hca := Lib.hid (cancel_h Hs.out hi3 ⟨hi3, Nat.le_refl _⟩)
                go_wp2_with fail
                refine hca.out.mono ?_
                rintro e w5 ⟨rfl, hs5, _, hb5⟩
                have Hs5 := Lib.hid (hs5.out (on' := fun q => q < 3 ∧ i + 1 ≤ q) (k := 3) (fun h => by have := h.1.1; omega) (fun q => ⟨fun h => ⟨⟨h.1, by have := h.2; omega⟩, by have := h.2; omega⟩, fun h => ⟨h.1.1, by have := h.1.2; have := h.2; omega⟩⟩))
                have Hb5 := Lib.hid (Hb.out.trans (Below.mono hb5 hz1))
                clear hcc hca hs5 hb5 Hs Hb
                go_wp2_with fail
                go_roundw
                case rel => exact ⟨i + 1, by omega, by go_num, Hs5.out, Hb5.out⟩
                case measure => simp [intOf]; omega
              · have Hs3 : Hid (HS wa w1.heap.size bs (fun q => q < 3 ∧ 3 ≤ q) bw bf F A nf cf j [(b6, 29, arr3 bw)]) := by
                  obtain rfl : i = 3 := by omega
                  exact Hs.out
                have hlF := Hs3.out.lens
                clear Hs
                go_wp2_with fail
                go_loopw [25, 197] (fun vs vi wr => ∃ i : Nat, i ≤ nf ∧ vi = .int .i64 i ∧ vs = .int .i64 (cnt F i : Nat) ∧ Hid (Below wa.heap.size wa wr)) (fun _ i _ => nf - (intOf i).toNat)
                case atStart => exact ⟨0, by omega, rfl, rfl, Below.refl _ _⟩
                case round =>
                  obtain ⟨i, hi, rfl, rfl, Hq⟩ := hrel
                  obtain ⟨wb, rfl⟩ : ∃ x : World, x = wr := ⟨_, rfl⟩
                  have hzq := Hq.out.size
                  have Hsb := Lib.hid (Hs3.out.below Hq.out)
                  have Hbb := Lib.hid (Hb.out.trans (Hq.out.mono hzr))
                  obtain ⟨su, tu, hst, hu1, hu2, hu3, hu4, hu5, hu6⟩ := Hsb.out.used
                  clear hu2 hu3
                  have hu0 : tu = 0 := hu6 (fun k hk h => by have := h.2; omega)
                  clear hu6
                  by_cases hlt : i < nf
                  · obtain ⟨y, hy⟩ : ∃ y, F[i]? = some y := ⟨_, List.getElem?_eq_getElem (by omega)⟩
                    obtain ⟨xf, hx⟩ : ∃ xf, bf[i]? = some xf := ⟨_, List.getElem?_eq_getElem (by omega)⟩
                    obtain ⟨ga, oa, rfl, hca⟩ := ptrs_get Hsb.out.fil.rd (i := i) (by omega)
                    rw [(List.getElem?_eq_some_iff.1 hx).2] at hca
                    obtain ⟨S, k9, ic9, I9, many9, hfi⟩ := Hsb.out.file hx hy
                    have hk9 := hfi.klen
                    have hcl := cnt_le hy
                    have hcs := cnt_succ hy
                    rw [hk9] at hcl hcs
                    have hpg := Lib.hid (pages_c S bs xf y k9 ic9 I9 many9 wb hfi (by omega))
                    have Hcs := Lib.hid hcs
                    clear hfi hy hx hst hk9 hcs hu1 hu0
                    go_wp2_with fail
                    refine hpg.out.mono ?_
                    rintro e wp ⟨A7, c7, rfl, _, hb7⟩
                    have Hb8 := Lib.hid (Hq.out.trans (hb7.mono hzq))
                    clear hpg hb7 hca
                    go_wp2_with fail
                    go_roundw
                    case rel => exact ⟨i + 1, by omega, by go_num, by rw [Hcs.out]; go_num, Hb8.out⟩
                    case measure => simp [intOf]; omega
                  · have hU : Pg.used su = cnt F i := by
                      have := cnt_all (F := F) (i := i) (by omega)
                      omega
                    have hus := used_c _ bs su wb hst
                    rw [hU] at hus
                    have Hus := Lib.hid hus
                    have hcl2 : cnt F i ≤ 4096 := by omega
                    clear hus hu1 hu0 hst hU
                    generalize cnt F i = U at *
                    go_wp2_with fail
                    refine Hus.out.mono ?_
                    rintro e w' ⟨rfl, rfl⟩
                    go_wp2_with fail
                    go_loopw [213] (fun vi wr => ∃ (i : Nat) (F' : List (List Nat)), i ≤ nf ∧ vi = .int .i64 i ∧ Hid (HS wr w1.heap.size bs (fun q => q < 3 ∧ 3 ≤ q) bw bf F' A nf cf j [(b6, 29, arr3 bw)]) ∧ Hid (∀ (t : Nat) (y : List Nat), t < i → F'[t]? = some y → y = []) ∧ Hid (Below w.heap.size w wr)) (fun i _ => nf - (intOf i).toNat)
                    case atStart => exact ⟨0, F, by omega, rfl, Hsb.out, fun t y h => by omega, Hbb.out⟩
                    case round =>
                      obtain ⟨i, F', hi, rfl, Hsd, Hem, Hbd⟩ := hrel
                      obtain ⟨wd, rfl⟩ : ∃ x : World, x = wr := ⟨_, rfl⟩
                      have hlF' := Hsd.out.lens
                      by_cases hlt : i < nf
                      · obtain ⟨xf, hx⟩ : ∃ xf, bf[i]? = some xf := ⟨_, List.getElem?_eq_getElem (by omega)⟩
                        obtain ⟨ga, oa, rfl, hca⟩ := ptrs_get Hsd.out.fil.rd (i := i) (by omega)
                        rw [(List.getElem?_eq_some_iff.1 hx).2] at hca
                        have hfd := Lib.hid (fdrop_h Hsd.out hx)
                        have Hemn : Hid (∀ (t : Nat) (y : List Nat), t < i + 1 → (F'.set i [])[t]? = some y → y = []) := fun t y ht hy => by
                          by_cases e : t = i
                          · subst e
                            rw [List.getElem?_set_self (by omega)] at hy
                            injection hy with hy
                            exact hy.symm
                          · rw [List.getElem?_set_ne (fun e2 => e e2.symm)] at hy
                            exact Hem.out t y (by omega) hy
                        clear hx
                        go_wp2_with fail
                        refine hfd.out.mono ?_
                        rintro e w5 ⟨rfl, hs5, _, hb5⟩
                        have Hs5 := Lib.hid hs5
                        have Hb5 := Lib.hid (Hbd.out.trans (Below.mono hb5 hz1))
                        clear hfd hs5 hb5 hca
                        go_wp2_with fail
                        go_roundw
                        case rel => exact ⟨i + 1, _, by omega, by go_num, Hs5.out, Hemn.out, Hb5.out⟩
                        case measure => simp [intOf]; omega
                      · obtain ⟨sv, tv, hsv, hv1, _, _, _, _, hv6⟩ := Hsd.out.used
                        have hv0 : tv = 0 := hv6 (fun k hk h => by have := h.2; omega)
                        have hfl : F'.flatten = [] := flat_nil fun t y hy => Hem.out t y (by have := (List.getElem?_eq_some_iff.1 hy).1; omega) hy
                        have hU0 : Pg.used sv = 0 := by rw [hv1, hv0, hfl]; rfl
                        have hus := used_c _ bs sv wd hsv
                        rw [hU0] at hus
                        have Hus2 := Lib.hid hus
                        clear hus hU0 hfl hv0 hv6 hv1 hsv
                        go_wp2_with fail
                        refine Hus2.out.mono ?_
                        rintro e w' ⟨rfl, rfl⟩
                        go_wp2_with fail
                        go_ret
                        exact ⟨rfl, Hbd.out⟩
          · by_cases h40 : 40 < rl
            · have HF := Lib.hid (Hs1.out.sub (E' := [(b6, 29, arr3 bw)]) (by simp))
              have HbF := Lib.hid Hb1.out
              clear Hs Hb Hs1 Hb1
              go_wp2_with fail
              go_loopw [187] (fun vi wr => ∃ i : Nat, i ≤ 3 ∧ vi = .int .i64 i ∧ Hid (HS wr w1.heap.size bs (fun q => q < 3 ∧ i ≤ q) bw bf F A nf cf j [(b6, 29, arr3 bw)]) ∧ Hid (Below w.heap.size w wr)) (fun i _ => 3 - (intOf i).toNat)
              case atStart => exact ⟨0, by omega, rfl, HF.out.out (k := 3) (by omega) (fun q => ⟨fun h => h.1, fun h => ⟨h, Nat.zero_le _⟩⟩), HbF.out⟩
              case round =>
                clear HF HbF
                obtain ⟨i, hi, rfl, Hs, Hb⟩ := hrel
                have hzr := Hb.out.size
                obtain ⟨wa, rfl⟩ : ∃ x : World, x = wr := ⟨_, rfl⟩
                by_cases hi3 : i < 3
                · have hcc := Hs.out.cell3 hi3
                  have hi3' : (i : Int) < 3 := by omega
                  have hca := Lib.hid (cancel_h Hs.out hi3 ⟨hi3, Nat.le_refl _⟩)
                  go_wp2_with fail
                  refine hca.out.mono ?_
                  rintro e w5 ⟨rfl, hs5, _, hb5⟩
                  have Hs5 := Lib.hid (hs5.out (on' := fun q => q < 3 ∧ i + 1 ≤ q) (k := 3) (fun h => by have := h.1.1; omega) (fun q => ⟨fun h => ⟨⟨h.1, by have := h.2; omega⟩, by have := h.2; omega⟩, fun h => ⟨h.1.1, by have := h.1.2; have := h.2; omega⟩⟩))
                  have Hb5 := Lib.hid (Hb.out.trans (Below.mono hb5 hz1))
                  clear hcc hca hs5 hb5 Hs Hb
                  go_wp2_with fail
                  go_roundw
                  case rel => exact ⟨i + 1, by omega, by go_num, Hs5.out, Hb5.out⟩
                  case measure => simp [intOf]; omega
                · have Hs3 : Hid (HS wa w1.heap.size bs (fun q => q < 3 ∧ 3 ≤ q) bw bf F A nf cf j [(b6, 29, arr3 bw)]) := by
                    obtain rfl : i = 3 := by omega
                    exact Hs.out
                  have hlF := Hs3.out.lens
                  clear Hs
                  go_wp2_with fail
                  go_loopw [25, 197] (fun vs vi wr => ∃ i : Nat, i ≤ nf ∧ vi = .int .i64 i ∧ vs = .int .i64 (cnt F i : Nat) ∧ Hid (Below wa.heap.size wa wr)) (fun _ i _ => nf - (intOf i).toNat)
                  case atStart => exact ⟨0, by omega, rfl, rfl, Below.refl _ _⟩
                  case round =>
                    obtain ⟨i, hi, rfl, rfl, Hq⟩ := hrel
                    obtain ⟨wb, rfl⟩ : ∃ x : World, x = wr := ⟨_, rfl⟩
                    have hzq := Hq.out.size
                    have Hsb := Lib.hid (Hs3.out.below Hq.out)
                    have Hbb := Lib.hid (Hb.out.trans (Hq.out.mono hzr))
                    obtain ⟨su, tu, hst, hu1, hu2, hu3, hu4, hu5, hu6⟩ := Hsb.out.used
                    clear hu2 hu3
                    have hu0 : tu = 0 := hu6 (fun k hk h => by have := h.2; omega)
                    clear hu6
                    by_cases hlt : i < nf
                    · obtain ⟨y, hy⟩ : ∃ y, F[i]? = some y := ⟨_, List.getElem?_eq_getElem (by omega)⟩
                      obtain ⟨xf, hx⟩ : ∃ xf, bf[i]? = some xf := ⟨_, List.getElem?_eq_getElem (by omega)⟩
                      obtain ⟨ga, oa, rfl, hca⟩ := ptrs_get Hsb.out.fil.rd (i := i) (by omega)
                      rw [(List.getElem?_eq_some_iff.1 hx).2] at hca
                      obtain ⟨S, k9, ic9, I9, many9, hfi⟩ := Hsb.out.file hx hy
                      have hk9 := hfi.klen
                      have hcl := cnt_le hy
                      have hcs := cnt_succ hy
                      rw [hk9] at hcl hcs
                      have hpg := Lib.hid (pages_c S bs xf y k9 ic9 I9 many9 wb hfi (by omega))
                      have Hcs := Lib.hid hcs
                      clear hfi hy hx hst hk9 hcs hu1 hu0
                      go_wp2_with fail
                      refine hpg.out.mono ?_
                      rintro e wp ⟨A7, c7, rfl, _, hb7⟩
                      have Hb8 := Lib.hid (Hq.out.trans (hb7.mono hzq))
                      clear hpg hb7 hca
                      go_wp2_with fail
                      go_roundw
                      case rel => exact ⟨i + 1, by omega, by go_num, by rw [Hcs.out]; go_num, Hb8.out⟩
                      case measure => simp [intOf]; omega
                    · have hU : Pg.used su = cnt F i := by
                        have := cnt_all (F := F) (i := i) (by omega)
                        omega
                      have hus := used_c _ bs su wb hst
                      rw [hU] at hus
                      have Hus := Lib.hid hus
                      have hcl2 : cnt F i ≤ 4096 := by omega
                      clear hus hu1 hu0 hst hU
                      generalize cnt F i = U at *
                      go_wp2_with fail
                      refine Hus.out.mono ?_
                      rintro e w' ⟨rfl, rfl⟩
                      go_wp2_with fail
                      go_loopw [213] (fun vi wr => ∃ (i : Nat) (F' : List (List Nat)), i ≤ nf ∧ vi = .int .i64 i ∧ Hid (HS wr w1.heap.size bs (fun q => q < 3 ∧ 3 ≤ q) bw bf F' A nf cf j [(b6, 29, arr3 bw)]) ∧ Hid (∀ (t : Nat) (y : List Nat), t < i → F'[t]? = some y → y = []) ∧ Hid (Below w.heap.size w wr)) (fun i _ => nf - (intOf i).toNat)
                      case atStart => exact ⟨0, F, by omega, rfl, Hsb.out, fun t y h => by omega, Hbb.out⟩
                      case round =>
                        obtain ⟨i, F', hi, rfl, Hsd, Hem, Hbd⟩ := hrel
                        obtain ⟨wd, rfl⟩ : ∃ x : World, x = wr := ⟨_, rfl⟩
                        have hlF' := Hsd.out.lens
                        by_cases hlt : i < nf
                        · obtain ⟨xf, hx⟩ : ∃ xf, bf[i]? = some xf := ⟨_, List.getElem?_eq_getElem (by omega)⟩
                          obtain ⟨ga, oa, rfl, hca⟩ := ptrs_get Hsd.out.fil.rd (i := i) (by omega)
                          rw [(List.getElem?_eq_some_iff.1 hx).2] at hca
                          have hfd := Lib.hid (fdrop_h Hsd.out hx)
                          have Hemn : Hid (∀ (t : Nat) (y : List Nat), t < i + 1 → (F'.set i [])[t]? = some y → y = []) := fun t y ht hy => by
                            by_cases e : t = i
                            · subst e
                              rw [List.getElem?_set_self (by omega)] at hy
                              injection hy with hy
                              exact hy.symm
                            · rw [List.getElem?_set_ne (fun e2 => e e2.symm)] at hy
                              exact Hem.out t y (by omega) hy
                          clear hx
                          go_wp2_with fail
                          refine hfd.out.mono ?_
                          rintro e w5 ⟨rfl, hs5, _, hb5⟩
                          have Hs5 := Lib.hid hs5
                          have Hb5 := Lib.hid (Hbd.out.trans (Below.mono hb5 hz1))
                          clear hfd hs5 hb5 hca
                          go_wp2_with fail
                          go_roundw
                          case rel => exact ⟨i + 1, _, by omega, by go_num, Hs5.out, Hemn.out, Hb5.out⟩
                          case measure => simp [intOf]; omega
                        · obtain ⟨sv, tv, hsv, hv1, _, _, _, _, hv6⟩ := Hsd.out.used
                          have hv0 : tv = 0 := hv6 (fun k hk h => by have := h.2; omega)
                          have hfl : F'.flatten = [] := flat_nil fun t y hy => Hem.out t y (by have := (List.getElem?_eq_some_iff.1 hy).1; omega) hy
                          have hU0 : Pg.used sv = 0 := by rw [hv1, hv0, hfl]; rfl
                          have hus := used_c _ bs sv wd hsv
                          rw [hU0] at hus
                          have Hus2 := Lib.hid hus
                          clear hus hU0 hfl hv0 hv6 hv1 hsv
                          go_wp2_with fail
                          refine Hus2.out.mono ?_
                          rintro e w' ⟨rfl, rfl⟩
                          go_wp2_with fail
                          go_ret
                          exact ⟨rfl, Hbd.out⟩
            · go_wp2_with fail
              go_loopw [61] (fun vi wr2 => ∃ q : Nat, q ≤ rl ∧ vi = .int .i64 q ∧ Hid (Below (wq.alloc (.cells #[.int .u8 (kd : Int), .int .u8 (wh : Int), .slice RA rl rc] 35)).heap.size (wq.alloc (.cells #[.int .u8 (kd : Int), .int .u8 (wh : Int), .slice RA rl rc] 35)) wr2)) (fun i _ => rl - (intOf i).toNat)
              case atStart => exact ⟨0, by omega, rfl, Below.refl _ _⟩
              case round =>
                obtain ⟨q, hq, rfl, Hq⟩ := hrel
                obtain ⟨wv, rfl⟩ : ∃ x : World, x = wr := ⟨_, rfl⟩
                have hzv := Hq.out.size
                have Hb2 := Lib.hid (Hb1.out.trans (Hq.out.mono Hb1.out.size))
                by_cases hlq : q < rl
                · have hql : q < r.length := by rw [Hl.out]; exact hlq
                  obtain ⟨g, o2, rfl, e0, e1, e2⟩ := row_cells (HR.out.below Hb2.out) hql
                  generalize r[q] = v at *
                  obtain ⟨vk, vn, vs⟩ := v
                  dsimp only at e0 e1 e2
                  have hsz := St8_size vs
                  have hbx : Below wv.heap.size wv (wv.alloc (.cells #[.int .u8 vk, .int .i64 vn, .string (St8 vs)] 37)) := (Below.refl _ _).alloc (Nat.le_refl _) _
                  by_cases h200 : 200 < vs.length
                  · go_wp2_with fail
                    go_ret
                    exact ⟨rfl, Hb2.out.trans (hbx.mono Hb2.out.size)⟩
                  · go_wp2_with fail
                    go_roundw
                    case rel => exact ⟨q + 1, by omega, by go_num, Hq.out.trans (hbx.mono hzv)⟩
                    case measure => simp [intOf]; omega
                · obtain rfl : q = rl := by omega
                  have Hs2 := Lib.hid (Hs1.out.below Hq.out)
                  have hbox : Blk wv wq.heap.size 35 [.int .u8 (kd : Int), .int .u8 (wh : Int), .slice RA q rc] := Hs2.out.ext (wq.heap.size, 35, [.int .u8 (kd : Int), .int .u8 (wh : Int), .slice RA q rc]) (by simp)
                  have k0 := hbox.cell 0
                  have k1 := hbox.cell 1
                  have k2 := hbox.cell 2
                  simp only [List.getElem?_cons_zero, List.getElem?_cons_succ] at k0 k1 k2
                  have Hs3 := Lib.hid (Hs2.out.sub (E' := [(b6, 29, arr3 bw), (wq.heap.size, 35, [.int .u8 (kd : Int), .int .u8 (wh : Int), .slice RA q rc])]) (by simp))
                  clear Hs Hb Hs1 Hb1 Hq hbox d0 d1 d2 hzv Hs2
                  generalize wq.heap.size = nb at *
                  obtain ⟨k, hk, hk3⟩ : ∃ k : Nat, (wh : Int) % 3 = (k : Int) ∧ k < 3 := ⟨wh % 3, by omega, Nat.mod_lt _ (by omega)⟩
                  have hk4 : kd % 4 = 0 ∨ kd % 4 = 1 ∨ kd % 4 = 2 ∨ kd % 4 = 3 := by omega
                  rcases hk4 with hk4 | hk4 | hk4 | hk4
                  · have hk4' : (kd : Int) % 4 = 0 := by omega
                    have hc3 := Hs3.out.cell3 hk3
                    have hk3' : (k : Int) < 3 := by omega
                    go_wp2_with fail
                    go_still_tail 5, (by kernel_rfl)
                    change wpList _ _ _ _ _ wv.drew
                    go_wp2_with fail
                    refine (add_h (Hs3.out.below (Below.refl _ _).drew) hk3 hk3 (by omega) r q rc RA Hl.out ((HR.out.below Hb2.out).drew) Hv.out ha6 ha7).mono ?_
                    rintro e w5 ⟨⟨er, rfl⟩, hs5, hb5⟩
                    have HE := Lib.hid (hs5.sub (E' := [(b6, 29, arr3 bw)]) (by simp))
                    have hb5' := Below.mono hb5 hz1
                    have HbE : Hid (Below w.heap.size w w5) := Hb2.out.trans ⟨hb5'.os, hb5'.tape, hb5'.output, hb5'.size, hb5'.block⟩
                    clear hs5 hb5 hb5' Hs3 Hb2 k0 k1 k2 hc3
                    have hzE := HbE.out.size
                    have hset := SetAt.made w5
                    have hbM : Below w5.heap.size w5 (w5.alloc (.map #[] 0)) := (Below.refl _ _).alloc (Nat.le_refl _) _
                    have HsM := Lib.hid hset
                    have HbM := Lib.hid hbM
                    have hlF := HE.out.lens
                    clear hset hbM
                    go_wp2_with fail
                    go_loopw [163] (fun vi wr => ∃ (i : Nat) (C : Int → Bool), i ≤ nf ∧ vi = .int .i64 i ∧ Hid (SetAt wr w5.heap.size (cnt F i) C) ∧ Hid (Among (F).flatten (cnt F i) C) ∧ Hid (Below w5.heap.size w5 wr)) (fun i _ => nf - (intOf i).toNat)
                    case atStart => exact ⟨0, _, by omega, rfl, HsM.out, Among.start _, HbM.out⟩
                    case round =>
                      obtain ⟨i, C, hi, rfl, Hset, Ham, Hbm⟩ := hrel
                      obtain ⟨wa, rfl⟩ : ∃ x : World, x = wr := ⟨_, rfl⟩
                      clear HsM HbM
                      have hzm := Hbm.out.size
                      have HEa := Lib.hid (HE.out.below Hbm.out)
                      have Hba := Lib.hid (HbE.out.trans (Hbm.out.mono hzE))
                      obtain ⟨su, tu, hst, hu1, hu2, hu3, hu4, hu5, _⟩ := HEa.out.used
                      have Hu2 := Lib.hid hu2
                      have Hu3 := Lib.hid hu3
                      clear hu2 hu3
                      by_cases hlt : i < nf
                      · obtain ⟨y, hy⟩ : ∃ y, (F)[i]? = some y := ⟨_, List.getElem?_eq_getElem (by omega)⟩
                        obtain ⟨xf, hx⟩ : ∃ xf, (bf)[i]? = some xf := ⟨_, List.getElem?_eq_getElem (by omega)⟩
                        obtain ⟨ga, oa, eg, hca⟩ := ptrs_get HEa.out.fil.rd (i := i) (by omega)
                        rw [(List.getElem?_eq_some_iff.1 hx).2] at hca
                        obtain ⟨S, k9, ic9, I9, many9, hfi⟩ := HEa.out.file hx hy
                        have hk9 := hfi.klen
                        have hcl := cnt_le hy
                        have hpg := Lib.hid (pages_c S bs xf y k9 ic9 I9 many9 wa hfi (by omega))
                        have Hy := Lib.hid hy
                        have Hk9 := Lib.hid hk9
                        clear hfi hy hx hst hk9
                        subst eg
                        go_wp2_with fail
                        refine hpg.out.mono ?_
                        rintro e wp ⟨A7, c7, rfl, ho7, hb7⟩
                        have Hsetp := Lib.hid (Hset.out.kept (T := []) (B := 0) (Keeps.of_below hb7))
                        have Hbp := Lib.hid (Hbm.out.trans (hb7.mono hzm))
                        have Ho7 := Lib.hid ho7
                        have hzp := Hbp.out.size
                        clear hpg ho7 hb7 Hset hca
                        go_wp2_with fail
                        go_loopw [170] (fun vi wr => ∃ (t : Nat) (C : Int → Bool), t ≤ k9 ∧ vi = .int .i64 t ∧ Hid (SetAt wr w5.heap.size (cnt F i + t) C) ∧ Hid (Among (F).flatten (cnt F i + t) C) ∧ Hid (Cel w5.heap.size wp wr)) (fun i _ => k9 - (intOf i).toNat)
                        case atStart => exact ⟨0, C, by omega, rfl, Hsetp.out, Ham.out, Cel.refl _ _⟩
                        case round =>
                          clear Hsetp Ham
                          obtain ⟨t, C, ht, rfl, Hset, Ham, Hcel⟩ := hrel
                          by_cases hlt : t < k9
                          · have hty : t < y.length := by rw [Hk9.out]; exact hlt
                            obtain ⟨gb, ob, eb, _, _, hcb⟩ := (Hcel.out.own Ho7.out).rd.get (k := t) (by rw [List.length_map]; exact hty)
                            rw [List.getElem_map] at hcb
                            have hat := cnt_at Hy.out t y[t] (List.getElem?_eq_getElem hty)
                            have hid := Hu3.out _ (List.mem_of_getElem? hat)
                            have hlk := Hset.out.look (z := ((y[t] : Nat) : Int)) (by omega) (by omega)
                            rw [Ham.out.not Hu2.out hat] at hlk
                            obtain ⟨wn, hup, hstn, hceln⟩ := Hset.out.put (B := w5.heap.size) (Nat.le_refl _) (by unfold maxLen; omega) (z := ((y[t] : Nat) : Int)) (by omega) (by omega)
                            have Hamn := Lib.hid (Ham.out.put hat)
                            have Hstn := Lib.hid hstn
                            have Hceln := Lib.hid (Hcel.out.trans hceln)
                            clear hat hstn hceln Hset Ham Hcel
                            generalize y[t] = id at *
                            subst eb
                            go_wp2_with fail
                            go_roundw
                            case rel => exact ⟨t + 1, _, by omega, by go_num, Hstn.out, Hamn.out, Hceln.out⟩
                            case measure => simp [intOf]; omega
                          · obtain rfl : t = k9 := by omega
                            have Hb9 := Lib.hid (Hbp.out.trans Hcel.out.below)
                            have hcs := cnt_succ Hy.out
                            rw [Hk9.out] at hcs
                            go_wp2_with fail
                            go_roundw
                            case rel => exact ⟨i + 1, C, by omega, by go_num, by rw [hcs]; exact Hset.out, by rw [hcs]; exact Ham.out, Hb9.out⟩
                            case measure => simp [intOf]; omega
                      · obtain rfl : i = nf := by omega
                        obtain ⟨m, hm, hlen⟩ := Hset.out.len_
                        have hca := cnt_all (F := F) (i := i) (by omega)
                        have hus := Lib.hid (used_c _ bs su wa hst)
                        have hmu : m ≤ Pg.used su := by omega
                        have hmu2 : Pg.used su ≤ 10000 := by omega
                        generalize Pg.used su = U at *
                        clear hst hu1 hm
                        go_wp2_with fail
                        refine hus.out.mono ?_
                        rintro e w' ⟨rfl, rfl⟩
                        go_wp2_with fail
                        go_roundw
                        case rel => exact ⟨j + 1, i, _, _, _, _, _, by omega, by omega, by omega, by go_num, rfl, HEa.out, Hba.out⟩
                        case measure => simp [intOf]; omega
                  · have hk4' : (kd : Int) % 4 = 1 := by omega
                    have hc3 := Hs3.out.cell3 hk3
                    have hk3' : (k : Int) < 3 := by omega
                    go_wp2_with fail
                    refine (done_h Hs3.out hk3 hk3).mono ?_
                    rintro e w5 ⟨hd, hen, hb5⟩
                    have Hb5 := Lib.hid (Hb2.out.trans (Below.mono hb5 hz1))
                    have Hen := Lib.hid hen
                    clear hen hb5 Hs3 Hb2 k0 k1 k2 hc3
                    rcases hd with ⟨x, l, rfl, hp⟩ | ⟨er, her, rfl, hs5⟩
                    · have hbx : Below w5.heap.size w5 (w5.alloc (.cells #[.pointer (some ⟨x, 0, none⟩)] 39)) := (Below.refl _ _).alloc (Nat.le_refl _) _
                      have hn5 := (Blk.new w5 39 #[.pointer (some ⟨x, 0, none⟩)]).range
                      have hp5 := hp.below hbx
                      have hown5 := hp5.fil.1
                      have hB5 := hp5.fil.2
                      have Hp5 := Lib.hid hp5
                      have Hen5 := Lib.hid (Hen.out.below hbx)
                      have Hb55 := Lib.hid (Hb5.out.trans (hbx.mono Hb5.out.size))
                      clear hp hp5 hbx Hen Hb5
                      go_wp2_with (first | (at_builtin; refine hold ?_) | (at_make; refine hold ?_))
                      (with_reducible refine unhold ?_)
                      refine wpList_apd rfl _ _ _ rfl Efil w1.heap.size _ nf cf _ rfl hown5 _ 1 _ [.pointer (some ⟨x, 0, none⟩)] rfl rfl (fun _ => ⟨_, _, rfl, hn5⟩) (by simp [Value.oneCell']) (nf + 1) rfl (Ptrs (bf ++ [x])) (by simp [Ptrs]) (by omega) (by omega) hB5 ?_
                      intro A6 c6 w6 ho6 hg6 hat6
                      have HN0 := Lib.hid (push_h Hp5.out ho6 hg6 hat6)
                      have HeN0 := Lib.hid (Hen5.out.keeps (by decide) (Own.apd_keeps hown5 hg6))
                      have HbN0 := Lib.hid (Hb55.out.grown hg6 Hb55.out.size (fun i hi => Nat.le_trans hz1 (hown5.row_ge i hi)))
                      have hnf2 : nf + 1 ≤ j + 1 := by omega
                      clear hown5 hB5 hn5 Hp5 Hen5 Hb55 ho6 hg6 hat6
                      generalize nf + 1 = nf2 at *
                      generalize bf ++ [x] = bf2 at *
                      generalize F ++ [l] = F2 at *
                      have hc3n := HN0.out.cell3 hk3
                      have hbox : Blk w6 nb 35 [.int .u8 (kd : Int), .int .u8 (wh : Int), .slice RA q rc] := HN0.out.ext (nb, 35, [.int .u8 (kd : Int), .int .u8 (wh : Int), .slice RA q rc]) (by simp)
                      have k2 := hbox.cell 2
                      simp only [List.getElem?_cons_zero, List.getElem?_cons_succ] at k2
                      clear hbox
                      go_wp2_with fail
                      go_quiet ((go_at_call 12; exact Calls.quiet_of_same (((HeN0.out.below (below_drewN' (Below.refl _ _) _)).add _ _ _).mono fun _ _ ⟨h1, h2⟩ => ⟨h1, h2.symm⟩)))
                      clear hc3n k2
                      generalize hWN : w6.drewN _ = w7
                      have hb07 : Below w6.heap.size w6 w7 := by rw [← hWN]; exact below_drewN' (Below.refl _ _) _
                      have HN := Lib.hid ((HN0.out.below hb07).sub (E' := [(b6, 29, arr3 bw)]) (by simp))
                      have HbN := Lib.hid (HbN0.out.trans (hb07.mono HbN0.out.size))
                      clear hWN hb07 HN0 HbN0 HeN0
                      go_wp2_with fail
                      refine (new_c (some ⟨bs, 0, none⟩) w7).mono ?_
                      rintro e w8 ⟨rfl, hnew, hb8, hlt8⟩
                      have hzN := HbN.out.size
                      have hz8 := hb8.size
                      have hs8 := HN.out.below hb8
                      have hbl : Blk w8 b6 29 (arr3 bw) := hs8.ext (b6, 29, arr3 bw) (by simp)
                      have kc := hbl.cell k
                      have kf := hbl.frozen k
                      rw [arr3_get bw hk3] at kc
                      have hput := put_h (on' := fun q => q < 3) HN.out hk3 (fun h => h.2 rfl) (fun q => by omega) (by simp) hb8 (Nat.le_refl _) hnew
                      rw [arr3_set bw hk3] at hput
                      have HE := Lib.hid (hput.later (Nat.le_succ j))
                      have HbE := Lib.hid ((HbN.out.trans (hb8.mono hzN)).setCell (p := ⟨b6, k, none⟩) (show w.heap.size ≤ b6 by omega) (.pointer (some ⟨w7.heap.size, 0, none⟩)))
                      have hk3' : (k : Int) < 3 := by omega
                      clear hs8 hbl hnew hput hb8 HN HbN
                      go_upto_region 42 with fail
                      generalize w8.setCell ⟨b6, k, none⟩ (.pointer (some ⟨w7.heap.size, 0, none⟩)) = wx at *
                      generalize Pg.upd bw k w7.heap.size = bwx at *
                      have hzE := HbE.out.size
                      have hset := SetAt.made wx
                      have hbM : Below wx.heap.size wx (wx.alloc (.map #[] 0)) := (Below.refl _ _).alloc (Nat.le_refl _) _
                      have HsM := Lib.hid hset
                      have HbM := Lib.hid hbM
                      have hlF := HE.out.lens
                      clear hset hbM
                      go_wp2_with fail
                      go_loopw [163] (fun vi wr => ∃ (i : Nat) (C : Int → Bool), i ≤ nf2 ∧ vi = .int .i64 i ∧ Hid (SetAt wr wx.heap.size (cnt F2 i) C) ∧ Hid (Among (F2).flatten (cnt F2 i) C) ∧ Hid (Below wx.heap.size wx wr)) (fun i _ => nf2 - (intOf i).toNat)
                      case atStart => exact ⟨0, _, by omega, rfl, HsM.out, Among.start _, HbM.out⟩
                      case round =>
                        obtain ⟨i, C, hi, rfl, Hset, Ham, Hbm⟩ := hrel
                        obtain ⟨wa, rfl⟩ : ∃ x : World, x = wr := ⟨_, rfl⟩
                        clear HsM HbM
                        have hzm := Hbm.out.size
                        have HEa := Lib.hid (HE.out.below Hbm.out)
                        have Hba := Lib.hid (HbE.out.trans (Hbm.out.mono hzE))
                        obtain ⟨su, tu, hst, hu1, hu2, hu3, hu4, hu5, _⟩ := HEa.out.used
                        have Hu2 := Lib.hid hu2
                        have Hu3 := Lib.hid hu3
                        clear hu2 hu3
                        by_cases hlt : i < nf2
                        · obtain ⟨y, hy⟩ : ∃ y, (F2)[i]? = some y := ⟨_, List.getElem?_eq_getElem (by omega)⟩
                          obtain ⟨xf, hx⟩ : ∃ xf, (bf2)[i]? = some xf := ⟨_, List.getElem?_eq_getElem (by omega)⟩
                          obtain ⟨ga, oa, eg, hca⟩ := ptrs_get HEa.out.fil.rd (i := i) (by omega)
                          rw [(List.getElem?_eq_some_iff.1 hx).2] at hca
                          obtain ⟨S, k9, ic9, I9, many9, hfi⟩ := HEa.out.file hx hy
                          have hk9 := hfi.klen
                          have hcl := cnt_le hy
                          have hpg := Lib.hid (pages_c S bs xf y k9 ic9 I9 many9 wa hfi (by omega))
                          have Hy := Lib.hid hy
                          have Hk9 := Lib.hid hk9
                          clear hfi hy hx hst hk9
                          subst eg
                          go_wp2_with fail
                          refine hpg.out.mono ?_
                          rintro e wp ⟨A7, c7, rfl, ho7, hb7⟩
                          have Hsetp := Lib.hid (Hset.out.kept (T := []) (B := 0) (Keeps.of_below hb7))
                          have Hbp := Lib.hid (Hbm.out.trans (hb7.mono hzm))
                          have Ho7 := Lib.hid ho7
                          have hzp := Hbp.out.size
                          clear hpg ho7 hb7 Hset hca
                          go_wp2_with fail
                          go_loopw [170] (fun vi wr => ∃ (t : Nat) (C : Int → Bool), t ≤ k9 ∧ vi = .int .i64 t ∧ Hid (SetAt wr wx.heap.size (cnt F2 i + t) C) ∧ Hid (Among (F2).flatten (cnt F2 i + t) C) ∧ Hid (Cel wx.heap.size wp wr)) (fun i _ => k9 - (intOf i).toNat)
                          case atStart => exact ⟨0, C, by omega, rfl, Hsetp.out, Ham.out, Cel.refl _ _⟩
                          case round =>
                            clear Hsetp Ham
                            obtain ⟨t, C, ht, rfl, Hset, Ham, Hcel⟩ := hrel
                            by_cases hlt : t < k9
                            · have hty : t < y.length := by rw [Hk9.out]; exact hlt
                              obtain ⟨gb, ob, eb, _, _, hcb⟩ := (Hcel.out.own Ho7.out).rd.get (k := t) (by rw [List.length_map]; exact hty)
                              rw [List.getElem_map] at hcb
                              have hat := cnt_at Hy.out t y[t] (List.getElem?_eq_getElem hty)
                              have hid := Hu3.out _ (List.mem_of_getElem? hat)
                              have hlk := Hset.out.look (z := ((y[t] : Nat) : Int)) (by omega) (by omega)
                              rw [Ham.out.not Hu2.out hat] at hlk
                              obtain ⟨wn, hup, hstn, hceln⟩ := Hset.out.put (B := wx.heap.size) (Nat.le_refl _) (by unfold maxLen; omega) (z := ((y[t] : Nat) : Int)) (by omega) (by omega)
                              have Hamn := Lib.hid (Ham.out.put hat)
                              have Hstn := Lib.hid hstn
                              have Hceln := Lib.hid (Hcel.out.trans hceln)
                              clear hat hstn hceln Hset Ham Hcel
                              generalize y[t] = id at *
                              subst eb
                              go_wp2_with fail
                              go_roundw
                              case rel => exact ⟨t + 1, _, by omega, by go_num, Hstn.out, Hamn.out, Hceln.out⟩
                              case measure => simp [intOf]; omega
                            · obtain rfl : t = k9 := by omega
                              have Hb9 := Lib.hid (Hbp.out.trans Hcel.out.below)
                              have hcs := cnt_succ Hy.out
                              rw [Hk9.out] at hcs
                              go_wp2_with fail
                              go_roundw
                              case rel => exact ⟨i + 1, C, by omega, by go_num, by rw [hcs]; exact Hset.out, by rw [hcs]; exact Ham.out, Hb9.out⟩
                              case measure => simp [intOf]; omega
                        · obtain rfl : i = nf2 := by omega
                          obtain ⟨m, hm, hlen⟩ := Hset.out.len_
                          have hca := cnt_all (F := F2) (i := i) (by omega)
                          have hus := Lib.hid (used_c _ bs su wa hst)
                          have hmu : m ≤ Pg.used su := by omega
                          have hmu2 : Pg.used su ≤ 10000 := by omega
                          generalize Pg.used su = U at *
                          clear hst hu1 hm
                          go_wp2_with fail
                          refine hus.out.mono ?_
                          rintro e w' ⟨rfl, rfl⟩
                          go_wp2_with fail
                          go_roundw
                          case rel => exact ⟨j + 1, i, _, _, _, _, _, by omega, by omega, by omega, by go_num, rfl, HEa.out, Hba.out⟩
                          case measure => simp [intOf]; omega
                    · have HN0 := Lib.hid hs5
                      have HbN0 := Lib.hid Hb5.out
                      have HeN0 := Lib.hid Hen.out
                      clear hs5 Hb5 Hen
                      have hc3n := HN0.out.cell3 hk3
                      have hbox : Blk w5 nb 35 [.int .u8 (kd : Int), .int .u8 (wh : Int), .slice RA q rc] := HN0.out.ext (nb, 35, [.int .u8 (kd : Int), .int .u8 (wh : Int), .slice RA q rc]) (by simp)
                      have k2 := hbox.cell 2
                      simp only [List.getElem?_cons_zero, List.getElem?_cons_succ] at k2
                      clear hbox
                      go_wp2_with fail
                      go_quiet ((go_at_call 12; exact Calls.quiet_of_same (((HeN0.out.below (below_drewN' (Below.refl _ _) _)).add _ _ _).mono fun _ _ ⟨h1, h2⟩ => ⟨h1, h2.symm⟩)))
                      clear hc3n k2
                      generalize hWN : w5.drewN _ = w7
                      have hb07 : Below w5.heap.size w5 w7 := by rw [← hWN]; exact below_drewN' (Below.refl _ _) _
                      have HN := Lib.hid ((HN0.out.below hb07).sub (E' := [(b6, 29, arr3 bw)]) (by simp))
                      have HbN := Lib.hid (HbN0.out.trans (hb07.mono HbN0.out.size))
                      clear hWN hb07 HN0 HbN0 HeN0
                      go_wp2_with fail
                      refine (new_c (some ⟨bs, 0, none⟩) w7).mono ?_
                      rintro e w8 ⟨rfl, hnew, hb8, hlt8⟩
                      have hzN := HbN.out.size
                      have hz8 := hb8.size
                      have hs8 := HN.out.below hb8
                      have hbl : Blk w8 b6 29 (arr3 bw) := hs8.ext (b6, 29, arr3 bw) (by simp)
                      have kc := hbl.cell k
                      have kf := hbl.frozen k
                      rw [arr3_get bw hk3] at kc
                      have hput := put_h (on' := fun q => q < 3) HN.out hk3 (fun h => h.2 rfl) (fun q => by omega) (by simp) hb8 (Nat.le_refl _) hnew
                      rw [arr3_set bw hk3] at hput
                      have HE := Lib.hid (hput.later (Nat.le_succ j))
                      have HbE := Lib.hid ((HbN.out.trans (hb8.mono hzN)).setCell (p := ⟨b6, k, none⟩) (show w.heap.size ≤ b6 by omega) (.pointer (some ⟨w7.heap.size, 0, none⟩)))
                      have hk3' : (k : Int) < 3 := by omega
                      clear hs8 hbl hnew hput hb8 HN HbN
                      go_upto_region 42 with fail
                      generalize w8.setCell ⟨b6, k, none⟩ (.pointer (some ⟨w7.heap.size, 0, none⟩)) = wx at *
                      generalize Pg.upd bw k w7.heap.size = bwx at *
                      have hzE := HbE.out.size
                      have hset := SetAt.made wx
                      have hbM : Below wx.heap.size wx (wx.alloc (.map #[] 0)) := (Below.refl _ _).alloc (Nat.le_refl _) _
                      have HsM := Lib.hid hset
                      have HbM := Lib.hid hbM
                      have hlF := HE.out.lens
                      clear hset hbM
                      go_wp2_with fail
                      go_loopw [163] (fun vi wr => ∃ (i : Nat) (C : Int → Bool), i ≤ nf ∧ vi = .int .i64 i ∧ Hid (SetAt wr wx.heap.size (cnt F i) C) ∧ Hid (Among (F).flatten (cnt F i) C) ∧ Hid (Below wx.heap.size wx wr)) (fun i _ => nf - (intOf i).toNat)
                      case atStart => exact ⟨0, _, by omega, rfl, HsM.out, Among.start _, HbM.out⟩
                      case round =>
                        obtain ⟨i, C, hi, rfl, Hset, Ham, Hbm⟩ := hrel
                        obtain ⟨wa, rfl⟩ : ∃ x : World, x = wr := ⟨_, rfl⟩
                        clear HsM HbM
                        have hzm := Hbm.out.size
                        have HEa := Lib.hid (HE.out.below Hbm.out)
                        have Hba := Lib.hid (HbE.out.trans (Hbm.out.mono hzE))
                        obtain ⟨su, tu, hst, hu1, hu2, hu3, hu4, hu5, _⟩ := HEa.out.used
                        have Hu2 := Lib.hid hu2
                        have Hu3 := Lib.hid hu3
                        clear hu2 hu3
                        by_cases hlt : i < nf
                        · obtain ⟨y, hy⟩ : ∃ y, (F)[i]? = some y := ⟨_, List.getElem?_eq_getElem (by omega)⟩
                          obtain ⟨xf, hx⟩ : ∃ xf, (bf)[i]? = some xf := ⟨_, List.getElem?_eq_getElem (by omega)⟩
                          obtain ⟨ga, oa, eg, hca⟩ := ptrs_get HEa.out.fil.rd (i := i) (by omega)
                          rw [(List.getElem?_eq_some_iff.1 hx).2] at hca
                          obtain ⟨S, k9, ic9, I9, many9, hfi⟩ := HEa.out.file hx hy
                          have hk9 := hfi.klen
                          have hcl := cnt_le hy
                          have hpg := Lib.hid (pages_c S bs xf y k9 ic9 I9 many9 wa hfi (by omega))
                          have Hy := Lib.hid hy
                          have Hk9 := Lib.hid hk9
                          clear hfi hy hx hst hk9
                          subst eg
                          go_wp2_with fail
                          refine hpg.out.mono ?_
                          rintro e wp ⟨A7, c7, rfl, ho7, hb7⟩
                          have Hsetp := Lib.hid (Hset.out.kept (T := []) (B := 0) (Keeps.of_below hb7))
                          have Hbp := Lib.hid (Hbm.out.trans (hb7.mono hzm))
                          have Ho7 := Lib.hid ho7
                          have hzp := Hbp.out.size
                          clear hpg ho7 hb7 Hset hca
                          go_wp2_with fail
                          go_loopw [170] (fun vi wr => ∃ (t : Nat) (C : Int → Bool), t ≤ k9 ∧ vi = .int .i64 t ∧ Hid (SetAt wr wx.heap.size (cnt F i + t) C) ∧ Hid (Among (F).flatten (cnt F i + t) C) ∧ Hid (Cel wx.heap.size wp wr)) (fun i _ => k9 - (intOf i).toNat)
                          case atStart => exact ⟨0, C, by omega, rfl, Hsetp.out, Ham.out, Cel.refl _ _⟩
                          case round =>
                            clear Hsetp Ham
                            obtain ⟨t, C, ht, rfl, Hset, Ham, Hcel⟩ := hrel
                            by_cases hlt : t < k9
                            · have hty : t < y.length := by rw [Hk9.out]; exact hlt
                              obtain ⟨gb, ob, eb, _, _, hcb⟩ := (Hcel.out.own Ho7.out).rd.get (k := t) (by rw [List.length_map]; exact hty)
                              rw [List.getElem_map] at hcb
                              have hat := cnt_at Hy.out t y[t] (List.getElem?_eq_getElem hty)
                              have hid := Hu3.out _ (List.mem_of_getElem? hat)
                              have hlk := Hset.out.look (z := ((y[t] : Nat) : Int)) (by omega) (by omega)
                              rw [Ham.out.not Hu2.out hat] at hlk
                              obtain ⟨wn, hup, hstn, hceln⟩ := Hset.out.put (B := wx.heap.size) (Nat.le_refl _) (by unfold maxLen; omega) (z := ((y[t] : Nat) : Int)) (by omega) (by omega)
                              have Hamn := Lib.hid (Ham.out.put hat)
                              have Hstn := Lib.hid hstn
                              have Hceln := Lib.hid (Hcel.out.trans hceln)
                              clear hat hstn hceln Hset Ham Hcel
                              generalize y[t] = id at *
                              subst eb
                              go_wp2_with fail
                              go_roundw
                              case rel => exact ⟨t + 1, _, by omega, by go_num, Hstn.out, Hamn.out, Hceln.out⟩
                              case measure => simp [intOf]; omega
                            · obtain rfl : t = k9 := by omega
                              have Hb9 := Lib.hid (Hbp.out.trans Hcel.out.below)
                              have hcs := cnt_succ Hy.out
                              rw [Hk9.out] at hcs
                              go_wp2_with fail
                              go_roundw
                              case rel => exact ⟨i + 1, C, by omega, by go_num, by rw [hcs]; exact Hset.out, by rw [hcs]; exact Ham.out, Hb9.out⟩
                              case measure => simp [intOf]; omega
                        · obtain rfl : i = nf := by omega
                          obtain ⟨m, hm, hlen⟩ := Hset.out.len_
                          have hca := cnt_all (F := F) (i := i) (by omega)
                          have hus := Lib.hid (used_c _ bs su wa hst)
                          have hmu : m ≤ Pg.used su := by omega
                          have hmu2 : Pg.used su ≤ 10000 := by omega
                          generalize Pg.used su = U at *
                          clear hst hu1 hm
                          go_wp2_with fail
                          refine hus.out.mono ?_
                          rintro e w' ⟨rfl, rfl⟩
                          go_wp2_with fail
                          go_roundw
                          case rel => exact ⟨j + 1, i, _, _, _, _, _, by omega, by omega, by omega, by go_num, rfl, HEa.out, Hba.out⟩
                          case measure => simp [intOf]; omega
                  · have hk4' : (kd : Int) % 4 = 2 := by omega
                    have hc3 := Hs3.out.cell3 hk3
                    have hk3' : (k : Int) < 3 := by omega
                    go_wp2_with fail
                    refine (cancel_h Hs3.out hk3 hk3).mono ?_
                    rintro e w5 ⟨rfl, hs5, hen, hb5⟩
                    have Hb5 := Lib.hid (Hb2.out.trans (Below.mono hb5 hz1))
                    have Hen := Lib.hid hen
                    have HN := Lib.hid (hs5.sub (E' := [(b6, 29, arr3 bw)]) (by simp))
                    have HbN := Lib.hid Hb5.out
                    clear hen hb5 Hs3 Hb2 k0 k1 k2 hc3 hs5
                    have hc5 := HN.out.cell3 hk3
                    go_wp2_with fail
                    refine Hen.out.done.mono ?_
                    rintro e w' ⟨rfl, rfl⟩
                    clear hc5
                    go_wp2_with fail
                    refine (new_c (some ⟨bs, 0, none⟩) w5).mono ?_
                    rintro e w8 ⟨rfl, hnew, hb8, hlt8⟩
                    have hzN := HbN.out.size
                    have hz8 := hb8.size
                    have hs8 := HN.out.below hb8
                    have hbl : Blk w8 b6 29 (arr3 bw) := hs8.ext (b6, 29, arr3 bw) (by simp)
                    have kc := hbl.cell k
                    have kf := hbl.frozen k
                    rw [arr3_get bw hk3] at kc
                    have hput := put_h (on' := fun q => q < 3) HN.out hk3 (fun h => h.2 rfl) (fun q => by omega) (by simp) hb8 (Nat.le_refl _) hnew
                    rw [arr3_set bw hk3] at hput
                    have HE := Lib.hid (hput.later (Nat.le_succ j))
                    have HbE := Lib.hid ((HbN.out.trans (hb8.mono hzN)).setCell (p := ⟨b6, k, none⟩) (show w.heap.size ≤ b6 by omega) (.pointer (some ⟨w5.heap.size, 0, none⟩)))
                    have hk3' : (k : Int) < 3 := by omega
                    clear hs8 hbl hnew hput hb8 HN HbN
                    go_upto_region 42 with fail
                    generalize w8.setCell ⟨b6, k, none⟩ (.pointer (some ⟨w5.heap.size, 0, none⟩)) = wx at *
                    generalize Pg.upd bw k w5.heap.size = bwx at *
                    have hzE := HbE.out.size
                    have hset := SetAt.made wx
                    have hbM : Below wx.heap.size wx (wx.alloc (.map #[] 0)) := (Below.refl _ _).alloc (Nat.le_refl _) _
                    have HsM := Lib.hid hset
                    have HbM := Lib.hid hbM
                    have hlF := HE.out.lens
                    clear hset hbM
                    go_wp2_with fail
                    go_loopw [163] (fun vi wr => ∃ (i : Nat) (C : Int → Bool), i ≤ nf ∧ vi = .int .i64 i ∧ Hid (SetAt wr wx.heap.size (cnt F i) C) ∧ Hid (Among (F).flatten (cnt F i) C) ∧ Hid (Below wx.heap.size wx wr)) (fun i _ => nf - (intOf i).toNat)
                    case atStart => exact ⟨0, _, by omega, rfl, HsM.out, Among.start _, HbM.out⟩
                    case round =>
                      obtain ⟨i, C, hi, rfl, Hset, Ham, Hbm⟩ := hrel
                      obtain ⟨wa, rfl⟩ : ∃ x : World, x = wr := ⟨_, rfl⟩
                      clear HsM HbM
                      have hzm := Hbm.out.size
                      have HEa := Lib.hid (HE.out.below Hbm.out)
                      have Hba := Lib.hid (HbE.out.trans (Hbm.out.mono hzE))
                      obtain ⟨su, tu, hst, hu1, hu2, hu3, hu4, hu5, _⟩ := HEa.out.used
                      have Hu2 := Lib.hid hu2
                      have Hu3 := Lib.hid hu3
                      clear hu2 hu3
                      by_cases hlt : i < nf
                      · obtain ⟨y, hy⟩ : ∃ y, (F)[i]? = some y := ⟨_, List.getElem?_eq_getElem (by omega)⟩
                        obtain ⟨xf, hx⟩ : ∃ xf, (bf)[i]? = some xf := ⟨_, List.getElem?_eq_getElem (by omega)⟩
                        obtain ⟨ga, oa, eg, hca⟩ := ptrs_get HEa.out.fil.rd (i := i) (by omega)
                        rw [(List.getElem?_eq_some_iff.1 hx).2] at hca
                        obtain ⟨S, k9, ic9, I9, many9, hfi⟩ := HEa.out.file hx hy
                        have hk9 := hfi.klen
                        have hcl := cnt_le hy
                        have hpg := Lib.hid (pages_c S bs xf y k9 ic9 I9 many9 wa hfi (by omega))
                        have Hy := Lib.hid hy
                        have Hk9 := Lib.hid hk9
                        clear hfi hy hx hst hk9
                        subst eg
                        go_wp2_with fail
                        refine hpg.out.mono ?_
                        rintro e wp ⟨A7, c7, rfl, ho7, hb7⟩
                        have Hsetp := Lib.hid (Hset.out.kept (T := []) (B := 0) (Keeps.of_below hb7))
                        have Hbp := Lib.hid (Hbm.out.trans (hb7.mono hzm))
                        have Ho7 := Lib.hid ho7
                        have hzp := Hbp.out.size
                        clear hpg ho7 hb7 Hset hca
                        go_wp2_with fail
                        go_loopw [170] (fun vi wr => ∃ (t : Nat) (C : Int → Bool), t ≤ k9 ∧ vi = .int .i64 t ∧ Hid (SetAt wr wx.heap.size (cnt F i + t) C) ∧ Hid (Among (F).flatten (cnt F i + t) C) ∧ Hid (Cel wx.heap.size wp wr)) (fun i _ => k9 - (intOf i).toNat)
                        case atStart => exact ⟨0, C, by omega, rfl, Hsetp.out, Ham.out, Cel.refl _ _⟩
                        case round =>
                          clear Hsetp Ham
                          obtain ⟨t, C, ht, rfl, Hset, Ham, Hcel⟩ := hrel
                          by_cases hlt : t < k9
                          · have hty : t < y.length := by rw [Hk9.out]; exact hlt
                            obtain ⟨gb, ob, eb, _, _, hcb⟩ := (Hcel.out.own Ho7.out).rd.get (k := t) (by rw [List.length_map]; exact hty)
                            rw [List.getElem_map] at hcb
                            have hat := cnt_at Hy.out t y[t] (List.getElem?_eq_getElem hty)
                            have hid := Hu3.out _ (List.mem_of_getElem? hat)
                            have hlk := Hset.out.look (z := ((y[t] : Nat) : Int)) (by omega) (by omega)
                            rw [Ham.out.not Hu2.out hat] at hlk
                            obtain ⟨wn, hup, hstn, hceln⟩ := Hset.out.put (B := wx.heap.size) (Nat.le_refl _) (by unfold maxLen; omega) (z := ((y[t] : Nat) : Int)) (by omega) (by omega)
                            have Hamn := Lib.hid (Ham.out.put hat)
                            have Hstn := Lib.hid hstn
                            have Hceln := Lib.hid (Hcel.out.trans hceln)
                            clear hat hstn hceln Hset Ham Hcel
                            generalize y[t] = id at *
                            subst eb
                            go_wp2_with fail
                            go_roundw
                            case rel => exact ⟨t + 1, _, by omega, by go_num, Hstn.out, Hamn.out, Hceln.out⟩
                            case measure => simp [intOf]; omega
                          · obtain rfl : t = k9 := by omega
                            have Hb9 := Lib.hid (Hbp.out.trans Hcel.out.below)
                            have hcs := cnt_succ Hy.out
                            rw [Hk9.out] at hcs
                            go_wp2_with fail
                            go_roundw
                            case rel => exact ⟨i + 1, C, by omega, by go_num, by rw [hcs]; exact Hset.out, by rw [hcs]; exact Ham.out, Hb9.out⟩
                            case measure => simp [intOf]; omega
                      · obtain rfl : i = nf := by omega
                        obtain ⟨m, hm, hlen⟩ := Hset.out.len_
                        have hca := cnt_all (F := F) (i := i) (by omega)
                        have hus := Lib.hid (used_c _ bs su wa hst)
                        have hmu : m ≤ Pg.used su := by omega
                        have hmu2 : Pg.used su ≤ 10000 := by omega
                        generalize Pg.used su = U at *
                        clear hst hu1 hm
                        go_wp2_with fail
                        refine hus.out.mono ?_
                        rintro e w' ⟨rfl, rfl⟩
                        go_wp2_with fail
                        go_roundw
                        case rel => exact ⟨j + 1, i, _, _, _, _, _, by omega, by omega, by omega, by go_num, rfl, HEa.out, Hba.out⟩
                        case measure => simp [intOf]; omega
                  · have hk4' : (kd : Int) % 4 = 3 := by omega
                    have hc3 := Hs3.out.cell3 hk3
                    have hk3' : (k : Int) < 3 := by omega
                    clear hc3 hk3'
                    by_cases hnf0 : nf = 0
                    · subst hnf0
                      have HE := Lib.hid ((Hs3.out.later (Nat.le_succ j)).sub (E' := [(b6, 29, arr3 bw)]) (by simp))
                      have HbE := Lib.hid Hb2.out
                      clear Hs3 Hb2
                      go_upto_region 42 with fail
                      have hzE := HbE.out.size
                      have hset := SetAt.made wv
                      have hbM : Below wv.heap.size wv (wv.alloc (.map #[] 0)) := (Below.refl _ _).alloc (Nat.le_refl _) _
                      have HsM := Lib.hid hset
                      have HbM := Lib.hid hbM
                      have hlF := HE.out.lens
                      clear hset hbM
                      go_wp2_with fail
                      go_loopw [163] (fun vi wr => ∃ (i : Nat) (C : Int → Bool), i ≤ 0 ∧ vi = .int .i64 i ∧ Hid (SetAt wr wv.heap.size (cnt F i) C) ∧ Hid (Among (F).flatten (cnt F i) C) ∧ Hid (Below wv.heap.size wv wr)) (fun i _ => 0 - (intOf i).toNat)
                      case atStart => exact ⟨0, _, by omega, rfl, HsM.out, Among.start _, HbM.out⟩
                      case round =>
                        obtain ⟨i, C, hi, rfl, Hset, Ham, Hbm⟩ := hrel
                        obtain ⟨wa, rfl⟩ : ∃ x : World, x = wr := ⟨_, rfl⟩
                        clear HsM HbM
                        have hzm := Hbm.out.size
                        have HEa := Lib.hid (HE.out.below Hbm.out)
                        have Hba := Lib.hid (HbE.out.trans (Hbm.out.mono hzE))
                        obtain ⟨su, tu, hst, hu1, hu2, hu3, hu4, hu5, _⟩ := HEa.out.used
                        have Hu2 := Lib.hid hu2
                        have Hu3 := Lib.hid hu3
                        clear hu2 hu3
                        by_cases hlt : i < 0
                        · omega
                        · obtain rfl : i = 0 := by omega
                          obtain ⟨m, hm, hlen⟩ := Hset.out.len_
                          have hca := cnt_all (F := F) (i := 0) (by omega)
                          have hus := Lib.hid (used_c _ bs su wa hst)
                          have hmu : m ≤ Pg.used su := by omega
                          have hmu2 : Pg.used su ≤ 10000 := by omega
                          generalize Pg.used su = U at *
                          clear hst hu1 hm
                          go_wp2_with fail
                          refine hus.out.mono ?_
                          rintro e w' ⟨rfl, rfl⟩
                          go_wp2_with fail
                          go_roundw
                          case rel => exact ⟨j + 1, 0, _, _, _, _, _, by omega, by omega, by omega, by go_num, rfl, HEa.out, Hba.out⟩
                          case measure => simp [intOf]; omega
                    · obtain ⟨q2, hq2, hq2n⟩ : ∃ q2 : Nat, (wh : Int) % (nf : Int) = (q2 : Int) ∧ q2 < nf := ⟨wh % nf, by omega, Nat.mod_lt _ (by omega)⟩
                      have hn0 : ((nf : Int) == 0) = false := by rw [beq_eq_false_iff_ne]; omega
                      have hn1 : (0 : Int) < (nf : Int) := by omega
                      have hlF := Hs3.out.lens
                      obtain ⟨x, hx⟩ : ∃ x, bf[q2]? = some x := ⟨_, List.getElem?_eq_getElem (by omega)⟩
                      obtain ⟨ga, oa, rfl, hca⟩ := ptrs_get Hs3.out.fil.rd (i := q2) (by omega)
                      rw [(List.getElem?_eq_some_iff.1 hx).2] at hca
                      have hfd := Lib.hid (fdrop_h Hs3.out hx)
                      have Hx := Lib.hid hx
                      clear hx
                      go_wp2_with fail
                      refine hfd.out.mono ?_
                      rintro e w5 ⟨rfl, hs5, ⟨S5, hf5⟩, hb5⟩
                      have Hb5 := Lib.hid (Hb2.out.trans (Below.mono hb5 hz1))
                      obtain ⟨gc, oc, ec, hcc⟩ := ptrs_get hs5.fil.rd (i := q2) (by have := hs5.lens; omega)
                      rw [(List.getElem?_eq_some_iff.1 Hx.out).2] at hcc
                      have hfm := Lib.hid (fmany_c _ bs x _ _ _ _ _ w5 hf5)
                      have hpg := Lib.hid (pages_c _ bs x _ _ _ _ _ w5 hf5 (by omega))
                      have Hs5 := Lib.hid (hs5.sub (E' := [(b6, 29, arr3 bw)]) (by simp))
                      injection ec with ec
                      injection ec with ec1 ec2
                      subst ec1; subst ec2
                      clear hf5 hs5 hb5 hfd Hs3 Hb2 hca k0 k1 k2
                      go_wp2_with fail
                      refine hfm.out.mono ?_
                      rintro e w' ⟨rfl, rfl⟩
                      go_wp2_with fail
                      refine hpg.out.mono ?_
                      rintro e w6 ⟨A7, c7, rfl, _, hb6⟩
                      have HE := Lib.hid ((Hs5.out.below hb6).later (Nat.le_succ j))
                      have HbE := Lib.hid (Hb5.out.trans (hb6.mono Hb5.out.size))
                      clear hfm hpg Hs5 Hb5 hcc hb6
                      go_upto_region 42 with fail
                      clear hn0 hn1 hq2
                      have hzE := HbE.out.size
                      have hset := SetAt.made w6
                      have hbM : Below w6.heap.size w6 (w6.alloc (.map #[] 0)) := (Below.refl _ _).alloc (Nat.le_refl _) _
                      have HsM := Lib.hid hset
                      have HbM := Lib.hid hbM
                      have hlF := HE.out.lens
                      clear hset hbM
                      go_wp2_with fail
                      go_loopw [163] (fun vi wr => ∃ (i : Nat) (C : Int → Bool), i ≤ nf ∧ vi = .int .i64 i ∧ Hid (SetAt wr w6.heap.size (cnt ((F.set q2 [])) i) C) ∧ Hid (Among (((F.set q2 []))).flatten (cnt ((F.set q2 [])) i) C) ∧ Hid (Below w6.heap.size w6 wr)) (fun i _ => nf - (intOf i).toNat)
                      case atStart => exact ⟨0, _, by omega, rfl, HsM.out, Among.start _, HbM.out⟩
                      case round =>
                        obtain ⟨i, C, hi, rfl, Hset, Ham, Hbm⟩ := hrel
                        obtain ⟨wa, rfl⟩ : ∃ x : World, x = wr := ⟨_, rfl⟩
                        clear HsM HbM
                        have hzm := Hbm.out.size
                        have HEa := Lib.hid (HE.out.below Hbm.out)
                        have Hba := Lib.hid (HbE.out.trans (Hbm.out.mono hzE))
                        obtain ⟨su, tu, hst, hu1, hu2, hu3, hu4, hu5, _⟩ := HEa.out.used
                        have Hu2 := Lib.hid hu2
                        have Hu3 := Lib.hid hu3
                        clear hu2 hu3
                        by_cases hlt : i < nf
                        · obtain ⟨y, hy⟩ : ∃ y, (((F.set q2 [])))[i]? = some y := ⟨_, List.getElem?_eq_getElem (by omega)⟩
                          obtain ⟨xf, hx⟩ : ∃ xf, (bf)[i]? = some xf := ⟨_, List.getElem?_eq_getElem (by omega)⟩
                          obtain ⟨ga, oa, eg, hca⟩ := ptrs_get HEa.out.fil.rd (i := i) (by omega)
                          rw [(List.getElem?_eq_some_iff.1 hx).2] at hca
                          obtain ⟨S, k9, ic9, I9, many9, hfi⟩ := HEa.out.file hx hy
                          have hk9 := hfi.klen
                          have hcl := cnt_le hy
                          have hpg := Lib.hid (pages_c S bs xf y k9 ic9 I9 many9 wa hfi (by omega))
                          have Hy := Lib.hid hy
                          have Hk9 := Lib.hid hk9
                          clear hfi hy hx hst hk9
                          injection eg with eg
                          injection eg with eg1 eg2
                          subst eg1; subst eg2
                          go_wp2_with fail
                          refine hpg.out.mono ?_
                          rintro e wp ⟨A7, c7, rfl, ho7, hb7⟩
                          have Hsetp := Lib.hid (Hset.out.kept (T := []) (B := 0) (Keeps.of_below hb7))
                          have Hbp := Lib.hid (Hbm.out.trans (hb7.mono hzm))
                          have Ho7 := Lib.hid ho7
                          have hzp := Hbp.out.size
                          clear hpg ho7 hb7 Hset hca
                          go_wp2_with fail
                          go_loopw [170] (fun vi wr => ∃ (t : Nat) (C : Int → Bool), t ≤ k9 ∧ vi = .int .i64 t ∧ Hid (SetAt wr w6.heap.size (cnt ((F.set q2 [])) i + t) C) ∧ Hid (Among (((F.set q2 []))).flatten (cnt ((F.set q2 [])) i + t) C) ∧ Hid (Cel w6.heap.size wp wr)) (fun i _ => k9 - (intOf i).toNat)
                          case atStart => exact ⟨0, C, by omega, rfl, Hsetp.out, Ham.out, Cel.refl _ _⟩
                          case round =>
                            clear Hsetp Ham
                            obtain ⟨t, C, ht, rfl, Hset, Ham, Hcel⟩ := hrel
                            by_cases hlt : t < k9
                            · have hty : t < y.length := by rw [Hk9.out]; exact hlt
                              obtain ⟨gb, ob, eb, _, _, hcb⟩ := (Hcel.out.own Ho7.out).rd.get (k := t) (by rw [List.length_map]; exact hty)
                              rw [List.getElem_map] at hcb
                              have hat := cnt_at Hy.out t y[t] (List.getElem?_eq_getElem hty)
                              have hid := Hu3.out _ (List.mem_of_getElem? hat)
                              have hlk := Hset.out.look (z := ((y[t] : Nat) : Int)) (by omega) (by omega)
                              rw [Ham.out.not Hu2.out hat] at hlk
                              obtain ⟨wn, hup, hstn, hceln⟩ := Hset.out.put (B := w6.heap.size) (Nat.le_refl _) (by unfold maxLen; omega) (z := ((y[t] : Nat) : Int)) (by omega) (by omega)
                              have Hamn := Lib.hid (Ham.out.put hat)
                              have Hstn := Lib.hid hstn
                              have Hceln := Lib.hid (Hcel.out.trans hceln)
                              clear hat hstn hceln Hset Ham Hcel
                              generalize y[t] = id at *
                              subst eb
                              go_wp2_with fail
                              go_roundw
                              case rel => exact ⟨t + 1, _, by omega, by go_num, Hstn.out, Hamn.out, Hceln.out⟩
                              case measure => simp [intOf]; omega
                            · obtain rfl : t = k9 := by omega
                              have Hb9 := Lib.hid (Hbp.out.trans Hcel.out.below)
                              have hcs := cnt_succ Hy.out
                              rw [Hk9.out] at hcs
                              go_wp2_with fail
                              go_roundw
                              case rel => exact ⟨i + 1, C, by omega, by go_num, by rw [hcs]; exact Hset.out, by rw [hcs]; exact Ham.out, Hb9.out⟩
                              case measure => simp [intOf]; omega
                        · obtain rfl : i = nf := by omega
                          obtain ⟨m, hm, hlen⟩ := Hset.out.len_
                          have hca := cnt_all (F := ((F.set q2 []))) (i := i) (by omega)
                          have hus := Lib.hid (used_c _ bs su wa hst)
                          have hmu : m ≤ Pg.used su := by omega
                          have hmu2 : Pg.used su ≤ 10000 := by omega
                          generalize Pg.used su = U at *
                          clear hst hu1 hm
                          go_wp2_with fail
                          refine hus.out.mono ?_
                          rintro e w' ⟨rfl, rfl⟩
                          go_wp2_with fail
                          go_roundw
                          case rel => exact ⟨j + 1, i, _, _, _, _, _, by omega, by omega, by omega, by go_num, rfl, HEa.out, Hba.out⟩
                          case measure => simp [intOf]; omega
        · have HF := Hs
          have HbF := Hb
          clear Hs Hb
          go_wp2_with fail
          go_loopw [187] (fun vi wr => ∃ i : Nat, i ≤ 3 ∧ vi = .int .i64 i ∧ Hid (HS wr w1.heap.size bs (fun q => q < 3 ∧ i ≤ q) bw bf F A nf cf j [(b6, 29, arr3 bw)]) ∧ Hid (Below w.heap.size w wr)) (fun i _ => 3 - (intOf i).toNat)
          case atStart => exact ⟨0, by omega, rfl, HF.out.out (k := 3) (by omega) (fun q => ⟨fun h => h.1, fun h => ⟨h, Nat.zero_le _⟩⟩), HbF.out⟩
          case round =>
            clear HF HbF
            obtain ⟨i, hi, rfl, Hs, Hb⟩ := hrel
            have hzr := Hb.out.size
            obtain ⟨wa, rfl⟩ : ∃ x : World, x = wr := ⟨_, rfl⟩
            by_cases hi3 : i < 3
            · have hcc := Hs.out.cell3 hi3
              have hi3' : (i : Int) < 3 := by omega
              have hca := Lib.hid (cancel_h Hs.out hi3 ⟨hi3, Nat.le_refl _⟩)
              go_wp2_with fail
              refine hca.out.mono ?_
              rintro e w5 ⟨rfl, hs5, _, hb5⟩
              have Hs5 := Lib.hid (hs5.out (on' := fun q => q < 3 ∧ i + 1 ≤ q) (k := 3) (fun h => by have := h.1.1; omega) (fun q => ⟨fun h => ⟨⟨h.1, by have := h.2; omega⟩, by have := h.2; omega⟩, fun h => ⟨h.1.1, by have := h.1.2; have := h.2; omega⟩⟩))
              have Hb5 := Lib.hid (Hb.out.trans (Below.mono hb5 hz1))
              clear hcc hca hs5 hb5 Hs Hb
              go_wp2_with fail
              go_roundw
              case rel => exact ⟨i + 1, by omega, by go_num, Hs5.out, Hb5.out⟩
              case measure => simp [intOf]; omega
            · have Hs3 : Hid (HS wa w1.heap.size bs (fun q => q < 3 ∧ 3 ≤ q) bw bf F A nf cf j [(b6, 29, arr3 bw)]) := by
                obtain rfl : i = 3 := by omega
                exact Hs.out
              have hlF := Hs3.out.lens
              clear Hs
              go_wp2_with fail
              go_loopw [25, 197] (fun vs vi wr => ∃ i : Nat, i ≤ nf ∧ vi = .int .i64 i ∧ vs = .int .i64 (cnt F i : Nat) ∧ Hid (Below wa.heap.size wa wr)) (fun _ i _ => nf - (intOf i).toNat)
              case atStart => exact ⟨0, by omega, rfl, rfl, Below.refl _ _⟩
              case round =>
                obtain ⟨i, hi, rfl, rfl, Hq⟩ := hrel
                obtain ⟨wb, rfl⟩ : ∃ x : World, x = wr := ⟨_, rfl⟩
                have hzq := Hq.out.size
                have Hsb := Lib.hid (Hs3.out.below Hq.out)
                have Hbb := Lib.hid (Hb.out.trans (Hq.out.mono hzr))
                obtain ⟨su, tu, hst, hu1, hu2, hu3, hu4, hu5, hu6⟩ := Hsb.out.used
                clear hu2 hu3
                have hu0 : tu = 0 := hu6 (fun k hk h => by have := h.2; omega)
                clear hu6
                by_cases hlt : i < nf
                · obtain ⟨y, hy⟩ : ∃ y, F[i]? = some y := ⟨_, List.getElem?_eq_getElem (by omega)⟩
                  obtain ⟨xf, hx⟩ : ∃ xf, bf[i]? = some xf := ⟨_, List.getElem?_eq_getElem (by omega)⟩
                  obtain ⟨ga, oa, rfl, hca⟩ := ptrs_get Hsb.out.fil.rd (i := i) (by omega)
                  rw [(List.getElem?_eq_some_iff.1 hx).2] at hca
                  obtain ⟨S, k9, ic9, I9, many9, hfi⟩ := Hsb.out.file hx hy
                  have hk9 := hfi.klen
                  have hcl := cnt_le hy
                  have hcs := cnt_succ hy
                  rw [hk9] at hcl hcs
                  have hpg := Lib.hid (pages_c S bs xf y k9 ic9 I9 many9 wb hfi (by omega))
                  have Hcs := Lib.hid hcs
                  clear hfi hy hx hst hk9 hcs hu1 hu0
                  go_wp2_with fail
                  refine hpg.out.mono ?_
                  rintro e wp ⟨A7, c7, rfl, _, hb7⟩
                  have Hb8 := Lib.hid (Hq.out.trans (hb7.mono hzq))
                  clear hpg hb7 hca
                  go_wp2_with fail
                  go_roundw
                  case rel => exact ⟨i + 1, by omega, by go_num, by rw [Hcs.out]; go_num, Hb8.out⟩
                  case measure => simp [intOf]; omega
                · have hU : Pg.used su = cnt F i := by
                    have := cnt_all (F := F) (i := i) (by omega)
                    omega
                  have hus := used_c _ bs su wb hst
                  rw [hU] at hus
                  have Hus := Lib.hid hus
                  have hcl2 : cnt F i ≤ 4096 := by omega
                  clear hus hu1 hu0 hst hU
                  generalize cnt F i = U at *
                  go_wp2_with fail
                  refine Hus.out.mono ?_
                  rintro e w' ⟨rfl, rfl⟩
                  go_wp2_with fail
                  go_loopw [213] (fun vi wr => ∃ (i : Nat) (F' : List (List Nat)), i ≤ nf ∧ vi = .int .i64 i ∧ Hid (HS wr w1.heap.size bs (fun q => q < 3 ∧ 3 ≤ q) bw bf F' A nf cf j [(b6, 29, arr3 bw)]) ∧ Hid (∀ (t : Nat) (y : List Nat), t < i → F'[t]? = some y → y = []) ∧ Hid (Below w.heap.size w wr)) (fun i _ => nf - (intOf i).toNat)
                  case atStart => exact ⟨0, F, by omega, rfl, Hsb.out, fun t y h => by omega, Hbb.out⟩
                  case round =>
                    obtain ⟨i, F', hi, rfl, Hsd, Hem, Hbd⟩ := hrel
                    obtain ⟨wd, rfl⟩ : ∃ x : World, x = wr := ⟨_, rfl⟩
                    have hlF' := Hsd.out.lens
                    by_cases hlt : i < nf
                    · obtain ⟨xf, hx⟩ : ∃ xf, bf[i]? = some xf := ⟨_, List.getElem?_eq_getElem (by omega)⟩
                      obtain ⟨ga, oa, rfl, hca⟩ := ptrs_get Hsd.out.fil.rd (i := i) (by omega)
                      rw [(List.getElem?_eq_some_iff.1 hx).2] at hca
                      have hfd := Lib.hid (fdrop_h Hsd.out hx)
                      have Hemn : Hid (∀ (t : Nat) (y : List Nat), t < i + 1 → (F'.set i [])[t]? = some y → y = []) := fun t y ht hy => by
                        by_cases e : t = i
                        · subst e
                          rw [List.getElem?_set_self (by omega)] at hy
                          injection hy with hy
                          exact hy.symm
                        · rw [List.getElem?_set_ne (fun e2 => e e2.symm)] at hy
                          exact Hem.out t y (by omega) hy
                      clear hx
                      go_wp2_with fail
                      refine hfd.out.mono ?_
                      rintro e w5 ⟨rfl, hs5, _, hb5⟩
                      have Hs5 := Lib.hid hs5
                      have Hb5 := Lib.hid (Hbd.out.trans (Below.mono hb5 hz1))
                      clear hfd hs5 hb5 hca
                      go_wp2_with fail
                      go_roundw
                      case rel => exact ⟨i + 1, _, by omega, by go_num, Hs5.out, Hemn.out, Hb5.out⟩
                      case measure => simp [intOf]; omega
                    · obtain ⟨sv, tv, hsv, hv1, _, _, _, _, hv6⟩ := Hsd.out.used
                      have hv0 : tv = 0 := hv6 (fun k hk h => by have := h.2; omega)
                      have hfl : F'.flatten = [] := flat_nil fun t y hy => Hem.out t y (by have := (List.getElem?_eq_some_iff.1 hy).1; omega) hy
                      have hU0 : Pg.used sv = 0 := by rw [hv1, hv0, hfl]; rfl
                      have hus := used_c _ bs sv wd hsv
                      rw [hU0] at hus
                      have Hus2 := Lib.hid hus
                      clear hus hU0 hfl hv0 hv6 hv1 hsv
                      go_wp2_with fail
                      refine Hus2.out.mono ?_
                      rintro e w' ⟨rfl, rfl⟩
                      go_wp2_with fail
                      go_ret
                      exact ⟨rfl, Hbd.out⟩
end Go.Proofs.Ytjjmnjgkodiibaa
