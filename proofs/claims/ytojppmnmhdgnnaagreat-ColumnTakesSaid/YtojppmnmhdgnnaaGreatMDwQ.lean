/- The walk of the reference's Take (warpref10.Take). -/
import Derived.Test.YtojppmnmhdgnnaaGreatMDwK
import Derived.Test.YtojppmnmhdgnnaaGreatMDwP
import Derived.Test.YtojppmnmhdgnnaaGreatMStRd
namespace Go.Proofs.YtojppmnmhdgnnaaGreat
set_option linter.unusedVariables false
set_option linter.unusedSimpArgs false
open Go.RowKit

attribute [local go_sem ↓] Go.wp_at_zero Go.wp_at_succ

theorem RRdr.keeps {w w' : World} {p : Nat} {l : List UInt8} {bad : Bool} {T : List TypeId} {B : Nat} (h : RRdr w p l bad) (h1t : 51 ∉ T) (h2t : 5 ∉ T) (hk : Keeps T B w w') : RRdr w' p l bad := by
  obtain ⟨A, n, c, h1, h2, h3⟩ := h
  exact ⟨A, n, c, h1.keeps h1t hk, h2.keeps h2t hk, h3⟩
theorem RRdr.lt {w : World} {p : Nat} {l : List UInt8} {bad : Bool} (h : RRdr w p l bad) : p < w.heap.size := by
  obtain ⟨A, m, c, h1, _⟩ := h
  exact h1.lt

set_option maxHeartbeats 16000000 in
set_option maxRecDepth 100000 in
theorem drtake_any (b : List UInt8) (n c : Nat) (A : Option Addr) (w : World) (hl : b.length = n) (hr : Rd w A (Bs b)) (hn : n ≤ 500000) (hnc : n ≤ c) (hc : c ≤ 9223372036854775807) :
    Calls Tryz.prog 27 #[.slice A n c] w fun e w' => TakeOK b w e w' := by
  have Hl := Lib.hid hl
  have Hr := Lib.hid hr
  have htm : Hid (takeM b = match takeNum b with | none => none | some (m, u) => if 200 < m then none else match takeG m [] [] u with | none => none | some (w, r) => if putM w = some (b.take (b.length - r.length)) then some (w, r) else none) := takeM_same b
  have ho9 : Own (w.alloc (.cells #[] 5)) w.heap.size 5 1 (some ⟨w.heap.size, 0, none⟩) 0 0 [] := World.ownsRow_made w #[] 0 (Nat.le_refl _) (by unfold maxLen; omega) rfl
  have hb9 : Below w.heap.size w (w.alloc (.cells #[] 5)) := (Below.refl _ _).alloc (Nat.le_refl _) _
  clear hl hr
  go_enter Tryz.func27, Tryz.ntmps27
  go_wp2_with (first | (at_builtin; refine hold ?_) | (at_make; refine hold ?_))
  (with_reducible refine unhold ?_)
  refine wpList_apd rfl _ _ _ rfl E8 w.heap.size _ 0 _ [] rfl ho9 _ n _ (Bs b) rfl (by rw [List.length_map, Hl.out, Nat.mul_one]) (Hr.out.below hb9) (Bs_one b) n (Nat.zero_add _) (Bs b) rfl (by omega) (by omega) hb9.size ?_
  intro A1 c1 w1 ho1 hg1 _
  have hb1 : Below w.heap.size w w1 := hb9.grown hg1 hb9.size ho9.row_ge
  have hz1 := hb1.size
  have hcap := Own.cap ho1
  clear ho9 hb9 hg1
  have hbB : Below w1.heap.size w1 (w1.alloc (.cells #[.slice A1 n c1, .bool false] 51)) := (Below.refl _ _).alloc (Nat.le_refl _) _
  have hrd1 : RRdr (w1.alloc (.cells #[.slice A1 n c1, .bool false] 51)) w1.heap.size b false := ⟨A1, n, c1, Blk.new w1 _ _, (OwnX.of_own (Own.below ho1 hbB)).lower (Nat.zero_le _), Hl.out, hcap.1, by have := hcap.2; unfold maxLen at this; omega, by
    rcases Own.lies ho1 with ⟨h, _, h', _⟩ | ⟨g, cur, h, _⟩
    · exact .inl ⟨h, h'⟩
    · exact .inr ⟨g, 0, h⟩⟩
  have Hb1 := Lib.hid (hb1.trans (hbB.mono hz1))
  have hpz := hrd1.lt
  have hnu := Lib.hid (rrdr_num w1.heap.size b false _ hrd1)
  clear hb1 hbB hrd1 ho1 hcap
  go_wp2_with fail
  refine hnu.out.mono ?_
  clear hnu
  generalize (w1.alloc (.cells #[.slice A1 n c1, .bool false] 51)) = wn at *
  generalize w1.heap.size = p at *
  rintro e w2 ⟨⟨ht, rfl, hrd⟩ | ⟨m, u, ht, rfl, hrd⟩, hk⟩
  · have hf : Hid (takeM b = none) := by show _ = _; rw [htm.out, ht]
    have Hb2 := Lib.hid (Hb1.out.trans (keeps_below hk hz1 (Nat.le_of_lt hpz)))
    have Hblk := Lib.hid hrd
    have hpe : putM [] = some [0] := by decide +kernel
    clear ht hrd hk htm
    go_wp2_with fail
    go_loopw [6, 7] (fun v6 v7 wr => v6 = .int .u64 0 ∧ v7 = .slice none 0 0 ∧ wr = w2) (fun _ _ _ => 0)
    case atStart => exact ⟨rfl, rfl, rfl⟩
    case round =>
      obtain ⟨rfl, rfl, rfl⟩ := hrel
      go_wp2_with fail
      refine (drput_any [] 0 0 none wr rfl (Rd.nil _ _) (by omega)).mono ?_
      intro e w3 h3
      obtain ⟨⟨A3, c3, rfl, hA3⟩, hb3⟩ := h3.some hpe
      have k1 := (Hblk.out.below hb3).cell 1
      simp only [List.getElem?_cons_zero, List.getElem?_cons_succ] at k1
      have Hb3 := Lib.hid (Hb2.out.trans (hb3.mono Hb2.out.size))
      clear h3 hA3 hb3
      go_wp2_with fail
      go_quiet (fail)
      go_wp2_with fail
      go_ret3
      exact ⟨.inl ⟨hf.out, rfl⟩, below_drewN' Hb3.out _⟩
  · have hm64 := (takeNum_lt ht).1
    have hub := (takeNum_lt ht).2
    rw [Hl.out] at hub
    have Hb2 := Lib.hid (Hb1.out.trans (keeps_below hk hz1 (Nat.le_of_lt hpz)))
    by_cases hm2 : 200 < m
    · have hf : Hid (takeM b = none) := by show _ = _; rw [htm.out, ht]; dsimp only; rw [if_pos hm2]
      have hmI : (200 : Int) < (m : Int) := by omega
      clear ht hrd hk htm
      go_wp2_with fail
      go_ret3
      exact ⟨.inl ⟨hf.out, rfl⟩, Hb2.out⟩
    · have htm2 : Hid (takeM b = match takeG m [] [] u with | none => none | some (w, r) => if putM w = some (b.take (b.length - r.length)) then some (w, r) else none) := by show _ = _; rw [htm.out, ht]; dsimp only; rw [if_neg hm2]
      have Hrd2 := Lib.hid hrd
      have hm3 : m ≤ 200 := by omega
      have hmI : ¬ (200 : Int) < (m : Int) := by omega
      clear ht hrd hk htm hm2 hm64
      go_wp2_with fail
      go_loopw [6, 7, 8] (fun v6 v7 v8 wr => ∃ (k kk cc : Nat) (A' : Option Addr) (lst : List UInt8) (a : List (List UInt8)) (pc : List UInt8), v6 = .int .u64 (k : Int) ∧ v7 = .slice A' kk cc ∧ v8 = .string (St8 lst) ∧ kk + k ≤ 200 ∧ lst.length ≤ (200 - k) * 1024 ∧ Hid (RRdr wr p pc false) ∧ Hid (Own wr w.heap.size 9 1 A' kk cc (wcl a)) ∧ Hid (Below w.heap.size w wr) ∧ Hid (takeG m [] [] u = takeG k lst a pc)) (fun v6 _ _ _ => (intOf v6).toNat)
      case atStart => exact ⟨m, 0, 0, none, [], [], u, rfl, rfl, rfl, by omega, by simp, Hrd2, Own.nil _ _ _ _, Hb2, rfl⟩
      case round =>
        obtain ⟨k, kk, cc, A', lst, a, pc, rfl, rfl, rfl, hkk, hll, Hrd, Ho, Hb, Htk⟩ := hrel
        have hkl : Hid (a.length = kk) := by
          show _ = _
          have := Ho.out.1
          rw [wcl_len, Nat.mul_one] at this
          exact this
        by_cases hk0 : 0 < k
        · have hkI : (0 : Int) < (k : Int) := by omega
          have hnu := Lib.hid (rrdr_num p pc false wr Hrd.out)
          have hpr := Hrd.out.lt
          obtain ⟨L, hL⟩ : ∃ L, lst.length = L := ⟨_, rfl⟩
          have hsz := St8_size lst
          rw [hL] at hsz
          have hwL : IntKind.u64.wrap (L : Int) = (L : Int) := by rw [IntKind.wrap_u64]; omega
          have hL2 : L ≤ (200 - k) * 1024 := by rw [← hL]; exact hll
          have Htf : Hid (takeG m [] [] u = match takeNum pc with | none => none | some (n', v) => match takeText v with | none => none | some (s, z) => if lst.length < n' then none else takeG (k - 1) (lst.take n' ++ s) (a ++ [lst.take n' ++ s]) z) := by
            show _ = _
            rw [Htk.out]
            obtain ⟨k', rfl⟩ : ∃ k', k = k' + 1 := ⟨k - 1, by omega⟩
            rfl
          rw [hL] at Htf
          have Hno : Hid (takeG m [] [] u = none → takeM b = none) := fun h => by rw [htm2.out, h]
          clear Htk Hrd hL hll
          go_wp2_with fail
          refine hnu.out.mono ?_
          rintro e w4 ⟨⟨ht4, he4, hrd4⟩ | ⟨n', v, ht4, rfl, hrd4⟩, hk4⟩
          · obtain ⟨n', rfl⟩ : ∃ n' : Nat, e = .returned (.int .u64 (n' : Int)) := ⟨0, he4⟩
            have Hb4 := Lib.hid (Hb.out.trans (keeps_below hk4 hz1 (Nat.le_of_lt hpr)))
            have Hn4 : Hid (takeM b = none) := Hno.out (by rw [Htf.out, ht4])
            have hte := Lib.hid (rrdr_text p [] true w4 hrd4.rdr)
            have hp4 := hrd4.rdr.lt
            clear he4 hnu Ho Hb ht4 hrd4 hk4 Htf Hno
            go_wp2_with fail
            refine hte.out.mono ?_
            rintro e w5 ⟨⟨ht5, rfl, hrd5⟩ | ⟨s, z, ht5, rfl, hrd5⟩, hk5⟩
            · have Hb5 := Lib.hid (Hb4.out.trans (keeps_below hk5 hz1 (Nat.le_of_lt hp4)))
              have k1 := hrd5.cell 1
              simp only [List.getElem?_cons_zero, List.getElem?_cons_succ] at k1
              clear hte Hb4 ht5 hrd5 hk5
              go_wp2_with fail
              go_ret3
              exact ⟨.inl ⟨Hn4.out, rfl⟩, Hb5.out⟩
            · rw [show takeText [] = none from rfl] at ht5
              cases ht5
          · have Ho4 := Lib.hid (Own.keeps Ho.out (by decide) hk4)
            have Hb4 := Lib.hid (Hb.out.trans (keeps_below hk4 hz1 (Nat.le_of_lt hpr)))
            rw [ht4] at Htf
            dsimp only at Htf
            have hte := Lib.hid (rrdr_text p v false w4 hrd4)
            have hp4 := hrd4.lt
            clear hnu Ho Hb ht4 hrd4 hk4
            go_wp2_with fail
            refine hte.out.mono ?_
            rintro e w5 ⟨⟨ht5, rfl, hrd5⟩ | ⟨s, z, ht5, rfl, hrd5⟩, hk5⟩
            · have Hb5 := Lib.hid (Hb4.out.trans (keeps_below hk5 hz1 (Nat.le_of_lt hp4)))
              have Hn4 : Hid (takeM b = none) := Hno.out (by rw [Htf.out, ht5])
              have k1 := hrd5.cell 1
              simp only [List.getElem?_cons_zero, List.getElem?_cons_succ] at k1
              clear hte Hb4 ht5 hrd5 hk5 Htf Hno
              go_wp2_with fail
              go_ret3
              exact ⟨.inl ⟨Hn4.out, rfl⟩, Hb5.out⟩
            · have Ho5 := Lib.hid (Own.keeps Ho4.out (by decide) hk5)
              have Hb5 := Lib.hid (Hb4.out.trans (keeps_below hk5 hz1 (Nat.le_of_lt hp4)))
              have Hrd5 := Lib.hid hrd5
              have k1 : w5.cell? ⟨p, 1, none⟩ = some (.bool false) := by
                obtain ⟨_, _, _, hB, _⟩ := hrd5
                have := hB.cell 1
                simpa only [List.getElem?_cons_zero, List.getElem?_cons_succ] using this
              have hS : s.length ≤ 1024 := (takeText_suf ht5).1
              rw [ht5] at Htf
              dsimp only at Htf
              clear hte Ho4 Hb4 ht5 hrd5 hk5
              by_cases hLn : L < n'
              · have hf := Lib.hid (Hno.out (by rw [Htf.out, if_pos hLn]))
                have hLI : (L : Int) < (n' : Int) := by omega
                clear Htf Hno
                go_wp2_with fail
                go_ret3
                exact ⟨.inl ⟨hf.out, rfl⟩, Hb5.out⟩
              · have Htg : Hid (takeG m [] [] u = takeG (k - 1) (lst.take n' ++ s) (a ++ [lst.take n' ++ s]) z) := by show _ = _; rw [Htf.out, if_neg hLn]
                have hLI : ¬ (L : Int) < (n' : Int) := by omega
                have hnL : (n' : Int) ≤ (L : Int) := by omega
                have hn0 : (0 : Int) ≤ (n' : Int) := by omega
                have hex := St8_take lst n'
                have happ := St8_append (lst.take n') s
                have hwl : (lst.take n' ++ s).length ≤ (200 - k + 1) * 1024 := by
                  rw [List.length_append, List.length_take]
                  omega
                generalize hwd : lst.take n' ++ s = wd at *
                have hsz2 : (St8 (lst.take n')).size ≤ 1000000 := by
                  rw [St8_size, List.length_take]
                  omega
                have hsz3 : (St8 s).size ≤ 1000000 := by
                  rw [St8_size]
                  omega
                generalize lst.take n' = tk at *
                have hadd := fun w' => run_string_add_sum (P := Tryz.prog) (w := w') (St8 tk) (St8 s) (by omega)
                rw [happ] at hadd
                clear hwd happ Htf Hno
                have hbW : Below w5.heap.size w5 (w5.alloc (.cells #[.string (St8 wd)] 9)) := (Below.refl _ _).alloc (Nat.le_refl _) _
                have hnew := (Blk.new w5 9 #[.string (St8 wd)]).range
                have ho7 := Own.below Ho5.out hbW
                have hr7 := Hrd5.out.below hbW
                have hb7 := Hb5.out.trans (hbW.mono Hb5.out.size)
                have hz7 := hb7.size
                clear hbW Ho5 Hrd5 Hb5
                go_wp2_with (first | (at_builtin; refine hold ?_) | (at_make; refine hold ?_))
                (with_reducible refine unhold ?_)
                refine wpList_apd rfl _ _ _ rfl Estr w.heap.size _ kk _ (wcl a) rfl ho7 _ 1 _ [.string (St8 wd)] rfl rfl (fun _ => ⟨_, _, rfl, hnew⟩) (by simp [Value.oneCell']) (kk + 1) rfl _ rfl (by omega) (by omega) hz7 ?_
                intro A8 c8 w8 ho8 hg8 _
                have e8 : wcl a ++ [.string (St8 wd)] = wcl (a ++ [wd]) := by rw [wcl_append]; rfl
                rw [e8] at ho8
                have Hrd8 : Hid (RRdr w8 p z false) := hr7.keeps (by decide) (by decide) (ho7.apd_keeps hg8)
                have Ho8 := Lib.hid ho8
                have Hb8 := Lib.hid (hb7.grown hg8 hz7 ho7.row_ge)
                clear ho8 hg8 ho7 hr7 hb7 hnew e8
                go_wp2_with fail
                go_roundw
                case rel => exact ⟨k - 1, kk + 1, c8, A8, wd, a ++ [wd], z, by go_num, rfl, rfl, by omega, by omega, Hrd8, Ho8, Hb8, Htg⟩
                case measure => simp only [intOf, Int.toNat_natCast]; omega
        · have htz : Hid (takeM b = if putM a = some (b.take (n - pc.length)) then some (a, pc) else none) := by
            show _ = _
            obtain rfl : k = 0 := by omega
            rw [htm2.out, Htk.out, ← Hl.out]
            rfl
          have hsuf : pc.length ≤ u.length := by
            obtain rfl : k = 0 := by omega
            obtain ⟨j, hj⟩ := takeG_suf m [] [] u (a, pc) Htk.out
            have := congrArg List.length hj
            rw [List.length_drop] at this
            exact (by simpa using this : pc.length = u.length - j) ▸ Nat.sub_le _ _
          obtain ⟨Z, hZ⟩ : ∃ Z, pc.length = Z := ⟨_, rfl⟩
          have hZn : Z ≤ n := by omega
          have HZ : Hid (pc.length = Z) := hZ
          rw [hZ] at htz
          have hkI : ¬ (0 : Int) < (k : Int) := by omega
          have hpt := Lib.hid (drput_any a kk cc A' wr hkl.out Ho.out.rd (by omega))
          clear Htk hsuf hZ hub
          go_wp2_with fail
          refine hpt.out.mono ?_
          intro e w6 h6
          cases hpm : putM a with
          | none =>
            obtain ⟨rfl, hb6⟩ := h6.none hpm
            have hf : Hid (takeM b = none) := by show _ = _; rw [htz.out, hpm, if_neg (by simp)]
            have Hb6 := Lib.hid (Hb.out.trans (hb6.mono Hb.out.size))
            have k1 : w6.cell? ⟨p, 1, none⟩ = some (.bool false) := by
              obtain ⟨_, _, _, hB, _⟩ := Hrd.out.below hb6
              have := hB.cell 1
              simpa only [List.getElem?_cons_zero, List.getElem?_cons_succ] using this
            clear h6 hpm hb6 hpt
            go_wp2_with fail
            go_quiet (fail)
            go_wp2_with fail
            go_ret3
            exact ⟨.inl ⟨hf.out, rfl⟩, below_drewN' Hb6.out _⟩
          | some pb =>
            obtain ⟨⟨A6, c6, rfl, hA6⟩, hb6⟩ := h6.some hpm
            have Hb6 := Lib.hid (Hb.out.trans (hb6.mono Hb.out.size))
            obtain ⟨Ar, nr, cr, hB, hX, hnr, hnrc, hcr, _⟩ := Hrd.out.below hb6
            rw [HZ.out] at hnr
            subst hnr
            have k0 := hB.cell 0
            have k1 := hB.cell 1
            simp only [List.getElem?_cons_zero, List.getElem?_cons_succ] at k0 k1
            have Hrp := Lib.hid hX.rd
            have Ho6 := Lib.hid (Ho.out.rd.below hb6)
            obtain ⟨D, hD, hDI⟩ : ∃ D : Nat, n - Z = D ∧ (n : Int) - (Z : Int) = (D : Int) := ⟨n - Z, rfl, by omega⟩
            have hDn : D ≤ n := by omega
            rw [hD] at htz
            have hDc : (D : Int) ≤ (c : Int) := by omega
            have hD0 : (0 : Int) ≤ (D : Int) := by omega
            have hdl : (b.take D).length = D := by rw [List.length_take, Hl.out]; omega
            have hrw := (Hr.out.below Hb6.out)
            have hcv1 := fun d => run_str (w6.drewN d) A6 pb pb.length c6 rfl (hA6.drewN d)
            have hcv2 : ∀ d, (convert 22 9 (.slice A D c)).run Tryz.prog (w6.drewN d) = .ok (.string (St8 (b.take D))) (w6.drewN d) := fun d => run_str (w6.drewN d) A (b.take D) D c hdl (rdTake8 (hrw.drewN d) D)
            have hcq := St8_cmp pb (b.take D)
            obtain ⟨PL, hPL⟩ : ∃ PL, pb.length = PL := ⟨_, rfl⟩
            rw [hPL] at hcv1
            rw [hPL]
            rw [hpm] at htz
            clear h6 hb6 hpt hB hX hA6 hrw hdl hD hPL hpm
            by_cases heq : pb = b.take D
            · have hf : Hid (takeM b = some (a, pc)) := by show _ = _; rw [htz.out, if_pos (by rw [heq])]
              rw [decide_eq_true heq] at hcq
              clear heq htz
              go_wp2_with fail
              go_quiet (fail)
              go_wp2_with fail
              go_quiet (fail)
              go_wp2_with fail
              go_ret3
              refine ⟨.inr ⟨a, pc, A', cc, Ar, cr, hf.out, ?_, (Ho6.out.drewN _).drewN _, (Hrp.out.drewN _).drewN _⟩, below_drewN' (below_drewN' Hb6.out _) _⟩
              rw [hkl.out, HZ.out]
              rfl
            · have hf : Hid (takeM b = none) := by show _ = _; rw [htz.out, if_neg (by intro e; exact heq (Option.some.inj e))]
              rw [decide_eq_false heq] at hcq
              clear heq htz
              go_wp2_with fail
              go_quiet (fail)
              go_wp2_with fail
              go_ret3
              exact ⟨.inl ⟨hf.out, rfl⟩, below_drewN' Hb6.out _⟩
end Go.Proofs.YtojppmnmhdgnnaaGreat
