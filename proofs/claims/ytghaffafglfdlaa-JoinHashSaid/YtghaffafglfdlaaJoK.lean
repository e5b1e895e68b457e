/- The walk of JoinHash: it returns true, and turns nothing that was there. -/
import Derived.Test.YtghaffafglfdlaaJoL
import Derived.Test.YtghaffafglfdlaaJoP
namespace Go.Proofs.Ytghaffafglfdlaa
open Go.RowKit

attribute [local go_sem ↓] Go.wp_at_zero Go.wp_at_succ

set_option maxHeartbeats 4000000 in
set_option maxRecDepth 100000 in
theorem hash_no (p most left least : Nat) (rb : List RowM) (hb : List Value) (n c n' c' : Nat) (A A' : Option Addr) (x y : Int) (w : World) (hp : Pu w p most left least) (hl : left ≤ 1048576) (hn' : rb.length = n') (hA' : Rd w A' hb) (hRb : Rows w hb rb) (hn2 : n' ≤ 1000) (hs : ∀ r ∈ rb, small r) (hC : left < costs rb) :
    Calls Try.prog 14 #[.pointer (some ⟨p, 0, none⟩), .slice A n c, .slice A' n' c', .int .i64 x, .int .i64 y] w fun e w' => e = .returned (.tuple #[.slice none 0 0, .int .i64 5]) ∧ Below w.heap.size w w' := by
  have hrows := Lib.hid (prows_any rb hb n' c' A' w hn' hA' hRb hn2 hs)
  have HC := Lib.hid hC
  have Hp := Lib.hid hp
  generalize costs rb = C at *
  clear hn' hA' hRb hs hC hp
  go_enter_defers Try.func14, Try.ntmps14
  go_wp2_with fail
  refine hrows.out.mono ?_
  rintro e w1 ⟨⟨rfl, hCn⟩, hb1⟩
  go_wp2_with fail
  refine (ptake_no p most left least C w1 (Hp.out.below hb1) hl (by omega) HC.out).mono ?_
  rintro e w2 ⟨rfl, rfl⟩
  go_wp2_with fail
  exact ⟨_, results_tmp2 rfl _ _ _, rfl, hb1⟩

set_option maxHeartbeats 4000000 in
set_option maxRecDepth 100000 in
theorem hash_yes (wb : World) (p most left least : Nat) (ra rb : List RowM) (ha hb : List Value) (n c n' c' : Nat) (A A' : Option Addr) (x y : Int) (w : World) (hp : Pu w p most left least) (hpB : wb.heap.size ≤ p) (hbw : Below wb.heap.size wb w) (hl : left ≤ most) (hl1 : most ≤ 1048576) (hle : least ≤ 1048576)
    (hn : ra.length = n) (hA : Rd wb A ha) (hRa : Rows wb ha ra) (hn1 : n ≤ 1000) (hs1 : ∀ r ∈ ra, r.length ≤ 1000) (hn' : rb.length = n') (hA' : Rd wb A' hb) (hRb : Rows wb hb rb) (hn2 : n' ≤ 1000) (hs : ∀ r ∈ rb, small r) (hC : costs rb ≤ left) :
    Calls Try.prog 14 #[.pointer (some ⟨p, 0, none⟩), .slice A n c, .slice A' n' c', .int .i64 x, .int .i64 y] w fun e w' => ∃ O oc oh L, e = .returned (.tuple #[.slice O L oc, .int .i64 0]) ∧ (nested ra rb x y).length = L ∧ Own w' wb.heap.size 28 1 O L oc oh ∧ RowsO w' wb.heap.size oh (nested ra rb x y) ∧
      Pu w' p most left (min least (left - costs rb)) ∧ Below wb.heap.size wb w' := by
  have Hs2 := Lib.hid (fun r hr => Nat.le_trans (small_len (hs r hr)) (by omega : 32 ≤ 1000))
  have hrows := Lib.hid (fun w' (h : Below wb.heap.size wb w') => prows_any rb hb n' c' A' w' hn' (hA'.below h) (hRb.below h) hn2 hs)
  have hnest := Lib.hid (fun w' (h : Below wb.heap.size wb w') => nested_any ra rb ha hb n c n' c' A A' x y w' hn hn' (hA.below h) (hA'.below h) (hRa.below h) (hRb.below h) hn1 hn2 hs1 Hs2.out)
  have Hbw := Lib.hid hbw
  have Hp := Lib.hid hp
  generalize costs rb = C at *
  clear hn hA hRa hs1 hn' hA' hRb hs hbw hp
  go_enter_defers Try.func14, Try.ntmps14
  go_wp2_with fail
  refine (hrows.out w Hbw.out).mono ?_
  rintro e w1 ⟨⟨rfl, hCn⟩, hb1⟩
  have Hb1 := Lib.hid (Hbw.out.trans (hb1.mono Hbw.out.size))
  have Hp1 := Lib.hid (Hp.out.below hb1)
  clear hb1 Hp
  go_wp2_with fail
  refine (ptake_yes p most left least C w1 Hp1.out (by omega) hle hC hpB).mono ?_
  rintro e w2 ⟨rfl, hp2, hk2⟩
  have Hb2 := Lib.hid (Hb1.out.trans (hk2.below Hb1.out.size))
  have Hp2 := Lib.hid hp2
  clear hp2 hk2 Hp1 Hb1
  go_wp2_with fail
  refine (hrows.out w2 Hb2.out).mono ?_
  rintro e w3 ⟨⟨rfl, _⟩, hb3⟩
  have Hb3 := Lib.hid (Hb2.out.trans (hb3.mono Hb2.out.size))
  have Hp3 := Lib.hid (Hp2.out.below hb3)
  clear hb3 Hp2 Hb2
  go_wp2_with fail
  refine (hnest.out w3 Hb3.out).mono ?_
  rintro e w4 ⟨O, oc, oh, L, rfl, hL, hO, hOR, hb4⟩
  have Hb4 := Lib.hid (Hb3.out.trans (hb4.mono Hb3.out.size))
  have Hp4 := Lib.hid (Hp3.out.below hb4)
  have hsz := Hb3.out.size
  have HO := Lib.hid (Own.base hO hsz)
  have HOR := Lib.hid (hOR.base hsz)
  have HL := Lib.hid hL
  clear hb4 Hp3 Hb3 hO hOR hL
  go_wp2_with fail
  refine leaves_cons (f := 33) (args := #[.pointer (some ⟨p, 0, none⟩), .int .i64 (C : Int)]) (by simp) (by simp [go_sem]) ?_
  refine (pgive_d .returning p most (left - C) (min least (left - C)) C w4 Hp4.out hl1 (by omega) hpB).mono ?_
  rintro e u' w5 ⟨rfl, rfl, hp5, hk5⟩
  refine ⟨_, results_tmp2 rfl _ _ _, O, oc, oh, L, rfl, HL.out, Own.keeps HO.out (by decide) hk5, HOR.out.keeps (by decide) hk5, ?_, Hb4.out.trans (hk5.below Hb4.out.size)⟩
  rw [show left - C + C = left from by omega] at hp5
  exact hp5

set_option maxHeartbeats 4000000 in
set_option maxRecDepth 100000 in
theorem hash_walk (ra rb : List RowM) (ha hb : List Value) (n c n' c' mo no : Nat) (A A' : Option Addr) (left right : Int) (w : World) (hn : ra.length = n) (hn' : rb.length = n') (hnc : n ≤ c) (hc : c ≤ 9223372036854775807) (hnc' : n' ≤ c') (hc' : c' ≤ 9223372036854775807) (hA : Rd w A ha) (hA' : Rd w A' hb) (hRa : Rows w ha ra) (hRb : Rows w hb rb) (hmo : mo < 65536) (hno : no < 65536) :
    Calls Try.prog 4 #[.slice A n c, .slice A' n' c', .int .i64 left, .int .i64 right, .int .u16 (mo : Int), .int .u16 (no : Int)] w fun e w' => e = .returned (.bool true) ∧ Below w.heap.size w w' := by
  have Hn := Lib.hid hn
  have Hn' := Lib.hid hn'
  clear hn hn'
  obtain ⟨N, hN, hN5⟩ : ∃ N : Nat, (mo : Int) % 5001 = (N : Int) ∧ N ≤ 5000 := ⟨mo % 5001, by omega, by omega⟩
  obtain ⟨W, hW, hWN⟩ : ∃ W : Nat, (no : Int) % ((N : Int) + 1) = (W : Int) ∧ W ≤ N := ⟨no % (N + 1), by rw [show ((N : Int) + 1) = ((N + 1 : Nat) : Int) from by omega, ← Int.natCast_emod], by have := Nat.mod_lt no (show 0 < N + 1 by omega); omega⟩
  go_enter Try.func4, Try.ntmps4
  go_wp2_with fail
  refine (shown_any w).mono ?_
  rintro e w1 ⟨rfl, hb1⟩
  have hA1 := hA.below hb1
  have hA1' := hA'.below hb1
  have hRa1 := hRa.below hb1
  have hRb1 := hRb.below hb1
  clear hA hA' hRa hRb
  go_wp2_with fail
  refine (few_c ra ha n c A w1 Hn.out hnc hc hA1 hRa1).mono ?_
  rintro e w2 ⟨⟨k, hkn, hk40, hsm, rfl⟩, hb2⟩
  have hA2 := hA1.below hb2
  have hA2' := hA1'.below hb2
  have hRa2 := hRa1.below hb2
  have hRb2 := hRb1.below hb2
  have hb02 := hb1.trans (hb2.mono hb1.size)
  clear hA1 hA1' hRa1 hRb1 hb1 hb2
  go_wp2_with fail
  refine (few_c rb hb n' c' A' w2 Hn'.out hnc' hc' hA2' hRb2).mono ?_
  rintro e w3 ⟨⟨k', hkn', hk40', hsm', rfl⟩, hb3⟩
  have hA3 : Rd w3 A (ha.take k) := rd_take (hA2.below hb3) k
  have hA3' : Rd w3 A' (hb.take k') := rd_take (hA2'.below hb3) k'
  have hRa3 := (hRa2.below hb3).take k
  have hRb3 := (hRb2.below hb3).take k'
  have hb03 := hb02.trans (hb3.mono hb02.size)
  have hk : (ra.take k).length = k := by rw [List.length_take, Hn.out]; omega
  have hk' : (rb.take k').length = k' := by rw [List.length_take, Hn'.out]; omega
  clear hA2 hA2' hRa2 hRb2 hb02 hb3
  generalize ra.take k = xa at *
  generalize rb.take k' = xb at *
  generalize ha.take k = ja at *
  generalize hb.take k' = jb at *
  have hs1 : ∀ r ∈ xa, r.length ≤ 1000 := fun r hr => Nat.le_trans (small_len (hsm r hr)) (by omega)
  have hs2 : ∀ r ∈ xb, r.length ≤ 1000 := fun r hr => Nat.le_trans (small_len (hsm' r hr)) (by omega)
  have Hk := Lib.hid hk
  have Hk' := Lib.hid hk'
  have Hs1 := Lib.hid hs1
  have Hs2 := Lib.hid hs2
  have Hsm' := Lib.hid hsm'
  have HA3 := Lib.hid hA3
  have HA3' := Lib.hid hA3'
  have HRa3 := Lib.hid hRa3
  have HRb3 := Lib.hid hRb3
  have Hb03 := Lib.hid hb03
  have hrows := Lib.hid (nested_rows (l := left) (r := right) hs1 hs2)
  have hcount : (nested xa xb left right).length ≤ 1600 := Nat.le_trans (nested_le xb left right xa) (by rw [hk, hk']; exact Nat.le_trans (Nat.mul_le_mul hk40 hk40') (by omega))
  have Hcount := Lib.hid hcount
  clear hk hk' hsm hsm' hs1 hs2 hA3 hA3' hRa3 hRb3 hb03 hcount
  go_wp2_with fail
  refine (pnew_any N w3 (by omega)).mono ?_
  rintro e w4 ⟨p, rfl, hp4, hpB, hb4⟩
  have Hb4 := Lib.hid hb4
  have Hp4 := Lib.hid hp4
  clear hb4 hp4
  have hw1 : IntKind.i64.wrap ((N : Int) + 1) = (N : Int) + 1 := by rw [IntKind.wrap_i64]; omega
  have hnz : (((N : Int) + 1) == 0) = false := by rw [beq_eq_false_iff_ne]; omega
  go_wp2_with fail
  refine (ptake_yes p N N N W w4 Hp4.out (by omega) (by omega) hWN hpB).mono ?_
  rintro e w5 ⟨rfl, hp5, hk5⟩
  rw [show min N (N - W) = N - W from by omega] at hp5
  have Hb5 := Lib.hid (Hb4.out.trans (hk5.below Hb4.out.size))
  have Hp5 := Lib.hid hp5
  clear hp5 hk5 Hb4 Hp4
  obtain ⟨Z, hZ⟩ : ∃ Z, Z = N - W := ⟨_, rfl⟩
  rw [← hZ] at Hp5
  have HZ := Lib.hid hZ
  clear hZ
  by_cases hC : Z < costs xb
  · have hcnt := Lib.hid (fun w' (h : Below w3.heap.size w3 w') => rcount_any xb jb k' c' A' w' Hk'.out (HA3'.out.below h) (HRb3.out.below h) (by omega) Hsm'.out)
    have hno := Lib.hid (hash_no p N Z Z xb jb k c k' c' A A' left right w5 Hp5.out (by have := HZ.out; omega) Hk'.out (HA3'.out.below Hb5.out) (HRb3.out.below Hb5.out) (by omega) Hsm'.out hC)
    have HC := Lib.hid hC
    generalize costs xb = C at *
    clear hC
    go_wp2_with fail
    refine hno.out.mono ?_
    rintro e w6 ⟨rfl, hb6⟩
    have Hb6 := Lib.hid (Hb5.out.trans (hb6.mono Hb5.out.size))
    have Hp6 := Lib.hid (Hp5.out.below hb6)
    clear hb6 hno
    go_wp2_with fail
    refine (hcnt.out w6 Hb6.out).mono ?_
    rintro e w7 ⟨⟨rfl, hCb⟩, hb7⟩
    have Hb7 := Lib.hid (Hb6.out.trans (hb7.mono Hb6.out.size))
    have Hp7 := Lib.hid (Hp6.out.below hb7)
    clear hb7
    have hnow := pnow_any p N Z Z w7 Hp7.out (by omega) (by have := HZ.out; omega)
    rw [show N - Z = W from by have := HZ.out; omega] at hnow
    have Hnow := Lib.hid hnow
    clear hnow
    go_wp2_with fail
    refine Hnow.out.mono ?_
    rintro e w8 ⟨rfl, q8, rfl⟩
    have hpk := ppeak_any p N Z Z (w7.drewN q8) (Hp7.out.drewN q8) (by omega) (by have := HZ.out; omega)
    rw [show N - Z = W from by have := HZ.out; omega] at hpk
    have Hpk := Lib.hid hpk
    have Hb8 := Lib.hid (below_drewN' Hb7.out q8)
    have hgt : (N : Int) - (W : Int) < (C : Int) := by have := HC.out; have := HZ.out; omega
    have hWn : ¬ (N : Int) < (W : Int) := by omega
    clear hpk
    go_wp2_with fail
    refine Hpk.out.mono ?_
    rintro e w9 ⟨rfl, q9, rfl⟩
    have Hb9 := Lib.hid (below_drewN' (Hb03.out.trans (Hb8.out.mono Hb03.out.size)) q9)
    clear Hb8
    generalize (w7.drewN q8).drewN q9 = wz at *
    go_wp2_with fail
    go_ret
    exact ⟨rfl, Hb9.out⟩
  · have hcnt := Lib.hid (fun w' (h : Below w3.heap.size w3 w') => rcount_any xb jb k' c' A' w' Hk'.out (HA3'.out.below h) (HRb3.out.below h) (by omega) Hsm'.out)
    have hyes := hash_yes w3 p N Z Z xa xb ja jb k c k' c' A A' left right w5 Hp5.out hpB Hb5.out (by have := HZ.out; omega) (by omega) (by have := HZ.out; omega) Hk.out HA3.out HRa3.out (by omega) Hs1.out Hk'.out HA3'.out HRb3.out (by omega) Hsm'.out (by omega)
    have HC := Lib.hid hC
    generalize costs xb = C at *
    rw [show min Z (Z - C) = Z - C from by omega] at hyes
    have Hyes := Lib.hid hyes
    clear hC hyes
    go_wp2_with fail
    refine Hyes.out.mono ?_
    rintro e w6 ⟨O, oc, oh, L, rfl, hL, hO, hOR, hp6, hb6⟩
    have Hb6 := Lib.hid hb6
    have Hp6 := Lib.hid hp6
    have HO := Lib.hid (And.intro hO.rd hOR.rows)
    have HL := Lib.hid hL
    have hL16 : L ≤ 1600 := by rw [← hL]; exact Hcount.out
    clear hb6 hp6 hO hOR hL Hyes
    go_wp2_with fail
    refine (hcnt.out w6 Hb6.out).mono ?_
    rintro e w7 ⟨⟨rfl, hCb⟩, hb7⟩
    have Hb7 := Lib.hid (Hb6.out.trans (hb7.mono Hb6.out.size))
    have Hp7 := Lib.hid (Hp6.out.below hb7)
    have HO7 := Lib.hid (And.intro (HO.out.1.below hb7) (HO.out.2.below hb7))
    clear hb7 HO
    have hnow := pnow_any p N Z (Z - C) w7 Hp7.out (by omega) (by have := HZ.out; omega)
    rw [show N - Z = W from by have := HZ.out; omega] at hnow
    have Hnow := Lib.hid hnow
    clear hnow
    go_wp2_with fail
    refine Hnow.out.mono ?_
    rintro e w8 ⟨rfl, q8, rfl⟩
    have hpk := ppeak_any p N Z (Z - C) (w7.drewN q8) (Hp7.out.drewN q8) (by omega) (by have := HZ.out; omega)
    obtain ⟨K, hK⟩ : ∃ K, K = N - (Z - C) := ⟨_, rfl⟩
    have hKN : ¬ (N : Int) < (K : Int) := by omega
    rw [← hK] at hpk
    have Hpk := Lib.hid hpk
    have Hb8 := Lib.hid (below_drewN' Hb7.out q8)
    have HO8 := Lib.hid (And.intro (HO7.out.1.below (below_drewN' (Below.refl _ _) q8)) (HO7.out.2.below (below_drewN' (Below.refl _ _) q8)))
    have hgt : ¬ (N : Int) - (W : Int) < (C : Int) := by have := HC.out; have := HZ.out; omega
    clear hpk hK HO7
    go_wp2_with fail
    refine Hpk.out.mono ?_
    rintro e w9 ⟨rfl, q9, rfl⟩
    have Hb9 := Lib.hid (below_drewN' Hb8.out q9)
    have HO9 := Lib.hid (And.intro (HO8.out.1.below (below_drewN' (Below.refl _ _) q9)) (HO8.out.2.below (below_drewN' (Below.refl _ _) q9)))
    clear Hb8 HO8
    generalize (w7.drewN q8).drewN q9 = wz at *
    go_wp2_with fail
    refine (rnested_any xa xb ja jb k c k' c' A A' left right wz Hk.out Hk'.out (HA3.out.below Hb9.out) (HA3'.out.below Hb9.out) (HRa3.out.below Hb9.out) (HRb3.out.below Hb9.out) (by omega) (by omega) Hs1.out Hs2.out).mono ?_
    rintro e w10 ⟨O2, oc2, oh2, L2, rfl, hL2, hO2, hOR2, hb10⟩
    obtain rfl : L2 = L := by rw [← hL2, ← HL.out]
    have hs10 := samerows_any (nested xa xb left right) (nested xa xb left right) oh oh2 L2 L2 O O2 oc oc2 w10 hL2 hL2 (HO9.out.1.below hb10) hO2.rd (HO9.out.2.below hb10) hOR2.rows (by omega) (by omega) (fun r hr => Nat.le_trans (hrows.out r hr) (by omega)) (fun r hr => Nat.le_trans (hrows.out r hr) (by omega))
    rw [decide_eq_true rfl] at hs10
    have Hs10 := Lib.hid hs10
    have Hb10 := Lib.hid (Hb9.out.trans (hb10.mono Hb9.out.size))
    clear hs10 hO2 hOR2 hb10 hL2
    go_wp2_with fail
    refine Hs10.out.mono ?_
    rintro e w11 ⟨rfl, q11, rfl⟩
    go_wp2_with fail
    go_ret
    exact ⟨rfl, below_drewN' (Hb03.out.trans (Hb10.out.mono Hb03.out.size)) q11⟩
end Go.Proofs.Ytghaffafglfdlaa
