/- The walk of JoinMerge: it returns true, and turns nothing that was there. -/
import Derived.Test.YtghaffafglfdlaaJoL
import Derived.Test.YtghaffafglfdlaaSoO
import Derived.Test.YtghaffafglfdlaaMeR
import Derived.Test.YtghaffafglfdlaaMeY
namespace Go.Proofs.Ytghaffafglfdlaa
open Go.RowKit

attribute [local go_sem ↓] Go.wp_at_zero Go.wp_at_succ

theorem srt_rows {rs : List RowM} {d : Nat → Hr} {n : Nat} (h : ∀ p, p < n → (d p).2 ∈ rs) : ∀ x ∈ (List.range n).map fun p => (d p).2, x ∈ rs := by
  intro x hx
  obtain ⟨p, hp, rfl⟩ := List.mem_map.1 hx
  exact h p (List.mem_range.1 hp)

set_option maxHeartbeats 8000000 in
set_option maxRecDepth 100000 in
theorem merge_walk (ra rb : List RowM) (ha hb : List Value) (n c n' c' lo ro : Nat) (A A' : Option Addr) (sorted : Bool) (w : World) (hn : ra.length = n) (hn' : rb.length = n') (hnc : n ≤ c) (hc : c ≤ 9223372036854775807) (hnc' : n' ≤ c') (hc' : c' ≤ 9223372036854775807) (hA : Rd w A ha) (hA' : Rd w A' hb) (hRa : Rows w ha ra) (hRb : Rows w hb rb) (hlo : lo < 256) (hro : ro < 256) :
    Calls Try.prog 6 #[.slice A n c, .slice A' n' c', .int .u8 (lo : Int), .int .u8 (ro : Int), .bool sorted] w fun e w' => e = .returned (.bool true) ∧ Below w.heap.size w w' := by
  have Hn := Lib.hid hn
  have Hn' := Lib.hid hn'
  clear hn hn'
  obtain ⟨L, hL, hL5⟩ : ∃ L : Nat, (lo : Int) % 20 = (L : Int) ∧ L < 20 := ⟨lo % 20, by omega, by omega⟩
  obtain ⟨R, hR, hR5⟩ : ∃ R : Nat, (ro : Int) % 20 = (R : Int) ∧ R < 20 := ⟨ro % 20, by omega, by omega⟩
  go_enter Try.func6, Try.ntmps6
  go_wp2_with fail
  refine (shown_any w).mono ?_
  rintro e w1 ⟨rfl, hb1⟩
  have hA1 := hA.below hb1
  have hA1' := hA'.below hb1
  have hRa1 := hRa.below hb1
  have hRb1 := hRb.below hb1
  clear hA hA' hRa hRb
  go_wp2_with fail
  refine (few_c ra ha n c A w1 Hn.out hnc hc hA1 hRa1).mono ?_
  rintro e w2 ⟨⟨k, hkn, hk40, hsm, rfl⟩, hb2⟩
  have hA2 := hA1.below hb2
  have hA2' := hA1'.below hb2
  have hRa2 := hRa1.below hb2
  have hRb2 := hRb1.below hb2
  have hb02 := hb1.trans (hb2.mono hb1.size)
  clear hA1 hA1' hRa1 hRb1 hb1 hb2
  go_wp2_with fail
  refine (few_c rb hb n' c' A' w2 Hn'.out hnc' hc' hA2' hRb2).mono ?_
  rintro e w3 ⟨⟨k', hkn', hk40', hsm', rfl⟩, hb3⟩
  have hA3 : Rd w3 A (ha.take k) := rd_take (hA2.below hb3) k
  have hA3' : Rd w3 A' (hb.take k') := rd_take (hA2'.below hb3) k'
  have hRa3 := (hRa2.below hb3).take k
  have hRb3 := (hRb2.below hb3).take k'
  have hb03 := hb02.trans (hb3.mono hb02.size)
  have hk : (ra.take k).length = k := by rw [List.length_take, Hn.out]; omega
  have hk' : (rb.take k').length = k' := by rw [List.length_take, Hn'.out]; omega
  clear hA2 hA2' hRa2 hRb2 hb02 hb3
  generalize ra.take k = xa at *
  generalize rb.take k' = xb at *
  generalize ha.take k = ja at *
  generalize hb.take k' = jb at *
  have Hs1 : Hid (∀ r ∈ xa, r.length ≤ 1000) := fun r hr => Nat.le_trans (small_len (hsm r hr)) (by omega)
  have Hs2 : Hid (∀ r ∈ xb, r.length ≤ 1000) := fun r hr => Nat.le_trans (small_len (hsm' r hr)) (by omega)
  have Hr1 : Hid (∀ r ∈ xa, ∀ v ∈ r, rightV v = true) := fun r hr => small_right (hsm r hr)
  have Hr2 : Hid (∀ r ∈ xb, ∀ v ∈ r, rightV v = true) := fun r hr => small_right (hsm' r hr)
  have Hk := Lib.hid hk
  have Hk' := Lib.hid hk'
  have HA3 := Lib.hid hA3
  have HA3' := Lib.hid hA3'
  have HRa3 := Lib.hid hRa3
  have HRb3 := Lib.hid hRb3
  have Hb03 := Lib.hid hb03
  have hkc : k ≤ c := by omega
  have hkc' : k' ≤ c' := by omega
  have hL0 : ¬ (L : Int) < 0 := by omega
  have hR0 : ¬ (R : Int) < 0 := by omega
  clear hk hk' hsm hsm' hA3 hA3' hRa3 hRb3 hb03
  cases sorted with
  | false =>
    by_cases hyes : inOrder xa L ∧ inOrder xb R
    · have Hsa := Lib.hid hyes.1
      have Hsb := Lib.hid hyes.2
      clear hyes
      go_wp2_with fail
      have hc6 := merge_yes xa xb ja jb k c k' c' A A' L R w3 Hk.out Hk'.out HA3.out HA3'.out HRa3.out HRb3.out (by omega) (by omega) (by omega) (by omega) (by omega) (by omega) Hr1.out Hr2.out Hs1.out Hs2.out (by omega) (by omega) Hsa.out Hsb.out
      have Hc6 := Lib.hid hc6
      clear hc6
      go_wp2_with fail
      refine Hc6.out.mono ?_
      rintro e w6 ⟨O6, L6, oc6, oh6, rfl, hL6, hO6, hOR6, hb6⟩
      have hsz6 := hb6.size
      have Hb6 := Lib.hid hb6
      have HL6 := Lib.hid hL6
      have HO6 := Lib.hid hO6
      have HOR6 := Lib.hid hOR6
      have hL16 : L6 ≤ 1600 := by
        rw [← hL6]
        exact Nat.le_trans (nested_le xb L R xa) (by rw [Hk.out, Hk'.out]; exact Nat.le_trans (Nat.mul_le_mul hk40 hk40') (by omega))
      clear hL6 hO6 hOR6 hb6 Hc6
      go_wp2_with fail
      refine (merge_neg1 A A' k c k' c' (-1) R w6 (by decide)).mono ?_
      rintro e w7 ⟨rfl, rfl⟩
      go_wp2_with fail
      refine (merge_neg2 A A' k c k' c' L (-1) w6 (by omega) (by decide)).mono ?_
      rintro e w8 ⟨rfl, rfl⟩
      have hbK : Below w6.heap.size w6 (w6.alloc (.cells #[.int .i64 (L : Int), .bool false] 54)) := (Below.refl _ _).alloc (Nat.le_refl _) _
      have hKb := Blk.new w6 54 #[.int .i64 (L : Int), .bool false]
      have hc7 := rsorted_any xa ja k c A w6.heap.size 1 L _ Hk.out ((HA3.out.below Hb6.out).below hbK) ((HRa3.out.below Hb6.out).below hbK) (by omega) (hKb.cell 0) (hKb.cell 1)
      rw [inOrderB_true Hsa.out] at hc7
      have Hc7 := Lib.hid hc7
      have HbK := Lib.hid hbK
      clear hc7 hKb hbK
      go_wp2_with fail
      refine Hc7.out.mono ?_
      rintro e w9 ⟨rfl, hb9⟩
      have hb69 := HbK.out.trans (hb9.mono HbK.out.size)
      have Hb9 := Lib.hid hb69
      have hbK2 : Below w9.heap.size w9 (w9.alloc (.cells #[.int .i64 (R : Int), .bool false] 54)) := (Below.refl _ _).alloc (Nat.le_refl _) _
      have hKb2 := Blk.new w9 54 #[.int .i64 (R : Int), .bool false]
      have hc8 := rsorted_any xb jb k' c' A' w9.heap.size 1 R _ Hk'.out (((HA3'.out.below Hb6.out).below hb69).below hbK2) (((HRb3.out.below Hb6.out).below hb69).below hbK2) (by omega) (hKb2.cell 0) (hKb2.cell 1)
      rw [inOrderB_true Hsb.out] at hc8
      have Hc8 := Lib.hid hc8
      have HbK2 := Lib.hid hbK2
      clear hc8 hKb2 hbK2 hb9 hb69 Hc7 HbK
      go_wp2_with fail
      refine Hc8.out.mono ?_
      rintro e w10 ⟨rfl, hb10⟩
      have hz9 := Hb9.out.size
      have hb610 := Hb9.out.trans ((HbK2.out.trans (hb10.mono HbK2.out.size)).mono hz9)
      have hz10 := hb610.size
      have Hb10 := Lib.hid hb610
      have hc11 := rnested_any xa xb ja jb k c k' c' A A' L R w10 Hk.out Hk'.out ((HA3.out.below Hb6.out).below hb610) ((HA3'.out.below Hb6.out).below hb610) ((HRa3.out.below Hb6.out).below hb610) ((HRb3.out.below Hb6.out).below hb610) (by omega) (by omega) Hs1.out Hs2.out
      have Hc11 := Lib.hid hc11
      clear hc11 hb610 hb10 Hc8 HbK2
      go_wp2_with fail
      refine Hc11.out.mono ?_
      rintro e w11 ⟨O11, oc11, oh11, L11, rfl, hL11, hO11, hOR11, hb11⟩
      obtain rfl : L11 = L6 := by rw [← hL11, ← HL6.out]
      have hb611 := Hb10.out.trans (hb11.mono hz10)
      have hs11 := samerows_any (nested xa xb L R) (nested xa xb L R) oh6 oh11 L11 L11 O6 O11 oc6 oc11 w11 HL6.out HL6.out (HO6.out.rd.below hb611) hO11.rd (HOR6.out.rows.below hb611) hOR11.rows (by omega) (by omega) (fun r hr => Nat.le_trans (nested_rows Hs1.out Hs2.out r hr) (by omega)) (fun r hr => Nat.le_trans (nested_rows Hs1.out Hs2.out r hr) (by omega))
      rw [decide_eq_true rfl] at hs11
      have Hs11 := Lib.hid hs11
      have Hb11 := Lib.hid ((Hb03.out.trans (Hb6.out.mono Hb03.out.size)).trans (hb611.mono (Hb03.out.trans (Hb6.out.mono Hb03.out.size)).size))
      clear hs11 hb611 hO11 hOR11 hb11 hL11 Hc11
      go_wp2_with fail
      refine Hs11.out.mono ?_
      rintro e w12 ⟨rfl, q12, rfl⟩
      go_wp2_with fail
      go_ret
      exact ⟨rfl, below_drewN' Hb11.out q12⟩
    · have hno : inOrderB xa L = false ∨ inOrderB xb R = false := by
        by_cases h1 : inOrder xa L
        · exact .inr (inOrderB_false fun h2 => hyes ⟨h1, h2⟩)
        · exact .inl (inOrderB_false h1)
      have Hno := Lib.hid hno
      clear hyes hno
      go_wp2_with fail
      have hc6 := merge_no xa xb ja jb k c k' c' A A' L R w3 Hk.out Hk'.out HA3.out HA3'.out HRa3.out HRb3.out (by omega) (by omega) (by omega) (by omega) Hno.out
      have Hc6 := Lib.hid hc6
      clear hc6
      go_wp2_with fail
      refine Hc6.out.mono ?_
      rintro e w6 ⟨rfl, hb6⟩
      have Hb6 := Lib.hid hb6
      clear hb6 Hc6
      go_wp2_with fail
      refine (merge_neg1 A A' k c k' c' (-1) R w6 (by decide)).mono ?_
      rintro e w7 ⟨rfl, rfl⟩
      go_wp2_with fail
      refine (merge_neg2 A A' k c k' c' L (-1) w6 (by omega) (by decide)).mono ?_
      rintro e w8 ⟨rfl, rfl⟩
      have hbK : Below w6.heap.size w6 (w6.alloc (.cells #[.int .i64 (L : Int), .bool false] 54)) := (Below.refl _ _).alloc (Nat.le_refl _) _
      have hKb := Blk.new w6 54 #[.int .i64 (L : Int), .bool false]
      have hc7 := rsorted_any xa ja k c A w6.heap.size 1 L _ Hk.out ((HA3.out.below Hb6.out).below hbK) ((HRa3.out.below Hb6.out).below hbK) (by omega) (hKb.cell 0) (hKb.cell 1)
      have HbK := Lib.hid hbK
      clear hKb hbK
      by_cases hsa : inOrderB xa L = false
      · rw [hsa] at hc7
        have Hc7 := Lib.hid hc7
        clear hc7 hsa
        go_wp2_with fail
        refine Hc7.out.mono ?_
        rintro e w9 ⟨rfl, hb9⟩
        have Hb9 := Lib.hid ((Hb03.out.trans (Hb6.out.mono Hb03.out.size)).trans ((HbK.out.trans (hb9.mono HbK.out.size)).mono (Hb03.out.trans (Hb6.out.mono Hb03.out.size)).size))
        clear hb9 Hc7
        go_wp2_with fail
        go_ret
        exact ⟨rfl, Hb9.out⟩
      · have hsa' : inOrderB xa L = true := by simpa using hsa
        have hsb : inOrderB xb R = false := Hno.out.resolve_left hsa
        rw [hsa'] at hc7
        have Hc7 := Lib.hid hc7
        have Hsb := Lib.hid hsb
        clear hc7 hsa hsa' hsb
        go_wp2_with fail
        refine Hc7.out.mono ?_
        rintro e w9 ⟨rfl, hb9⟩
        have hb69 := HbK.out.trans (hb9.mono HbK.out.size)
        have Hb9 := Lib.hid hb69
        have hbK2 : Below w9.heap.size w9 (w9.alloc (.cells #[.int .i64 (R : Int), .bool false] 54)) := (Below.refl _ _).alloc (Nat.le_refl _) _
        have hKb2 := Blk.new w9 54 #[.int .i64 (R : Int), .bool false]
        have hc8 := rsorted_any xb jb k' c' A' w9.heap.size 1 R _ Hk'.out (((HA3'.out.below Hb6.out).below hb69).below hbK2) (((HRb3.out.below Hb6.out).below hb69).below hbK2) (by omega) (hKb2.cell 0) (hKb2.cell 1)
        rw [Hsb.out] at hc8
        have Hc8 := Lib.hid hc8
        have HbK2 := Lib.hid hbK2
        clear hc8 hKb2 hbK2 hb9 hb69 Hc7 HbK Hsb
        go_wp2_with fail
        refine Hc8.out.mono ?_
        rintro e w10 ⟨rfl, hb10⟩
        have hz9 := Hb9.out.size
        have hb610 := Hb9.out.trans ((HbK2.out.trans (hb10.mono HbK2.out.size)).mono hz9)
        have Hb10 := Lib.hid ((Hb03.out.trans (Hb6.out.mono Hb03.out.size)).trans (hb610.mono (Hb03.out.trans (Hb6.out.mono Hb03.out.size)).size))
        clear hb610 hb10 Hc8 HbK2
        go_wp2_with fail
        go_ret
        exact ⟨rfl, Hb10.out⟩
  | true =>
    have hbK : Below w3.heap.size w3 (w3.alloc (.cells #[.int .i64 (L : Int), .bool false] 54)) := (Below.refl _ _).alloc (Nat.le_refl _) _
    have hso := Lib.hid (sort_c xa ja k c A w3.heap.size 1 L _ Hk.out (HA3.out.below hbK) (HRa3.out.below hbK) (by omega) (fun r hr => Nat.le_trans (Hs1.out r hr) (by omega)) (Blk.new w3 54 #[.int .i64 (L : Int), .bool false]))
    have HbK := Lib.hid hbK
    clear hbK
    go_wp2_with fail
    refine hso.out.mono ?_
    rintro e w4 ⟨g, d, rfl, hd4, hm4, hs4, hb4⟩
    have hb34 := HbK.out.trans (hb4.mono HbK.out.size)
    have Hb34 := Lib.hid hb34
    have hbK2 : Below w4.heap.size w4 (w4.alloc (.cells #[.int .i64 (R : Int), .bool false] 54)) := (Below.refl _ _).alloc (Nat.le_refl _) _
    have hso2 := Lib.hid (sort_c xb jb k' c' A' w4.heap.size 1 R _ Hk'.out ((HA3'.out.below hb34).below hbK2) ((HRb3.out.below hb34).below hbK2) (by omega) (fun r hr => Nat.le_trans (Hs2.out r hr) (by omega)) (Blk.new w4 54 #[.int .i64 (R : Int), .bool false]))
    have HbK2 := Lib.hid hbK2
    have Hd4 := Lib.hid hd4
    have Hm4 := Lib.hid (srt_rows hm4)
    have Hs4 := Lib.hid (srt_order hs4)
    clear hbK2 hb34 hd4 hm4 hs4 hb4 hso HbK
    go_wp2_with fail
    refine hso2.out.mono ?_
    rintro e w5 ⟨g2, d2, rfl, hd5, hm5, hs5, hb5⟩
    have hb45 := HbK2.out.trans (hb5.mono HbK2.out.size)
    obtain ⟨hA5, hRa5⟩ := (Hd4.out.below hb45).rows
    obtain ⟨hA5', hRb5⟩ := hd5.rows
    have Hb05 := Lib.hid (Hb03.out.trans ((Hb34.out.trans (hb45.mono Hb34.out.size)).mono Hb03.out.size))
    have hm5' := srt_rows hm5
    have hs5' := srt_order hs5
    have hla : ((List.range k).map fun p => (d p).2).length = k := by rw [List.length_map, List.length_range]
    have hlb : ((List.range k').map fun p => (d2 p).2).length = k' := by rw [List.length_map, List.length_range]
    have hm4' := Hm4.out
    have hs4' := Hs4.out
    clear Hk Hk' HA3 HA3' HRa3 HRb3 Hb03 Hm4 Hs4 Hd4 hb45 hd5 hm5 hs5 hb5 hso2 HbK2 Hb34
    generalize ((List.range k).map fun p => (d p).2) = ya at *
    generalize ((List.range k').map fun p => (d2 p).2) = yb at *
    generalize (tab k fun p => (d p).1) = ka at *
    generalize (tab k' fun p => (d2 p).1) = kb at *
    have Hk := Lib.hid hla
    have Hk' := Lib.hid hlb
    have HA3 := Lib.hid hA5
    have HA3' := Lib.hid hA5'
    have HRa3 := Lib.hid hRa5
    have HRb3 := Lib.hid hRb5
    have Hb03 := Lib.hid Hb05.out
    have Hq1 : Hid (∀ r ∈ ya, r.length ≤ 1000) := fun r hr => Hs1.out r (hm4' r hr)
    have Hq2 : Hid (∀ r ∈ yb, r.length ≤ 1000) := fun r hr => Hs2.out r (hm5' r hr)
    have Hp1 : Hid (∀ r ∈ ya, ∀ v ∈ r, rightV v = true) := fun r hr => Hr1.out r (hm4' r hr)
    have Hp2 : Hid (∀ r ∈ yb, ∀ v ∈ r, rightV v = true) := fun r hr => Hr2.out r (hm5' r hr)
    have Hsa := Lib.hid hs4'
    have Hsb := Lib.hid hs5'
    clear hla hlb hA5 hA5' hRa5 hRb5 Hb05 hm4' hm5' hs4' hs5' Hs1 Hs2 Hr1 Hr2
    have Hs1 := Lib.hid Hq1.out
    have Hs2 := Lib.hid Hq2.out
    have Hr1 := Lib.hid Hp1.out
    have Hr2 := Lib.hid Hp2.out
    clear Hq1 Hq2 Hp1 Hp2
    go_wp2_with fail
    have hc6 := merge_yes ya yb ka kb k k k' k' (some ⟨g, 0, none⟩) (some ⟨g2, 0, none⟩) L R w5 Hk.out Hk'.out HA3.out HA3'.out HRa3.out HRb3.out (by omega) (by omega) (by omega) (by omega) (by omega) (by omega) Hr1.out Hr2.out Hs1.out Hs2.out (by omega) (by omega) Hsa.out Hsb.out
    have Hc6 := Lib.hid hc6
    clear hc6
    go_wp2_with fail
    refine Hc6.out.mono ?_
    rintro e w6 ⟨O6, L6, oc6, oh6, rfl, hL6, hO6, hOR6, hb6⟩
    have hsz6 := hb6.size
    have Hb6 := Lib.hid hb6
    have HL6 := Lib.hid hL6
    have HO6 := Lib.hid hO6
    have HOR6 := Lib.hid hOR6
    have hL16 : L6 ≤ 1600 := by
      rw [← hL6]
      exact Nat.le_trans (nested_le yb L R ya) (by rw [Hk.out, Hk'.out]; exact Nat.le_trans (Nat.mul_le_mul hk40 hk40') (by omega))
    clear hL6 hO6 hOR6 hb6 Hc6
    go_wp2_with fail
    refine (merge_neg1 (some ⟨g, 0, none⟩) (some ⟨g2, 0, none⟩) k k k' k' (-1) R w6 (by decide)).mono ?_
    rintro e w7 ⟨rfl, rfl⟩
    go_wp2_with fail
    refine (merge_neg2 (some ⟨g, 0, none⟩) (some ⟨g2, 0, none⟩) k k k' k' L (-1) w6 (by omega) (by decide)).mono ?_
    rintro e w8 ⟨rfl, rfl⟩
    have hbK : Below w6.heap.size w6 (w6.alloc (.cells #[.int .i64 (L : Int), .bool false] 54)) := (Below.refl _ _).alloc (Nat.le_refl _) _
    have hKb := Blk.new w6 54 #[.int .i64 (L : Int), .bool false]
    have hc7 := rsorted_any ya ka k k (some ⟨g, 0, none⟩) w6.heap.size 1 L _ Hk.out ((HA3.out.below Hb6.out).below hbK) ((HRa3.out.below Hb6.out).below hbK) (by omega) (hKb.cell 0) (hKb.cell 1)
    rw [inOrderB_true Hsa.out] at hc7
    have Hc7 := Lib.hid hc7
    have HbK := Lib.hid hbK
    clear hc7 hKb hbK
    go_wp2_with fail
    refine Hc7.out.mono ?_
    rintro e w9 ⟨rfl, hb9⟩
    have hb69 := HbK.out.trans (hb9.mono HbK.out.size)
    have Hb9 := Lib.hid hb69
    have hbK2 : Below w9.heap.size w9 (w9.alloc (.cells #[.int .i64 (R : Int), .bool false] 54)) := (Below.refl _ _).alloc (Nat.le_refl _) _
    have hKb2 := Blk.new w9 54 #[.int .i64 (R : Int), .bool false]
    have hc8 := rsorted_any yb kb k' k' (some ⟨g2, 0, none⟩) w9.heap.size 1 R _ Hk'.out (((HA3'.out.below Hb6.out).below hb69).below hbK2) (((HRb3.out.below Hb6.out).below hb69).below hbK2) (by omega) (hKb2.cell 0) (hKb2.cell 1)
    rw [inOrderB_true Hsb.out] at hc8
    have Hc8 := Lib.hid hc8
    have HbK2 := Lib.hid hbK2
    clear hc8 hKb2 hbK2 hb9 hb69 Hc7 HbK
    go_wp2_with fail
    refine Hc8.out.mono ?_
    rintro e w10 ⟨rfl, hb10⟩
    have hz9 := Hb9.out.size
    have hb610 := Hb9.out.trans ((HbK2.out.trans (hb10.mono HbK2.out.size)).mono hz9)
    have hz10 := hb610.size
    have Hb10 := Lib.hid hb610
    have hc11 := rnested_any ya yb ka kb k k k' k' (some ⟨g, 0, none⟩) (some ⟨g2, 0, none⟩) L R w10 Hk.out Hk'.out ((HA3.out.below Hb6.out).below hb610) ((HA3'.out.below Hb6.out).below hb610) ((HRa3.out.below Hb6.out).below hb610) ((HRb3.out.below Hb6.out).below hb610) (by omega) (by omega) Hs1.out Hs2.out
    have Hc11 := Lib.hid hc11
    clear hc11 hb610 hb10 Hc8 HbK2
    go_wp2_with fail
    refine Hc11.out.mono ?_
    rintro e w11 ⟨O11, oc11, oh11, L11, rfl, hL11, hO11, hOR11, hb11⟩
    obtain rfl : L11 = L6 := by rw [← hL11, ← HL6.out]
    have hb611 := Hb10.out.trans (hb11.mono hz10)
    have hs11 := samerows_any (nested ya yb L R) (nested ya yb L R) oh6 oh11 L11 L11 O6 O11 oc6 oc11 w11 HL6.out HL6.out (HO6.out.rd.below hb611) hO11.rd (HOR6.out.rows.below hb611) hOR11.rows (by omega) (by omega) (fun r hr => Nat.le_trans (nested_rows Hs1.out Hs2.out r hr) (by omega)) (fun r hr => Nat.le_trans (nested_rows Hs1.out Hs2.out r hr) (by omega))
    rw [decide_eq_true rfl] at hs11
    have Hs11 := Lib.hid hs11
    have Hb11 := Lib.hid ((Hb03.out.trans (Hb6.out.mono Hb03.out.size)).trans (hb611.mono (Hb03.out.trans (Hb6.out.mono Hb03.out.size)).size))
    clear hs11 hb611 hO11 hOR11 hb11 hL11 Hc11
    go_wp2_with fail
    refine Hs11.out.mono ?_
    rintro e w12 ⟨rfl, q12, rfl⟩
    go_wp2_with fail
    go_ret
    exact ⟨rfl, below_drewN' Hb11.out q12⟩
end Go.Proofs.Ytghaffafglfdlaa
