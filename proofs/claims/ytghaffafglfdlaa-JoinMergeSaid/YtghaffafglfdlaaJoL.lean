/- The walk of JoinNested: it returns true, and turns nothing that was there. -/
import Derived.Test.YtghaffafglfdlaaJoH
import Derived.Test.YtghaffafglfdlaaJoR
import Derived.Test.YtghaffafglfdlaaJoF
namespace Go.Proofs.Ytghaffafglfdlaa
open Go.RowKit

attribute [local go_sem ↓] Go.wp_at_zero Go.wp_at_succ

theorem rd_take {w : World} {A : Option Addr} {xs : List Value} (h : Rd w A xs) (n : Nat) : Rd w A (xs.take n) := by
  intro hne
  have hne2 : xs ≠ [] := by
    rintro rfl
    simp at hne
  obtain ⟨b, o, e, hr⟩ := h hne2
  have := Rd.part hr 0 n
  rw [List.drop_zero, Nat.add_zero] at this
  exact ⟨b, o, e, this⟩
/-- Blocks of cells keep their sizes. -/
def Shape (w w' : World) : Prop := ∀ (g : Nat) (cs : Array Value) (t : TypeId), w.heap[g]? = some (.cells cs t (0, 0)) → ∃ cs' : Array Value, w'.heap[g]? = some (.cells cs' t (0, 0)) ∧ cs'.size = cs.size
theorem Shape.refl (w : World) : Shape w w := fun _ cs _ h => ⟨cs, h, rfl⟩
theorem Shape.set {w w' : World} (h : Shape w w') (g i : Nat) (u : Value) : Shape w (w'.setCell ⟨g, i, none⟩ u) := fun k cs t hk => by
  obtain ⟨cs', h1, h2⟩ := h k cs t hk
  by_cases e : k = g
  · subst e
    refine ⟨cs'.set! i u, ?_, by simp [h2]⟩
    simp [World.setCell, Array.getElem?_modify, h1]
  · exact ⟨cs', by rw [heap_setCell_other w' ⟨g, i, none⟩ k u e]; exact h1, h2⟩

/-- A row of the call's own: the cells of its values can be stored into, whatever was stored before. -/
theorem own_there {w w' : World} {B : Nat} {A : Option Addr} {n c : Nat} {xs : List Value} (h : Own w B 30 3 A n c xs) (hs : Shape w w') {q : Nat} (hq : q < n) :
    ∃ g cs, A = some ⟨g, 0, none⟩ ∧ B ≤ g ∧ Blk w' g 30 cs ∧ q * 3 + 1 < cs.length := by
  rcases h.2 with ⟨_, h0⟩ | ⟨g, cap, cur, hv, hg, hh, hnc, hcm, hcs, _⟩
  · omega
  · injection hv with h1 h2 h3
    subst h1
    obtain ⟨cs', e1, e2⟩ := hs g cur _ hh
    refine ⟨g, cs'.toList, rfl, hg, ?_, ?_⟩
    · unfold Blk
      rw [Array.toArray_toList]
      exact e1
    · rw [Array.length_toList, e2, hcs]
      omega
theorem nested_rows {ra rb : List RowM} {l r : Int} (ha : ∀ x ∈ ra, x.length ≤ 1000) (hb : ∀ x ∈ rb, x.length ≤ 1000) : ∀ x ∈ nested ra rb l r, x.length ≤ 2000 := by
  intro z hz
  unfold nested nestRow at hz
  obtain ⟨x, hx, hz⟩ := List.mem_flatMap.1 hz
  obtain ⟨y, hy, rfl⟩ := List.mem_map.1 hz
  have h1 := ha x hx
  have h2 := hb y (List.mem_filter.1 hy).1
  rw [List.length_append]
  omega

set_option maxHeartbeats 4000000 in
set_option maxRecDepth 100000 in
theorem nested_walk (ra rb : List RowM) (ha hb : List Value) (n c n' c' : Nat) (A A' : Option Addr) (left right : Int) (w : World) (hn : ra.length = n) (hn' : rb.length = n') (hnc : n ≤ c) (hc : c ≤ 9223372036854775807) (hnc' : n' ≤ c') (hc' : c' ≤ 9223372036854775807) (hA : Rd w A ha) (hA' : Rd w A' hb) (hRa : Rows w ha ra) (hRb : Rows w hb rb) :
    Calls Try.prog 3 #[.slice A n c, .slice A' n' c', .int .i64 left, .int .i64 right] w fun e w' => e = .returned (.bool true) ∧ Below w.heap.size w w' := by
  have Hn := Lib.hid hn
  have Hn' := Lib.hid hn'
  clear hn hn'
  go_enter Try.func3, Try.ntmps3
  go_wp2_with fail
  refine (shown_any w).mono ?_
  rintro e w1 ⟨rfl, hb1⟩
  have hA1 := hA.below hb1
  have hA1' := hA'.below hb1
  have hRa1 := hRa.below hb1
  have hRb1 := hRb.below hb1
  clear hA hA' hRa hRb
  go_wp2_with fail
  refine (few_c ra ha n c A w1 Hn.out hnc hc hA1 hRa1).mono ?_
  rintro e w2 ⟨⟨k, hkn, hk40, hsm, rfl⟩, hb2⟩
  have hA2 := hA1.below hb2
  have hA2' := hA1'.below hb2
  have hRa2 := hRa1.below hb2
  have hRb2 := hRb1.below hb2
  have hb02 := hb1.trans (hb2.mono hb1.size)
  clear hA1 hA1' hRa1 hRb1 hb1 hb2
  go_wp2_with fail
  refine (few_c rb hb n' c' A' w2 Hn'.out hnc' hc' hA2' hRb2).mono ?_
  rintro e w3 ⟨⟨k', hkn', hk40', hsm', rfl⟩, hb3⟩
  have hA3 : Rd w3 A (ha.take k) := rd_take (hA2.below hb3) k
  have hA3' : Rd w3 A' (hb.take k') := rd_take (hA2'.below hb3) k'
  have hRa3 := (hRa2.below hb3).take k
  have hRb3 := (hRb2.below hb3).take k'
  have hb03 := hb02.trans (hb3.mono hb02.size)
  have hk : (ra.take k).length = k := by rw [List.length_take, Hn.out]; omega
  have hk' : (rb.take k').length = k' := by rw [List.length_take, Hn'.out]; omega
  clear hA2 hA2' hRa2 hRb2 hb02 hb3
  generalize ra.take k = xa at *
  generalize rb.take k' = xb at *
  generalize ha.take k = ja at *
  generalize hb.take k' = jb at *
  have hs1 : ∀ r ∈ xa, r.length ≤ 1000 := fun r hr => Nat.le_trans (small_len (hsm r hr)) (by omega)
  have hs2 : ∀ r ∈ xb, r.length ≤ 1000 := fun r hr => Nat.le_trans (small_len (hsm' r hr)) (by omega)
  have Hk := Lib.hid hk
  have Hk' := Lib.hid hk'
  have Hs1 := Lib.hid hs1
  have Hs2 := Lib.hid hs2
  have HA3 := Lib.hid hA3
  have HA3' := Lib.hid hA3'
  have HRa3 := Lib.hid hRa3
  have HRb3 := Lib.hid hRb3
  have Hb03 := Lib.hid hb03
  have hrows := Lib.hid (nested_rows (l := left) (r := right) hs1 hs2)
  have hcount : (nested xa xb left right).length ≤ 1600 := Nat.le_trans (nested_le xb left right xa) (by rw [hk, hk']; exact Nat.le_trans (Nat.mul_le_mul hk40 hk40') (by omega))
  have Hcount := Lib.hid hcount
  clear hk hk' hsm hsm' hs1 hs2 hA3 hA3' hRa3 hRb3 hb03 hcount
  go_wp2_with fail
  refine (rnested_any xa xb ja jb k c k' c' A A' left right w3 Hk.out Hk'.out HA3.out HA3'.out HRa3.out HRb3.out (by omega) (by omega) Hs1.out Hs2.out).mono ?_
  rintro e w4 ⟨O4, oc4, oh4, L, rfl, hL4, hO4, hOR4, hb4⟩
  have Hb04 := Lib.hid (Hb03.out.trans (hb4.mono Hb03.out.size))
  have Hr4 := Lib.hid (And.intro hO4.rd hOR4.rows)
  have Hb4 := Lib.hid hb4
  have HL := Lib.hid hL4
  have hL16 : L ≤ 1600 := by rw [← hL4]; exact Hcount.out
  clear hO4 hOR4 hb4 hL4
  go_wp2_with fail
  refine (nested_any xa xb ja jb k c k' c' A A' left right w4 Hk.out Hk'.out (HA3.out.below Hb4.out) (HA3'.out.below Hb4.out) (HRa3.out.below Hb4.out) (HRb3.out.below Hb4.out) (by omega) (by omega) Hs1.out Hs2.out).mono ?_
  rintro e w5 ⟨O5, oc5, oh5, L5, rfl, hL5, hO5, hOR5, hb5⟩
  obtain rfl : L5 = L := by rw [← hL5, ← HL.out]
  have Hb5 := Lib.hid hb5
  have HO5 := Lib.hid hO5
  have HOR5 := Lib.hid hOR5
  have hs5 := samerows_any (nested xa xb left right) (nested xa xb left right) oh5 oh4 L5 L5 O5 O4 oc5 oc4 w5 hL5 hL5 hO5.rd (Hr4.out.1.below hb5) hOR5.rows (Hr4.out.2.below hb5) (by omega) (by omega) (fun r hr => Nat.le_trans (hrows.out r hr) (by omega)) (fun r hr => Nat.le_trans (hrows.out r hr) (by omega))
  rw [decide_eq_true rfl] at hs5
  have Hs5 := Lib.hid hs5
  clear hO5 hOR5 hb5 hL5 hs5
  go_wp2_with fail
  refine Hs5.out.mono ?_
  rintro e w6 ⟨rfl, q6, rfl⟩
  have Hk56 : Hid (Keeps [30] w4.heap.size w5 (w5.drewN q6)) := (Keeps.refl _ _ _).drewN q6
  have Hsh6 : Hid (Shape w5 (w5.drewN q6)) := Shape.refl w5
  clear Hs5
  generalize w5.drewN q6 = w6 at *
  go_wp2_with fail
  go_loopw [37] (fun i wr => ∃ j : Nat, j ≤ L5 ∧ i = .int .i64 j ∧ Hid (Keeps [30] w4.heap.size w5 wr) ∧ Hid (Shape w5 wr)) (fun i _ => L5 - (intOf i).toNat)
  case atStart => exact ⟨0, by omega, rfl, Hk56, Hsh6⟩
  case round =>
    obtain ⟨j, hj, rfl, hkp, hsh⟩ := hrel
    by_cases hlt : j < L5
    · have hjl : j < (nested xa xb left right).length := by rw [HL.out]; exact hlt
      obtain ⟨E, d, hh1, hrow, _⟩ := HOR5.out.at_ j _ (List.getElem?_eq_getElem hjl)
      have hxl := hrows.out _ (List.getElem_mem hjl)
      obtain ⟨b, o, rfl, hh⟩ := (Own.keeps HO5.out (by decide) hkp.out).rd (fun e => by rw [e] at hh1; simp at hh1)
      have c0 := hh j _ hh1
      have Hrow := Lib.hid hrow
      have Hjs := Lib.hid (fun (w' : World) (hk' : Keeps [30] w4.heap.size w5 w') => ((Own.keeps HO5.out (by decide) hk').rd (fun e => by rw [e] at hh1; simp at hh1)))
      have Hh1 := Lib.hid hh1
      clear hh hh1 hrow
      generalize (nested xa xb left right)[j] = x at *
      generalize hx : x.length = xl at *
      go_wp2_with fail
      go_loopw [45] (fun i wr => ∃ q : Nat, q ≤ xl ∧ i = .int .i64 q ∧ Hid (Keeps [30] w4.heap.size w5 wr) ∧ Hid (Shape w5 wr)) (fun i _ => xl - (intOf i).toNat)
      case atStart => exact ⟨0, by omega, rfl, hkp, hsh⟩
      case round =>
        clear hkp hsh c0
        obtain ⟨q, hq, rfl, hkp, hsh⟩ := hrel
        by_cases hlq : q < xl
        · obtain ⟨g, cs, rfl, hg, hblk, hlen⟩ := own_there Hrow.out hsh.out hlq
          obtain ⟨b2, o2, he, hh⟩ := Hjs.out wr hkp.out
          cases he
          have c0 := hh j _ Hh1.out
          have hcell := hblk.cell (q * 3 + 1)
          rw [List.getElem?_eq_getElem hlen] at hcell
          have hfz := hblk.frozen (q * 3 + 1)
          generalize cs[q * 3 + 1] = u at *
          have Hkp2 : Hid (Keeps [30] w4.heap.size w5 (wr.setCell ⟨g, q * 3 + 1, none⟩ (.int .i64 (-77)))) := hkp.out.setCell hblk (by simp) hg _
          have Hsh2 : Hid (Shape w5 (wr.setCell ⟨g, q * 3 + 1, none⟩ (.int .i64 (-77)))) := hsh.out.set _ _ _
          clear hblk hlen hh hkp hsh
          go_wp2_with fail
          go_roundw
          case rel => exact ⟨q + 1, by omega, by go_num, Hkp2, Hsh2⟩
          case measure => simp [intOf]; omega
        · obtain rfl : q = xl := by omega
          go_wp2_with fail
          go_roundw
          case rel => exact ⟨j + 1, by omega, by go_num, hkp, hsh⟩
          case measure => simp [intOf]; omega
    · obtain rfl : j = L5 := by omega
      have h4r : Below w4.heap.size w4 wr := Hb5.out.trans (hkp.out.below Hb5.out.size)
      have Har := Lib.hid ((HA3.out.below Hb4.out).below h4r)
      have Har' := Lib.hid ((HA3'.out.below Hb4.out).below h4r)
      have HRar := Lib.hid ((HRa3.out.below Hb4.out).below h4r)
      have HRbr := Lib.hid ((HRb3.out.below Hb4.out).below h4r)
      have Hwr := Lib.hid (Hr4.out.1.below h4r)
      have HwR := Lib.hid (Hr4.out.2.below h4r)
      have H0r := Lib.hid (Hb04.out.trans (h4r.mono Hb04.out.size))
      clear hkp hsh h4r HA3 HA3' HRa3 HRb3 Hr4 Hb04 Hb03 Hb4 Hb5
      obtain ⟨wz, rfl⟩ : ∃ z : World, z = wr := ⟨_, rfl⟩
      go_wp2_with fail
      refine (nested_any xa xb ja jb k c k' c' A A' left right wz Hk.out Hk'.out Har.out Har'.out HRar.out HRbr.out (by omega) (by omega) Hs1.out Hs2.out).mono ?_
      rintro e w7 ⟨O7, oc7, oh7, L7, rfl, hL7, hO7, hOR7, hb7⟩
      obtain rfl : L7 = j := by rw [← hL7, ← HL.out]
      have hs7 := samerows_any (nested xa xb left right) (nested xa xb left right) oh7 oh4 L7 L7 O7 O4 oc7 oc4 w7 hL7 hL7 hO7.rd (Hwr.out.below hb7) hOR7.rows (HwR.out.below hb7) (by omega) (by omega) (fun r hr => Nat.le_trans (hrows.out r hr) (by omega)) (fun r hr => Nat.le_trans (hrows.out r hr) (by omega))
      rw [decide_eq_true rfl] at hs7
      have Hs7 := Lib.hid hs7
      have Hb7 := Lib.hid hb7
      clear hO7 hOR7 hb7 hL7 hs7
      go_wp2_with fail
      refine Hs7.out.mono ?_
      rintro e w8 ⟨rfl, q8, rfl⟩
      have h8 : Below wz.heap.size wz (w7.drewN q8) := below_drewN' Hb7.out q8
      have Har8 := Lib.hid (Har.out.below h8)
      have Har8' := Lib.hid (Har'.out.below h8)
      have HRar8 := Lib.hid (HRar.out.below h8)
      have HRbr8 := Lib.hid (HRbr.out.below h8)
      have Hwr8 := Lib.hid (Hwr.out.below h8)
      have HwR8 := Lib.hid (HwR.out.below h8)
      have H08 := Lib.hid (H0r.out.trans (h8.mono H0r.out.size))
      clear Har Har' HRar HRbr Hwr HwR H0r h8 Hs7 Hb7
      generalize w7.drewN q8 = w8 at *
      go_wp2_with fail
      refine (rnested_any xa xb ja jb k c k' c' A A' left right w8 Hk.out Hk'.out Har8.out Har8'.out HRar8.out HRbr8.out (by omega) (by omega) Hs1.out Hs2.out).mono ?_
      rintro e w9 ⟨O9, oc9, oh9, L9, rfl, hL9, hO9, hOR9, hb9⟩
      obtain rfl : L9 = L7 := by rw [← hL9, ← HL.out]
      have hs9 := samerows_any (nested xa xb left right) (nested xa xb left right) oh9 oh4 L9 L9 O9 O4 oc9 oc4 w9 hL9 hL9 hO9.rd (Hwr8.out.below hb9) hOR9.rows (HwR8.out.below hb9) (by omega) (by omega) (fun r hr => Nat.le_trans (hrows.out r hr) (by omega)) (fun r hr => Nat.le_trans (hrows.out r hr) (by omega))
      rw [decide_eq_true rfl] at hs9
      have Hs9 := Lib.hid hs9
      have H09 := Lib.hid (H08.out.trans (hb9.mono H08.out.size))
      clear hO9 hOR9 hb9 hL9 hs9
      go_wp2_with fail
      refine Hs9.out.mono ?_
      rintro e w10 ⟨rfl, q10, rfl⟩
      go_wp2_with fail
      go_ret
      exact ⟨rfl, below_drewN' H09.out q10⟩
end Go.Proofs.Ytghaffafglfdlaa
