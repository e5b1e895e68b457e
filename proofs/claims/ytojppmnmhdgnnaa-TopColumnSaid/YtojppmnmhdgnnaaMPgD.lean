/- Bytes got from pages, as plain functions; the contracts of Read, Raw, Flip and Write; the walk of Get. The walk of Get of package pages, and its contract. What was put onto pages is got; what was turned on a page is told. Plain laws, with no program in sight. -/
import Derived.Test.YtojppmnmhdgnnaaMPgC
import Derived.Test.YtojppmnmhdgnnaaMCrEB
namespace Go.Proofs.Ytojppmnmhdgnnaa
set_option linter.unusedVariables false
set_option linter.unusedSimpArgs false
open Go.RowKit
namespace Pg
def okPage (i : Int) (l : List UInt8) : Bool := page i.toNat (l.take 56) == l
def readE (s : St) (i : Int) : Int := match at_ s i with | none => 2 | some l => if okPage i l = true then 0 else 6
def readB (s : St) (i : Int) : List UInt8 := match at_ s i with | none => [] | some l => if okPage i l = true then l.take 56 else []
def rawE (s : St) (i : Int) : Int := match at_ s i with | none => 2 | some _ => 0
def rawB (s : St) (i : Int) : List UInt8 := match at_ s i with | none => [] | some l => l
def flipS (s : St) (i j : Int) (m : UInt8) : St := match at_ s i with | none => s | some l => if 0 ≤ j ∧ j < 64 then s.set i.toNat (some (flip l j.toNat m)) else s
def writeE (s : St) (i : Int) (b : List UInt8) : Int := match at_ s i with | none => 2 | some _ => if 56 < b.length then 3 else 0
def writeS (s : St) (i : Int) (b : List UInt8) : St := match at_ s i with | none => s | some _ => if 56 < b.length then s else s.set i.toNat (some (page i.toNat b))
def getsE (s : St) : List Int → Int
  | [] => 0
  | i :: l => if readE s i = 0 then getsE s l else readE s i
def getsB (s : St) (l : List Int) : List UInt8 := l.flatMap (readB s)
def needI (n : Int) : Int := if n < 1 then 0 else (n - 1) / 56 + 1
def getE (s : St) (l : List Int) (n : Int) : Int :=
  if n < 0 ∨ (l.length : Int) ≠ needI n then 1 else if getsE s l ≠ 0 then getsE s l else if ((getsB s l).drop n.toNat).any (· != 0) then 6 else 0
def getB (s : St) (l : List Int) (n : Int) : List UInt8 := if getE s l n = 0 then (getsB s l).take n.toNat else []

theorem getsE_take {s : St} {l : List Int} {k : Nat} (h : k < l.length) (h0 : getsE s (l.take k) = 0) (hr : readE s l[k] ≠ 0) : getsE s l = readE s l[k] := by
  induction l generalizing k with
  | nil => simp at h
  | cons i l ih =>
    cases k with
    | zero => simp only [List.getElem_cons_zero] at hr ⊢; rw [getsE, if_neg hr]
    | succ k =>
      rw [List.take_succ_cons, getsE] at h0
      simp only [List.getElem_cons_succ] at hr ⊢
      by_cases hi : readE s i = 0
      · rw [if_pos hi] at h0
        rw [getsE, if_pos hi]
        exact ih (by simpa using h) h0 hr
      · rw [if_neg hi] at h0
        exact absurd h0 hi
theorem getsE_snoc {s : St} : ∀ {l : List Int} {i : Int}, getsE s l = 0 → readE s i = 0 → getsE s (l ++ [i]) = 0
  | [], i, _, h => by simp [getsE, h]
  | j :: l, i, h0, h => by
    rw [getsE] at h0
    by_cases hj : readE s j = 0
    · rw [if_pos hj] at h0
      rw [List.cons_append, getsE, if_pos hj]
      exact getsE_snoc h0 h
    · rw [if_neg hj] at h0
      exact absurd h0 hj
theorem getsB_snoc (s : St) (l : List Int) (i : Int) : getsB s (l ++ [i]) = getsB s l ++ readB s i := by simp [getsB]
theorem readB_len {s : St} (hs : ∀ (k : Nat) (l : List UInt8), s[k]? = some (some l) → l.length = 64) {i : Int} (h : readE s i = 0) : (readB s i).length = 56 := by
  unfold readE readB at *
  cases e : at_ s i with
  | none => rw [e] at h; simp at h
  | some l =>
    rw [e] at h
    have hl := hs _ _ (at_some e).2.2
    by_cases ho : okPage i l = true
    · simp only [ho, if_true, List.length_take, hl]
      omega
    · simp only [ho, if_false] at h
      simp at h
theorem needI_nat (n : Nat) : needI (n : Int) = (need n : Nat) := by
  unfold needI need
  split <;> split <;> omega
theorem need_ge (n : Nat) : n ≤ 56 * need n := by unfold need; split <;> omega
end Pg

theorem sto_64 {w : World} {B bs : Nat} {s : Pg.St} (h : Sto w B bs s) : ∀ (k : Nat) (l : List UInt8), s[k]? = some (some l) → l.length = 64 := fun k l hk => by
  obtain ⟨bp, qs, h⟩ := h
  obtain ⟨g, _, _, _, hl⟩ := h.some_ k l hk
  exact hl

theorem read_c (B bs : Nat) (s : Pg.St) (i : Int) (w : World) (h : Sto w B bs s) (h1 : -9223372036854775808 ≤ i) (h2 : i ≤ 9223372036854775807) :
    Calls Try.prog 34 #[.pointer (some ⟨bs, 0, none⟩), .int .i64 i] w fun e w' => ∃ A c, e = .returned (.tuple #[.slice A (Pg.readB s i).length c, .int .i64 (Pg.readE s i)]) ∧ Own w' w.heap.size 5 1 A (Pg.readB s i).length c (Bs (Pg.readB s i)) ∧ Below w.heap.size w w' := by
  have h64 := sto_64 h
  obtain ⟨bp, qs, h⟩ := h
  unfold Pg.readB Pg.readE
  cases e : Pg.at_ s i with
  | none =>
    refine (read_no B bs bp qs s _ i w h h1 h2 e).mono ?_
    rintro _ w' ⟨rfl, rfl⟩
    exact ⟨none, 0, rfl, Own.nil _ _ _ _, Below.refl _ _⟩
  | some l =>
    have hl := h64 _ _ (Pg.at_some e).2.2
    by_cases ho : Pg.okPage i l = true
    · simp only [ho, if_true]
      have h56 : (l.take 56).length = 56 := by rw [List.length_take, hl]; rfl
      rw [h56]
      exact read_yes B bs bp qs s _ i l w h h1 h2 e (by simpa [Pg.okPage] using ho)
    · simp only [ho, if_false]
      refine (read_bad B bs bp qs s _ i l w h h1 h2 e (by simpa [Pg.okPage] using ho)).mono ?_
      rintro _ w' ⟨rfl, hb⟩
      exact ⟨none, 0, rfl, Own.nil _ _ _ _, hb⟩

theorem flip_c (B bs : Nat) (s : Pg.St) (i j : Int) (m : UInt8) (w : World) (h : Sto w B bs s) (h1 : -9223372036854775808 ≤ i) (h2 : i ≤ 9223372036854775807) :
    Calls Try.prog 15 #[.pointer (some ⟨bs, 0, none⟩), .int .i64 i, .int .i64 j, .int .u8 (m.toNat : Int)] w fun e w' => e = .returned (.tuple #[]) ∧ Sto w' B bs (Pg.flipS s i j m) ∧ Keeps StT B w w' := by
  obtain ⟨bp, qs, h⟩ := h
  unfold Pg.flipS
  cases e : Pg.at_ s i with
  | none =>
    refine (flip_no B bs bp qs s _ i j m w h h1 h2 (.inl e)).mono ?_
    rintro _ w' ⟨rfl, rfl⟩
    exact ⟨rfl, ⟨bp, qs, h⟩, Keeps.refl _ _ _⟩
  | some l =>
    by_cases hj : 0 ≤ j ∧ j < 64
    · simp only [hj, and_self, if_true]
      obtain ⟨k, rfl⟩ := Int.eq_ofNat_of_zero_le hj.1
      refine (flip_yes B bs bp qs s _ i l k m w h h1 h2 e (by omega)).mono ?_
      rintro _ w' ⟨rfl, hs, hk⟩
      refine ⟨rfl, ⟨bp, qs, ?_⟩, hk⟩
      rw [Pg.used_same (Pg.at_some e).2.2]
      exact hs
    · simp only [hj, if_false]
      refine (flip_no B bs bp qs s _ i j m w h h1 h2 (.inr (by omega))).mono ?_
      rintro _ w' ⟨rfl, rfl⟩
      exact ⟨rfl, ⟨bp, qs, h⟩, Keeps.refl _ _ _⟩

theorem write_c (B bs : Nat) (s : Pg.St) (i : Int) (A : Option Addr) (b : List UInt8) (n c : Nat) (w : World) (h : Sto w B bs s) (h1 : -9223372036854775808 ≤ i) (h2 : i ≤ 9223372036854775807) (hn : b.length = n) (hr : Rd w A (Bs b)) (hB : B ≤ w.heap.size) :
    Calls Try.prog 33 #[.pointer (some ⟨bs, 0, none⟩), .int .i64 i, .slice A n c] w fun e w' => e = .returned (.int .i64 (Pg.writeE s i b)) ∧ Sto w' B bs (Pg.writeS s i b) ∧ Keeps StT B w w' := by
  obtain ⟨bp, qs, h⟩ := h
  subst hn
  unfold Pg.writeE Pg.writeS
  cases e : Pg.at_ s i with
  | none =>
    refine (write_no B bs bp qs s _ i A _ c w h h1 h2 e).mono ?_
    rintro _ w' ⟨rfl, rfl⟩
    exact ⟨rfl, ⟨bp, qs, h⟩, Keeps.refl _ _ _⟩
  | some l =>
    by_cases hl : 56 < b.length
    · simp only [hl, if_true]
      refine (write_long B bs bp qs s _ i l A _ c w h h1 h2 e hl).mono ?_
      rintro _ w' ⟨rfl, rfl⟩
      exact ⟨rfl, ⟨bp, qs, h⟩, Keeps.refl _ _ _⟩
    · simp only [hl, if_false]
      refine (write_yes B bs bp qs s _ i l A b _ c w h h1 h2 e rfl hr (by omega) hB).mono ?_
      rintro _ w' ⟨rfl, ⟨qs', hs⟩, hk⟩
      refine ⟨rfl, ⟨bp, qs', ?_⟩, hk⟩
      rw [Pg.used_same (Pg.at_some e).2.2]
      exact hs

/-- Is a byte not 0? -/
theorem nz_any (c : UInt8) (w : World) : Calls Try.prog 36 #[.int .u8 (c.toNat : Int)] w fun e w' => e = .returned (.bool (c != 0)) ∧ w = w' := by
  have hc : Hid (((c.toNat : Int) != 0) = (c != 0)) := by
    show _ = _
    by_cases h : c = 0
    · subst h; rfl
    · have h1 : (c != 0) = true := by simpa using h
      rw [h1, bne_iff_ne]
      intro h2
      exact h (UInt8.toNat_inj.1 (by simpa using h2))
  go_enter Try.func36, Try.ntmps36
  go_wp2
  go_ret
  exact ⟨by rw [← hc.out]; rfl, rfl⟩

set_option maxRecDepth 100000 in
theorem contains_any (A : Option Addr) (l : List UInt8) (n c : Nat) (w : World) (hn : l.length = n) (hl : n ≤ 9223372036854775807) (hr : Rd w A (Bs l)) :
    Calls Try.prog 35 #[.slice A n c, .func (.func 36) #[] #[]] w fun e w' => e = .returned (.bool (l.any (· != 0))) ∧ w = w' := by
  have hll := Lib.hid hn
  clear hn
  have key : Calls Try.prog 62 #[.slice A n c, .func (.func 36) #[] #[]] w fun e w' => (∃ k : Int, e = .returned (.int .i64 k) ∧ Hid ((decide (0 ≤ k)) = l.any (· != 0))) ∧ w = w' := by
    go_enter Try.func62, Try.ntmps62
    go_wp2_with fail
    go_loop [8] (fun i => ∃ k : Nat, k ≤ n ∧ i = .int .i64 k ∧ Hid ((l.take k).any (· != 0) = false)) (fun i => n - (intOf i).toNat)
    case atStart => exact ⟨0, by omega, rfl, rfl⟩
    case round =>
      obtain ⟨k, hk, rfl, hno⟩ := hrel
      by_cases hlt : k < n
      · obtain ⟨b, o, rfl, hb, hrr, hc⟩ := hr.get (k := k) (by rw [List.length_map, hll.out]; exact hlt)
        clear hr hrr
        rw [List.getElem_map] at hc
        unfold B at hc
        have htk := Lib.hid (List.take_succ_eq_append_getElem (l := l) (i := k) (by rw [hll.out]; exact hlt))
        have hmem := Lib.hid (List.getElem_mem (l := l) (n := k) (by rw [hll.out]; exact hlt))
        generalize l[k]'(by rw [hll.out]; exact hlt) = x at *
        cases hx : (x != 0) with
        | false =>
          have Hx := Lib.hid hx
          clear hx
          go_wp2_with fail
          refine (nz_any x w).mono ?_
          rw [Hx.out]
          rintro e w' ⟨rfl, rfl⟩
          go_wp2_with fail
          go_round
          case rel => exact ⟨k + 1, by omega, by go_num, by show _ = _; rw [htk.out, List.any_append, hno.out]; simp [Hx.out]⟩
          case measure => simp [intOf]; omega
        | true =>
          have hany : Hid (l.any (· != 0) = true) := by show _ = _; rw [List.any_eq_true]; exact ⟨x, hmem.out, hx⟩
          have Hx := Lib.hid hx
          clear hx
          go_wp2_with fail
          refine (nz_any x w).mono ?_
          rw [Hx.out]
          rintro e w' ⟨rfl, rfl⟩
          go_wp2_with fail
          go_ret
          exact ⟨⟨(k : Int), rfl, by show _ = _; rw [hany.out]; simp⟩, rfl⟩
      · obtain rfl : k = n := by omega
        have hany : Hid (l.any (· != 0) = false) := by
          have := hno.out
          rwa [List.take_of_length_le (by rw [hll.out]; exact Nat.le_refl _)] at this
        go_wp2_with fail
        go_ret
        exact ⟨⟨-1, rfl, by show _ = _; rw [hany.out]; rfl⟩, rfl⟩
  have Hkey := Lib.hid key
  clear key
  go_enter Try.func35, Try.ntmps35
  go_wp2_with fail
  refine Hkey.out.mono ?_
  rintro e w' ⟨⟨k, rfl, hk⟩, rfl⟩
  go_wp2_with fail
  go_ret
  exact ⟨by rw [← hk.out]; rfl, rfl⟩
end Go.Proofs.Ytojppmnmhdgnnaa
namespace Go.Proofs.Ytojppmnmhdgnnaa
set_option linter.unusedVariables false
set_option linter.unusedSimpArgs false
open Go.RowKit

theorem get_neg (bs m c : Nat) (A : Option Addr) (n : Int) (w : World) (h1 : -9223372036854775808 ≤ n) (h : n < 0) :
    Calls Try.prog 13 #[.pointer (some ⟨bs, 0, none⟩), .slice A m c, .int .i64 n] w fun e w' => e = .returned (.tuple #[.slice none 0 0, .int .i64 1]) ∧ w = w' := by
  go_enter Try.func13, Try.ntmps13
  go_wp2_with fail
  go_ret2
  exact ⟨rfl, rfl⟩

theorem get_arg (bs m c : Nat) (A : Option Addr) (n : Nat) (w : World) (h1 : n ≤ 9223372036854775807) (h : m ≠ Pg.need n) (hm : m ≤ 1099511627776) :
    Calls Try.prog 13 #[.pointer (some ⟨bs, 0, none⟩), .slice A m c, .int .i64 (n : Int)] w fun e w' => e = .returned (.tuple #[.slice none 0 0, .int .i64 1]) ∧ w = w' := by
  have hne : ((m : Int) != (Pg.need n : Int)) = true := by rw [bne_iff_ne]; omega
  have hne' : ((Pg.need n : Int) != (m : Int)) = true := by rw [bne_iff_ne]; omega
  go_enter Try.func13, Try.ntmps13
  go_wp2_with fail
  refine (need_any n w h1).mono ?_
  rintro e w' ⟨rfl, rfl⟩
  go_wp2_with fail
  go_ret2
  exact ⟨rfl, rfl⟩

set_option maxHeartbeats 1000000 in
set_option maxRecDepth 100000 in
theorem get_yes (B bs : Nat) (s : Pg.St) (A : Option Addr) (l : List Int) (m c n : Nat) (w : World) (h : Sto w B bs s) (hl : l.length = m) (hm : m ≤ 1099511627776) (hr : Rd w A (Js l)) (hw : ∀ i ∈ l, -9223372036854775808 ≤ i ∧ i ≤ 9223372036854775807) (hn : m = Pg.need n) :
    Calls Try.prog 13 #[.pointer (some ⟨bs, 0, none⟩), .slice A m c, .int .i64 (n : Int)] w fun e w' => ∃ A', e = .returned (.tuple #[.slice A' (Pg.getB s l n).length (Pg.getB s l n).length, .int .i64 (Pg.getE s l n)]) ∧ Rd w' A' (Bs (Pg.getB s l n)) ∧ Below w.heap.size w w' := by
  have hge := Pg.need_ge n
  have hni := Lib.hid (Pg.needI_nat n)
  have h64 := Lib.hid (sto_64 h)
  rw [← hn] at hge
  have hll := Lib.hid hl
  have Hw := Lib.hid hw
  have Hn := Lib.hid hn
  clear hl hw hn
  have h1 : n ≤ 9223372036854775807 := by omega
  have heq : ((m : Int) != (Pg.need n : Int)) = false := by rw [bne_eq_false_iff_eq, Hn.out]
  go_enter Try.func13, Try.ntmps13
  go_wp2_with fail
  refine (need_any n w h1).mono ?_
  rintro e w' ⟨rfl, rfl⟩
  go_wp2_with fail
  go_loopw [8, 28] (fun v i wr => ∃ (k N rc : Nat) (R : Option Addr), k ≤ m ∧ Hid (56 * k = N) ∧ i = .int .i64 k ∧ v = .slice R N rc ∧ Own wr w.heap.size 5 1 R N rc (Bs (Pg.getsB s (l.take k))) ∧ Hid ((Pg.getsB s (l.take k)).length = N) ∧ Hid (Pg.getsE s (l.take k) = 0) ∧ Below w.heap.size w wr) (fun _ i _ => m - (intOf i).toNat)
  case atStart => exact ⟨0, 0, 0, none, by omega, rfl, rfl, rfl, Own.nil _ _ _ _, rfl, rfl, Below.refl _ _⟩
  case round =>
    obtain ⟨k, N, rc, R, hk, hN, rfl, rfl, ho, hlen, he0, hb⟩ := hrel
    have hR := hr.below hb
    have hst := h.below hb
    have hz := hb.size
    by_cases hlt : k < m
    · obtain ⟨ga, oa, rfl, hga, _, hca⟩ := hR.get (k := k) (by rw [List.length_map, hll.out]; exact hlt)
      rw [List.getElem_map] at hca
      have hkl : k < l.length := by rw [hll.out]; exact hlt
      have htk := Lib.hid (List.take_succ_eq_append_getElem (l := l) (i := k) hkl)
      have hbd := Hw.out _ (List.getElem_mem hkl)
      have htake := Lib.hid (fun hne => Pg.getsE_take (s := s) hkl he0.out hne)
      have hsn := Lib.hid (fun (h0 : Pg.readE s l[k] = 0) => Pg.getsE_snoc (s := s) (i := l[k]) he0.out h0)
      generalize l[k] = id at *
      have h56 := Lib.hid (fun h0 => Pg.readB_len (s := s) (i := id) h64.out h0)
      clear hr hR hkl
      go_wp2_with fail
      refine (read_c B bs s id wr hst hbd.1 hbd.2).mono ?_
      rintro e w2 ⟨A2, c2, rfl, ho2, hb2⟩
      by_cases h0 : Pg.readE s id = 0
      · have hl56 := h56.out h0
        have H0 := Lib.hid h0
        rw [h0]
        have ho' := ho.below hb2
        have hb02 := hb.trans (hb2.mono hz)
        have hz2 := hb02.size
        rw [hl56]
        go_wp2_with (first | (at_builtin; refine hold ?_) | (at_make; refine hold ?_))
        (with_reducible refine unhold ?_)
        refine wpList_apd rfl _ _ _ rfl E8 w.heap.size R N rc (Bs (Pg.getsB s (l.take k))) rfl ho' A2 56 c2 (Bs (Pg.readB s id)) rfl (by rw [List.length_map, hl56]) ho2.rd (Bs_one _) (N + 56) rfl (Bs (Pg.getsB s (l.take (k + 1)))) (by rw [htk.out, Pg.getsB_snoc]; exact (List.map_append ..).symm) (by have := hN.out; omega) (by have := hN.out; omega) hz2 ?_
        intro A3 c3 w3 ho3 hg3 hat3
        have hb03 : Below w.heap.size w w3 := hb02.grown hg3 hz2 ho'.row_ge
        go_wp2_with fail
        go_roundw
        case rel =>
          refine ⟨k + 1, N + 56, c3, A3, by omega, ?_, by go_num, rfl, ho3, ?_, ?_, hb03⟩
          · show _ = _
            have := hN.out
            omega
          · show _ = _
            rw [htk.out, Pg.getsB_snoc, List.length_append, hl56, hlen.out]
          · show _ = _
            rw [htk.out]
            exact hsn.out h0
        case measure => simp [intOf]; omega
      · have hEs := htake.out h0
        have hE : Hid (Pg.getE s l n = Pg.readE s id) := by
          show _ = _
          unfold Pg.getE
          rw [if_neg, hEs, if_pos h0]
          rw [hni.out, hll.out, Hn.out]
          omega
        have hB' : Hid (Pg.getB s l n = []) := by show _ = _; unfold Pg.getB; rw [hE.out, if_neg h0]
        have hne : (Pg.readE s id != 0) = true := by rw [bne_iff_ne]; exact h0
        have hb02 := hb.trans (hb2.mono hz)
        generalize Pg.readE s id = E at *
        go_wp2_with fail
        go_ret2
        rw [hE.out, hB'.out]
        exact ⟨none, rfl, Rd.nil _ _, hb02⟩
    · obtain rfl : k = m := by omega
      have htk : l.take k = l := List.take_of_length_le (by rw [hll.out]; exact Nat.le_refl _)
      rw [htk] at ho hlen he0
      have hnN : n ≤ N := by have := hN.out; omega
      have hnot : ¬ ((n : Int) < 0 ∨ (l.length : Int) ≠ Pg.needI n) := by rw [hni.out, hll.out, Hn.out]; omega
      have hE : Hid (Pg.getE s l n = if ((Pg.getsB s l).drop n).any (· != 0) = true then 6 else 0) := by
        show _ = _
        unfold Pg.getE
        rw [if_neg hnot, if_neg (by rw [he0.out]; simp), Int.toNat_natCast]
      have hB' : Hid (Pg.getB s l n = if Pg.getE s l n = 0 then (Pg.getsB s l).take n else []) := by
        show _ = _
        unfold Pg.getB
        rw [Int.toNat_natCast]
      have hdl : ((Pg.getsB s l).drop n).length = N - n := by rw [List.length_drop, hlen.out]
      have htl := Lib.hid (show ((Pg.getsB s l).take n).length = n by rw [List.length_take, hlen.out]; omega)
      have hcap := ho.cap
      have hN56 : N ≤ 61572651155456 := by have := hN.out; omega
      have hrest : ∀ (g o : Nat), R = some ⟨g, o, none⟩ → o = 0 := by
        rintro g o rfl
        rcases ho.lies with ⟨hA, _⟩ | ⟨g', cur, hA, _⟩
        · cases hA
        · injection hA with hA; injection hA
      generalize Pg.getsB s l = X at *
      clear hr hnot hR
      rcases ho.lies with ⟨rfl, rfl, rfl, hnil⟩ | ⟨g, cur, rfl, hgB, hgl, hblk, hcs, htk2⟩
      · obtain rfl : n = 0 := by omega
        obtain rfl : X = [] := by simpa using hnil
        have hE0 : Hid (Pg.getE s l (0 : Nat) = 0) := hE.out
        have hB0 : Hid (Pg.getB s l (0 : Nat) = []) := by
          show _ = _
          rw [hB'.out, hE0.out]
          rfl
        go_wp2_with fail
        refine (contains_any none [] 0 0 wr rfl (by omega) (Rd.nil _ _)).mono ?_
        rintro e w2 ⟨rfl, rfl⟩
        go_wp2_with fail
        go_ret2
        rw [show Pg.getE s l ((0 : Nat) : Int) = 0 from hE0.out, show Pg.getB s l ((0 : Nat) : Int) = [] from hB0.out]
        exact ⟨none, rfl, Rd.nil _ _, hb⟩
      · have hrd : Rd wr (some ⟨g, n, none⟩) (Bs (X.drop n)) := by
          intro hne
          have hne2 : Bs X ≠ [] := by
            intro e
            have : X = [] := by simpa using e
            subst this
            simp at hne
          obtain ⟨b0, o0, e0, hr0⟩ := ho.rd hne2
          injection e0 with e0
          injection e0 with e1 e2
          subst e1
          subst e2
          have := Rd.part hr0 n (N - n)
          rw [← List.map_drop, List.take_of_length_le (by rw [List.length_map, hdl]; exact Nat.le_refl _), Nat.zero_add] at this
          exact ⟨g, n, rfl, this⟩
        have Hdl := Lib.hid hdl
        clear hdl htk2 hblk
        have hrd1 := ho.rd
        by_cases hcn : rc = n
        · subst hcn
          have hx0 := Lib.hid (show X.drop rc = [] from List.drop_eq_nil_of_le (by rw [hlen.out]; omega))
          rw [hx0.out] at hE
          have hE1 : Hid (Pg.getE s l rc = 0) := hE.out
          have hB1 : Hid (Pg.getB s l rc = X.take rc) := by show _ = _; rw [hB'.out, hE1.out]; rfl
          clear hE hB' hrd
          go_wp2_with fail
          refine (contains_any _ [] 0 0 wr rfl (by omega) (Rd.nil _ _)).mono ?_
          rintro e w2 ⟨rfl, rfl⟩
          go_wp2_with fail
          go_ret2
          rw [hE1.out, hB1.out, htl.out]
          refine ⟨_, rfl, ?_, hb⟩
          intro hne
          have hne2 : Bs X ≠ [] := by
            intro e
            have : X = [] := by simpa using e
            subst this
            simp at hne
          obtain ⟨b0, o0, e0, hr0⟩ := hrd1 hne2
          have := Rd.part hr0 0 rc
          rw [List.drop_zero, ← List.map_take, Nat.add_zero] at this
          exact ⟨b0, o0, e0, this⟩
        · cases hany : (X.drop n).any (· != 0) with
          | true =>
            rw [hany] at hE
            have hE1 : Hid (Pg.getE s l n = 6) := hE.out
            have hB1 : Hid (Pg.getB s l n = []) := by show _ = _; rw [hB'.out, hE1.out]; rfl
            have Hany := Lib.hid hany
            clear hE hB' hany
            go_wp2_with fail
            refine (contains_any _ (X.drop n) (N - n) _ wr Hdl.out (by omega) hrd).mono ?_
            rw [Hany.out]
            rintro e w2 ⟨rfl, rfl⟩
            go_wp2_with fail
            go_ret2
            rw [hE1.out, hB1.out]
            exact ⟨none, rfl, Rd.nil _ _, hb⟩
          | false =>
            rw [hany] at hE
            have hE1 : Hid (Pg.getE s l n = 0) := hE.out
            have hB1 : Hid (Pg.getB s l n = X.take n) := by show _ = _; rw [hB'.out, hE1.out]; rfl
            have Hany := Lib.hid hany
            clear hE hB' hany
            go_wp2_with fail
            refine (contains_any _ (X.drop n) (N - n) _ wr Hdl.out (by omega) hrd).mono ?_
            rw [Hany.out]
            rintro e w2 ⟨rfl, rfl⟩
            go_wp2_with fail
            go_ret2
            rw [hE1.out, hB1.out, htl.out]
            refine ⟨_, rfl, ?_, hb⟩
            intro hne
            have hne2 : Bs X ≠ [] := by
              intro e
              have : X = [] := by simpa using e
              subst this
              simp at hne
            obtain ⟨b0, o0, e0, hr0⟩ := hrd1 hne2
            have := Rd.part hr0 0 n
            rw [List.drop_zero, ← List.map_take, Nat.add_zero] at this
            exact ⟨b0, o0, e0, this⟩

theorem get_cc (B bs : Nat) (s : Pg.St) (A : Option Addr) (l : List Int) (m c : Nat) (n : Int) (w : World) (h : Sto w B bs s) (hl : l.length = m) (hm : m ≤ 1099511627776) (hr : Rd w A (Js l)) (hw : ∀ i ∈ l, -9223372036854775808 ≤ i ∧ i ≤ 9223372036854775807)
    (h1 : -9223372036854775808 ≤ n) (h2 : n ≤ 9223372036854775807) :
    Calls Try.prog 13 #[.pointer (some ⟨bs, 0, none⟩), .slice A m c, .int .i64 n] w fun e w' => ∃ A', e = .returned (.tuple #[.slice A' (Pg.getB s l n).length (Pg.getB s l n).length, .int .i64 (Pg.getE s l n)]) ∧ Rd w' A' (Bs (Pg.getB s l n)) ∧ Below w.heap.size w w' := by
  by_cases hn : n < 0
  · have hE : Pg.getE s l n = 1 := by unfold Pg.getE; rw [if_pos (.inl hn)]
    have hB : Pg.getB s l n = [] := by unfold Pg.getB; rw [hE]; rfl
    rw [hE, hB]
    refine (get_neg bs m c A n w h1 hn).mono ?_
    rintro _ w' ⟨rfl, rfl⟩
    exact ⟨none, rfl, Rd.nil _ _, Below.refl _ _⟩
  · obtain ⟨n, rfl⟩ := Int.eq_ofNat_of_zero_le (by omega : 0 ≤ n)
    by_cases hne : m = Pg.need n
    · exact get_yes B bs s A l m c n w h hl hm hr hw hne
    · have hE : Pg.getE s l (n : Int) = 1 := by
        unfold Pg.getE
        refine if_pos (.inr ?_)
        rw [Pg.needI_nat, hl]
        exact fun e => hne (by omega)
      have hB : Pg.getB s l (n : Int) = [] := by unfold Pg.getB; rw [hE]; rfl
      rw [hE, hB]
      refine (get_arg bs m c A n w (by omega) hne hm).mono ?_
      rintro _ w' ⟨rfl, rfl⟩
      exact ⟨none, rfl, Rd.nil _ _, Below.refl _ _⟩
theorem get_c (B bs : Nat) (s : Pg.St) (A : Option Addr) (l : List Int) (m c : Nat) (n : Int) (w : World) (h : Sto w B bs s) (hl : l.length = m) (hm : m ≤ 1099511627776) (hr : Rd w A (Js l)) (hw : ∀ i ∈ l, -9223372036854775808 ≤ i ∧ i ≤ 9223372036854775807)
    (h1 : -9223372036854775808 ≤ n) (h2 : n ≤ 9223372036854775807) :
    Calls Try.prog 13 #[.pointer (some ⟨bs, 0, none⟩), .slice A m c, .int .i64 n] w fun e w' => ∃ A' c', e = .returned (.tuple #[.slice A' (Pg.getB s l n).length c', .int .i64 (Pg.getE s l n)]) ∧ Rd w' A' (Bs (Pg.getB s l n)) ∧ Below w.heap.size w w' :=
  (get_cc B bs s A l m c n w h hl hm hr hw h1 h2).mono fun _ _ ⟨A', h⟩ => ⟨A', _, h⟩
end Go.Proofs.Ytojppmnmhdgnnaa
namespace Go.Proofs.Ytojppmnmhdgnnaa
set_option linter.unusedVariables false
set_option linter.unusedSimpArgs false
namespace Pg

theorem page_take (i : Nat) {x : List UInt8} (h : x.length ≤ 56) : (page i x).take 56 = x ++ List.replicate (56 - x.length) 0 := by
  unfold page Crc.seal_ front
  rw [List.append_assoc, List.append_assoc, ← List.append_assoc x]
  exact List.take_left' (by simp; omega)
theorem page_pad (i : Nat) (x : List UInt8) : page i (x ++ List.replicate (56 - x.length) 0) = page i x := by
  unfold page front
  congr 1
  rw [show 56 - (x ++ List.replicate (56 - x.length) (0 : UInt8)).length = 0 from by simp; omega]
  simp
theorem okPage_page (i : Int) {x : List UInt8} (h : x.length ≤ 56) : okPage i (page i.toNat x) = true := by
  unfold okPage
  rw [page_take _ h, page_pad]
  simp
theorem read_page {s : St} {i : Int} {x : List UInt8} (h : x.length ≤ 56) (ha : at_ s i = some (page i.toNat x)) : readE s i = 0 ∧ readB s i = x ++ List.replicate (56 - x.length) 0 := by
  unfold readE readB
  rw [ha]
  simp only [okPage_page i h, if_true, page_take _ h, and_self]

/-- The bytes b lie on the pages ids. -/
structure Holds (s : St) (ids : List Nat) (b : List UInt8) : Prop where
  len : ids.length = need b.length
  at_ : ∀ (k i : Nat), ids[k]? = some i → Pg.at_ s (i : Int) = some (page i ((b.drop (56 * k)).take 56))

theorem need_step {n : Nat} (h : 56 < n) : need n = need (n - 56) + 1 := by unfold need; split <;> split <;> omega
theorem need_one {n : Nat} (h : 0 < n) (h' : n ≤ 56) : need n = 1 := by unfold need; split <;> omega
theorem need_zero {n : Nat} (h : need n = 0) : n = 0 := by unfold need at h; split at h <;> omega

theorem Holds.read {s : St} {ids : List Nat} {b : List UInt8} (h : Holds s ids b) {k i : Nat} (hk : ids[k]? = some i) : readE s (i : Int) = 0 :=
  (read_page (s := s) (i := (i : Int)) (x := (b.drop (56 * k)).take 56) (by rw [List.length_take]; omega) (h.at_ k i hk)).1
theorem getsE_all {s : St} : ∀ {l : List Int}, (∀ i ∈ l, readE s i = 0) → getsE s l = 0
  | [], _ => rfl
  | i :: l, h => by rw [getsE, if_pos (h i (by simp))]; exact getsE_all (fun j hj => h j (by simp [hj]))
theorem Holds.getsE {s : St} {ids : List Nat} {b : List UInt8} (h : Holds s ids b) : Pg.getsE s (ids.map Int.ofNat) = 0 := by
  refine getsE_all fun i hi => ?_
  obtain ⟨n, hn, rfl⟩ := List.mem_map.1 hi
  obtain ⟨k, hk⟩ := List.getElem?_of_mem hn
  exact h.read hk
theorem getsB_all {s : St} : ∀ (ids : List Nat) (b : List UInt8), Holds s ids b → getsB s (ids.map Int.ofNat) = b ++ List.replicate (56 * ids.length - b.length) 0
  | [], b, h => by
    have := need_zero h.len.symm
    have : b = [] := List.eq_nil_of_length_eq_zero this
    subst this
    rfl
  | i :: ids, b, h => by
    have h0 := read_page (s := s) (i := (i : Int)) (x := b.take 56) (by rw [List.length_take]; omega) (by simpa using h.at_ 0 i rfl)
    have hb : 0 < b.length := by
      have := h.len
      rw [List.length_cons] at this
      exact Nat.pos_of_ne_zero (fun e => by rw [e] at this; simp [need] at this)
    rw [List.map_cons, getsB, List.flatMap_cons]
    have e1 : readB s (Int.ofNat i) = b.take 56 ++ List.replicate (56 - (b.take 56).length) 0 := h0.2
    rw [e1]
    by_cases hl : b.length ≤ 56
    · have hn := h.len
      rw [need_one hb hl, List.length_cons] at hn
      obtain rfl : ids = [] := List.eq_nil_of_length_eq_zero (by omega)
      rw [List.take_of_length_le hl]
      simp
    · have hH : Holds s ids (b.drop 56) := ⟨by
        have := h.len
        rw [need_step (by omega), List.length_cons] at this
        rw [List.length_drop]
        omega, fun k j hk => by
        have := h.at_ (k + 1) j (by simpa using hk)
        rw [List.drop_drop, show 56 + 56 * k = 56 * (k + 1) from by omega]
        exact this⟩
      have ih := getsB_all ids (b.drop 56) hH
      unfold getsB at ih
      rw [ih, List.length_take, List.length_drop, List.length_cons, show 56 - min 56 b.length = 0 from by omega, show 56 * (ids.length + 1) - b.length = 56 * ids.length - (b.length - 56) from by omega]
      simp only [List.replicate_zero, List.append_nil]
      rw [← List.append_assoc, List.take_append_drop]
theorem Holds.get {s : St} {ids : List Nat} {b : List UInt8} (h : Holds s ids b) : getE s (ids.map Int.ofNat) b.length = 0 ∧ getB s (ids.map Int.ofNat) b.length = b := by
  have hE : getE s (ids.map Int.ofNat) b.length = 0 := by
    unfold getE
    rw [if_neg (by rw [needI_nat, List.length_map, h.len]; omega), if_neg (by rw [h.getsE]; simp), getsB_all ids b h, Int.toNat_natCast, List.drop_left]
    rw [if_neg]
    simp
  refine ⟨hE, ?_⟩
  unfold getB
  rw [if_pos hE, getsB_all ids b h, Int.toNat_natCast, List.take_left]

theorem lays_at : ∀ (l : List Nat) (s : St) (b : List UInt8), l.Nodup → (∀ i ∈ l, i < s.length) → ∀ (k i : Nat), l[k]? = some i → (lays s l b)[i]? = some (some (page i ((b.drop (56 * k)).take 56)))
  | [], _, _, _, _, k, i, h => by simp at h
  | j :: l, s, b, hn, hm, k, i, h => by
    obtain ⟨hj, hn'⟩ := List.nodup_cons.1 hn
    cases k with
    | zero =>
      simp at h
      subst h
      rw [lays, lays_get _ _ _ _ hj, List.getElem?_set_self (hm j (by simp))]
      simp
    | succ k =>
      have := lays_at l (s.set j (some (page j (b.take 56)))) (b.drop 56) hn' (fun i hi => by rw [List.length_set]; exact hm i (by simp [hi])) k i (by simpa using h)
      rw [lays, this, List.drop_drop, show 56 + 56 * k = 56 * (k + 1) from by omega]
theorem put_holds {s : St} {b : List UInt8} (h : need b.length ≤ s.length - used s) : putE s b = 0 ∧ Holds (putS s b) (putL s b) b ∧ (putL s b).Nodup ∧ (∀ i ∈ putL s b, i < s.length ∧ s[i]? = some none) := by
  have hu := used_le s
  have hE : putE s b = 0 := by unfold putE allocE; rw [if_neg (by omega), if_neg (by omega)]
  have hL : putL s b = ids s (need b.length) := by
    unfold putL allocL
    rw [if_pos (by exact hE), Int.toNat_natCast]
  have hS : putS s b = lays (fill s (ids s (need b.length))) (ids s (need b.length)) b := by
    unfold putS allocS
    rw [if_pos (by exact hE), Int.toNat_natCast, hL]
  refine ⟨hE, ⟨?_, fun k i hk => ?_⟩, ?_, fun i hi => ?_⟩
  · rw [hL, length_ids h]
  · rw [hL] at hk
    rw [hS, at_nat, lays_at _ _ _ (nodup_ids _ _) (fun i hi => by rw [length_fill]; exact (mem_ids hi).1) k i hk]
    rfl
  · rw [hL]; exact nodup_ids _ _
  · rw [hL] at hi
    exact mem_ids hi

/-- A page some bits of which are turned, within 32, is not whole. -/
theorem burst_told {i : Int} {l : List UInt8} {f k V : Nat} (hV : V ≠ 0) (hw : Crc.Win k V) (hm : Crc.more 4294967295 l = Crc.turnN (512 - f) V) : okPage i l = false := by
  cases h : okPage i l with
  | false => rfl
  | true =>
    have e : page i.toNat (l.take 56) = l := by simpa [okPage] using h
    have h0 := Crc.more_seal (front i.toNat (l.take 56))
    change Crc.more 4294967295 (page i.toNat (l.take 56)) = 0 at h0
    rw [e, hm] at h0
    exact absurd (Crc.turnN_zero _ hw.lt h0) hV
end Pg
end Go.Proofs.Ytojppmnmhdgnnaa
