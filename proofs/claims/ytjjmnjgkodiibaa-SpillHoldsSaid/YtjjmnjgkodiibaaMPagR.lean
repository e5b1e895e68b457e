/- Bytes got from pages, as plain functions; the contracts of Read, Raw, Flip and Write; the walk of Get. -/
import Derived.Test.YtjjmnjgkodiibaaMPaAC
namespace Go.Proofs.Ytjjmnjgkodiibaa
open Go.RowKit
namespace Pg
def okPage (i : Int) (l : List UInt8) : Bool := page i.toNat (l.take 56) == l
def readE (s : St) (i : Int) : Int := match at_ s i with | none => 2 | some l => if okPage i l = true then 0 else 6
def readB (s : St) (i : Int) : List UInt8 := match at_ s i with | none => [] | some l => if okPage i l = true then l.take 56 else []
def rawE (s : St) (i : Int) : Int := match at_ s i with | none => 2 | some _ => 0
def rawB (s : St) (i : Int) : List UInt8 := match at_ s i with | none => [] | some l => l
def flipS (s : St) (i j : Int) (m : UInt8) : St := match at_ s i with | none => s | some l => if 0 ≤ j ∧ j < 64 then s.set i.toNat (some (flip l j.toNat m)) else s
def writeE (s : St) (i : Int) (b : List UInt8) : Int := match at_ s i with | none => 2 | some _ => if 56 < b.length then 3 else 0
def writeS (s : St) (i : Int) (b : List UInt8) : St := match at_ s i with | none => s | some _ => if 56 < b.length then s else s.set i.toNat (some (page i.toNat b))
def getsE (s : St) : List Int → Int
  | [] => 0
  | i :: l => if readE s i = 0 then getsE s l else readE s i
def getsB (s : St) (l : List Int) : List UInt8 := l.flatMap (readB s)
def needI (n : Int) : Int := if n < 1 then 0 else (n - 1) / 56 + 1
def getE (s : St) (l : List Int) (n : Int) : Int :=
  if n < 0 ∨ (l.length : Int) ≠ needI n then 1 else if getsE s l ≠ 0 then getsE s l else if ((getsB s l).drop n.toNat).any (· != 0) then 6 else 0
def getB (s : St) (l : List Int) (n : Int) : List UInt8 := if getE s l n = 0 then (getsB s l).take n.toNat else []

theorem getsE_take {s : St} {l : List Int} {k : Nat} (h : k < l.length) (h0 : getsE s (l.take k) = 0) (hr : readE s l[k] ≠ 0) : getsE s l = readE s l[k] := by
  induction l generalizing k with
  | nil => simp at h
  | cons i l ih =>
    cases k with
    | zero => simp only [List.getElem_cons_zero] at hr ⊢; rw [getsE, if_neg hr]
    | succ k =>
      rw [List.take_succ_cons, getsE] at h0
      simp only [List.getElem_cons_succ] at hr ⊢
      by_cases hi : readE s i = 0
      · rw [if_pos hi] at h0
        rw [getsE, if_pos hi]
        exact ih (by simpa using h) h0 hr
      · rw [if_neg hi] at h0
        exact absurd h0 hi
theorem getsE_snoc {s : St} : ∀ {l : List Int} {i : Int}, getsE s l = 0 → readE s i = 0 → getsE s (l ++ [i]) = 0
  | [], i, _, h => by simp [getsE, h]
  | j :: l, i, h0, h => by
    rw [getsE] at h0
    by_cases hj : readE s j = 0
    · rw [if_pos hj] at h0
      rw [List.cons_append, getsE, if_pos hj]
      exact getsE_snoc h0 h
    · rw [if_neg hj] at h0
      exact absurd h0 hj
theorem getsB_snoc (s : St) (l : List Int) (i : Int) : getsB s (l ++ [i]) = getsB s l ++ readB s i := by simp [getsB]
theorem readB_len {s : St} (hs : ∀ (k : Nat) (l : List UInt8), s[k]? = some (some l) → l.length = 64) {i : Int} (h : readE s i = 0) : (readB s i).length = 56 := by
  unfold readE readB at *
  cases e : at_ s i with
  | none => rw [e] at h; simp at h
  | some l =>
    rw [e] at h
    have hl := hs _ _ (at_some e).2.2
    by_cases ho : okPage i l = true
    · simp only [ho, if_true, List.length_take, hl]
      omega
    · simp only [ho, if_false] at h
      simp at h
theorem needI_nat (n : Nat) : needI (n : Int) = (need n : Nat) := by
  unfold needI need
  split <;> split <;> omega
theorem need_ge (n : Nat) : n ≤ 56 * need n := by unfold need; split <;> omega
end Pg

theorem sto_64 {w : World} {B bs : Nat} {s : Pg.St} (h : Sto w B bs s) : ∀ (k : Nat) (l : List UInt8), s[k]? = some (some l) → l.length = 64 := fun k l hk => by
  obtain ⟨bp, qs, h⟩ := h
  obtain ⟨g, _, _, _, hl⟩ := h.some_ k l hk
  exact hl

theorem read_c (B bs : Nat) (s : Pg.St) (i : Int) (w : World) (h : Sto w B bs s) (h1 : -9223372036854775808 ≤ i) (h2 : i ≤ 9223372036854775807) :
    Calls Try.prog 39 #[.pointer (some ⟨bs, 0, none⟩), .int .i64 i] w fun e w' => ∃ A c, e = .returned (.tuple #[.slice A (Pg.readB s i).length c, .int .i64 (Pg.readE s i)]) ∧ Own w' w.heap.size 5 1 A (Pg.readB s i).length c (Bs (Pg.readB s i)) ∧ Below w.heap.size w w' := by
  have h64 := sto_64 h
  obtain ⟨bp, qs, h⟩ := h
  unfold Pg.readB Pg.readE
  cases e : Pg.at_ s i with
  | none =>
    refine (read_no B bs bp qs s _ i w h h1 h2 e).mono ?_
    rintro _ w' ⟨rfl, rfl⟩
    exact ⟨none, 0, rfl, Own.nil _ _ _ _, Below.refl _ _⟩
  | some l =>
    have hl := h64 _ _ (Pg.at_some e).2.2
    by_cases ho : Pg.okPage i l = true
    · simp only [ho, if_true]
      have h56 : (l.take 56).length = 56 := by rw [List.length_take, hl]; rfl
      rw [h56]
      exact read_yes B bs bp qs s _ i l w h h1 h2 e (by simpa [Pg.okPage] using ho)
    · simp only [ho, if_false]
      refine (read_bad B bs bp qs s _ i l w h h1 h2 e (by simpa [Pg.okPage] using ho)).mono ?_
      rintro _ w' ⟨rfl, hb⟩
      exact ⟨none, 0, rfl, Own.nil _ _ _ _, hb⟩

theorem raw_c (B bs : Nat) (s : Pg.St) (i : Int) (w : World) (h : Sto w B bs s) (h1 : -9223372036854775808 ≤ i) (h2 : i ≤ 9223372036854775807) :
    Calls Try.prog 27 #[.pointer (some ⟨bs, 0, none⟩), .int .i64 i] w fun e w' => ∃ A c, e = .returned (.tuple #[.slice A (Pg.rawB s i).length c, .int .i64 (Pg.rawE s i)]) ∧ Own w' w.heap.size 5 1 A (Pg.rawB s i).length c (Bs (Pg.rawB s i)) ∧ Below w.heap.size w w' := by
  have h64 := sto_64 h
  obtain ⟨bp, qs, h⟩ := h
  unfold Pg.rawB Pg.rawE
  cases e : Pg.at_ s i with
  | none =>
    refine (raw_no B bs bp qs s _ i w h h1 h2 e).mono ?_
    rintro _ w' ⟨rfl, rfl⟩
    exact ⟨none, 0, rfl, Own.nil _ _ _ _, Below.refl _ _⟩
  | some l =>
    have hl := h64 _ _ (Pg.at_some e).2.2
    simp only [hl]
    exact raw_yes B bs bp qs s _ i l w h h1 h2 e

theorem flip_c (B bs : Nat) (s : Pg.St) (i j : Int) (m : UInt8) (w : World) (h : Sto w B bs s) (h1 : -9223372036854775808 ≤ i) (h2 : i ≤ 9223372036854775807) :
    Calls Try.prog 34 #[.pointer (some ⟨bs, 0, none⟩), .int .i64 i, .int .i64 j, .int .u8 (m.toNat : Int)] w fun e w' => e = .returned (.tuple #[]) ∧ Sto w' B bs (Pg.flipS s i j m) ∧ Keeps StT B w w' := by
  obtain ⟨bp, qs, h⟩ := h
  unfold Pg.flipS
  cases e : Pg.at_ s i with
  | none =>
    refine (flip_no B bs bp qs s _ i j m w h h1 h2 (.inl e)).mono ?_
    rintro _ w' ⟨rfl, rfl⟩
    exact ⟨rfl, ⟨bp, qs, h⟩, Keeps.refl _ _ _⟩
  | some l =>
    by_cases hj : 0 ≤ j ∧ j < 64
    · simp only [hj, and_self, if_true]
      obtain ⟨k, rfl⟩ := Int.eq_ofNat_of_zero_le hj.1
      refine (flip_yes B bs bp qs s _ i l k m w h h1 h2 e (by omega)).mono ?_
      rintro _ w' ⟨rfl, hs, hk⟩
      refine ⟨rfl, ⟨bp, qs, ?_⟩, hk⟩
      rw [Pg.used_same (Pg.at_some e).2.2]
      exact hs
    · simp only [hj, if_false]
      refine (flip_no B bs bp qs s _ i j m w h h1 h2 (.inr (by omega))).mono ?_
      rintro _ w' ⟨rfl, rfl⟩
      exact ⟨rfl, ⟨bp, qs, h⟩, Keeps.refl _ _ _⟩

theorem write_c (B bs : Nat) (s : Pg.St) (i : Int) (A : Option Addr) (b : List UInt8) (n c : Nat) (w : World) (h : Sto w B bs s) (h1 : -9223372036854775808 ≤ i) (h2 : i ≤ 9223372036854775807) (hn : b.length = n) (hr : Rd w A (Bs b)) (hB : B ≤ w.heap.size) :
    Calls Try.prog 69 #[.pointer (some ⟨bs, 0, none⟩), .int .i64 i, .slice A n c] w fun e w' => e = .returned (.int .i64 (Pg.writeE s i b)) ∧ Sto w' B bs (Pg.writeS s i b) ∧ Keeps StT B w w' := by
  obtain ⟨bp, qs, h⟩ := h
  subst hn
  unfold Pg.writeE Pg.writeS
  cases e : Pg.at_ s i with
  | none =>
    refine (write_no B bs bp qs s _ i A _ c w h h1 h2 e).mono ?_
    rintro _ w' ⟨rfl, rfl⟩
    exact ⟨rfl, ⟨bp, qs, h⟩, Keeps.refl _ _ _⟩
  | some l =>
    by_cases hl : 56 < b.length
    · simp only [hl, if_true]
      refine (write_long B bs bp qs s _ i l A _ c w h h1 h2 e hl).mono ?_
      rintro _ w' ⟨rfl, rfl⟩
      exact ⟨rfl, ⟨bp, qs, h⟩, Keeps.refl _ _ _⟩
    · simp only [hl, if_false]
      refine (write_yes B bs bp qs s _ i l A b _ c w h h1 h2 e rfl hr (by omega) hB).mono ?_
      rintro _ w' ⟨rfl, ⟨qs', hs⟩, hk⟩
      refine ⟨rfl, ⟨bp, qs', ?_⟩, hk⟩
      rw [Pg.used_same (Pg.at_some e).2.2]
      exact hs

/-- Is a byte not 0? -/
theorem nz_any (c : UInt8) (w : World) : Calls Try.prog 58 #[.int .u8 (c.toNat : Int)] w fun e w' => e = .returned (.bool (c != 0)) ∧ w = w' := by
  have hc : Hid (((c.toNat : Int) != 0) = (c != 0)) := by
    show _ = _
    by_cases h : c = 0
    · subst h; rfl
    · have h1 : (c != 0) = true := by simpa using h
      rw [h1, bne_iff_ne]
      intro h2
      exact h (UInt8.toNat_inj.1 (by simpa using h2))
  go_enter Try.func58, Try.ntmps58
  go_wp2
  go_ret
  exact ⟨by rw [← hc.out]; rfl, rfl⟩

set_option maxRecDepth 100000 in
theorem contains_any (A : Option Addr) (l : List UInt8) (n c : Nat) (w : World) (hn : l.length = n) (hl : n ≤ 9223372036854775807) (hr : Rd w A (Bs l)) :
    Calls Try.prog 57 #[.slice A n c, .func (.func 58) #[] #[]] w fun e w' => e = .returned (.bool (l.any (· != 0))) ∧ w = w' := by
  have hll := Lib.hid hn
  clear hn
  have key : Calls Try.prog 75 #[.slice A n c, .func (.func 58) #[] #[]] w fun e w' => (∃ k : Int, e = .returned (.int .i64 k) ∧ Hid ((decide (0 ≤ k)) = l.any (· != 0))) ∧ w = w' := by
    go_enter Try.func75, Try.ntmps75
    go_wp2_with fail
    go_loop [8] (fun i => ∃ k : Nat, k ≤ n ∧ i = .int .i64 k ∧ Hid ((l.take k).any (· != 0) = false)) (fun i => n - (intOf i).toNat)
    case atStart => exact ⟨0, by omega, rfl, rfl⟩
    case round =>
      obtain ⟨k, hk, rfl, hno⟩ := hrel
      by_cases hlt : k < n
      · obtain ⟨b, o, rfl, hb, hrr, hc⟩ := hr.get (k := k) (by rw [List.length_map, hll.out]; exact hlt)
        clear hr hrr
        rw [List.getElem_map] at hc
        unfold B at hc
        have htk := Lib.hid (List.take_succ_eq_append_getElem (l := l) (i := k) (by rw [hll.out]; exact hlt))
        have hmem := Lib.hid (List.getElem_mem (l := l) (n := k) (by rw [hll.out]; exact hlt))
        generalize l[k]'(by rw [hll.out]; exact hlt) = x at *
        cases hx : (x != 0) with
        | false =>
          have Hx := Lib.hid hx
          clear hx
          go_wp2_with fail
          refine (nz_any x w).mono ?_
          rw [Hx.out]
          rintro e w' ⟨rfl, rfl⟩
          go_wp2_with fail
          go_round
          case rel => exact ⟨k + 1, by omega, by go_num, by show _ = _; rw [htk.out, List.any_append, hno.out]; simp [Hx.out]⟩
          case measure => simp [intOf]; omega
        | true =>
          have hany : Hid (l.any (· != 0) = true) := by show _ = _; rw [List.any_eq_true]; exact ⟨x, hmem.out, hx⟩
          have Hx := Lib.hid hx
          clear hx
          go_wp2_with fail
          refine (nz_any x w).mono ?_
          rw [Hx.out]
          rintro e w' ⟨rfl, rfl⟩
          go_wp2_with fail
          go_ret
          exact ⟨⟨(k : Int), rfl, by show _ = _; rw [hany.out]; simp⟩, rfl⟩
      · obtain rfl : k = n := by omega
        have hany : Hid (l.any (· != 0) = false) := by
          have := hno.out
          rwa [List.take_of_length_le (by rw [hll.out]; exact Nat.le_refl _)] at this
        go_wp2_with fail
        go_ret
        exact ⟨⟨-1, rfl, by show _ = _; rw [hany.out]; rfl⟩, rfl⟩
  have Hkey := Lib.hid key
  clear key
  go_enter Try.func57, Try.ntmps57
  go_wp2_with fail
  refine Hkey.out.mono ?_
  rintro e w' ⟨⟨k, rfl, hk⟩, rfl⟩
  go_wp2_with fail
  go_ret
  exact ⟨by rw [← hk.out]; rfl, rfl⟩
end Go.Proofs.Ytjjmnjgkodiibaa
