/- Bytes got from pages, as plain functions; the contracts of Read, Raw, Flip and Write; the walk of Get. What was put onto pages is got; what was turned on a page is told. Plain laws, with no program in sight. The walk of Get of package pages, and its contract. -/
import Derived.Test.YtcadjekcdokkjaaGreatMPgC
import Derived.Test.YtcadjekcdokkjaaGreatMCrEB
namespace Go.Proofs.YtcadjekcdokkjaaGreat
set_option linter.unusedVariables false
set_option linter.unusedSimpArgs false
open Go.RowKit
namespace Pg
def okPage (i : Int) (l : List UInt8) : Bool := page i.toNat (l.take 56) == l
def readE (s : St) (i : Int) : Int := match at_ s i with | none => 2 | some l => if okPage i l = true then 0 else 6
def readB (s : St) (i : Int) : List UInt8 := match at_ s i with | none => [] | some l => if okPage i l = true then l.take 56 else []
def rawE (s : St) (i : Int) : Int := match at_ s i with | none => 2 | some _ => 0
def rawB (s : St) (i : Int) : List UInt8 := match at_ s i with | none => [] | some l => l
def flipS (s : St) (i j : Int) (m : UInt8) : St := match at_ s i with | none => s | some l => if 0 ≤ j ∧ j < 64 then s.set i.toNat (some (flip l j.toNat m)) else s
def writeE (s : St) (i : Int) (b : List UInt8) : Int := match at_ s i with | none => 2 | some _ => if 56 < b.length then 3 else 0
def writeS (s : St) (i : Int) (b : List UInt8) : St := match at_ s i with | none => s | some _ => if 56 < b.length then s else s.set i.toNat (some (page i.toNat b))
def getsB (s : St) (l : List Int) : List UInt8 := l.flatMap (readB s)
theorem readB_len {s : St} (hs : ∀ (k : Nat) (l : List UInt8), s[k]? = some (some l) → l.length = 64) {i : Int} (h : readE s i = 0) : (readB s i).length = 56 := by
 unfold readE readB at *
 cases e : at_ s i with
 | none => rw [e] at h; simp at h
 | some l =>
  rw [e] at h
  have hl := hs _ _ (at_some e).2.2
  by_cases ho : okPage i l = true
  ·simp only [ho, if_true, List.length_take, hl]
   omega
  ·simp only [ho, if_false] at h
   simp at h
end Pg
theorem sto_64 {w : World} {B bs : Nat} {s : Pg.St} (h : Sto w B bs s) : ∀ (k : Nat) (l : List UInt8), s[k]? = some (some l) → l.length = 64 := fun k l hk => by
 obtain ⟨bp, qs, h⟩ := h
 obtain ⟨g, _, _, _, hl⟩ := h.some_ k l hk
 exact hl
theorem read_c (B bs : Nat) (s : Pg.St) (i : Int) (w : World) (h : Sto w B bs s) (h1 : -9223372036854775808 ≤ i) (h2 : i ≤ 9223372036854775807) :
  Calls Tryz.prog 120 #[.pointer (some ⟨bs, 0, none⟩), .int .i64 i] w fun e w' => ∃ A c, e = .returned (.tuple #[.slice A (Pg.readB s i).length c, .int .i64 (Pg.readE s i)]) ∧ Own w' w.heap.size 5 1 A (Pg.readB s i).length c (Bs (Pg.readB s i)) ∧ Below w.heap.size w w' := by
 have h64 := sto_64 h
 obtain ⟨bp, qs, h⟩ := h
 unfold Pg.readB Pg.readE
 cases e : Pg.at_ s i with
 | none =>
  refine (read_no B bs bp qs s _ i w h h1 h2 e).mono ?_
  rintro _ w' ⟨rfl, rfl⟩
  exact ⟨none, 0, rfl, Own.nil _ _ _ _, Below.refl _ _⟩
 | some l =>
  have hl := h64 _ _ (Pg.at_some e).2.2
  by_cases ho : Pg.okPage i l = true
  ·simp only [ho, if_true]
   have h56 : (l.take 56).length = 56 := by rw [List.length_take, hl]; rfl
   rw [h56]
   exact read_yes B bs bp qs s _ i l w h h1 h2 e (by simpa [Pg.okPage] using ho)
  ·simp only [ho, if_false]
   refine (read_bad B bs bp qs s _ i l w h h1 h2 e (by simpa [Pg.okPage] using ho)).mono ?_
   rintro _ w' ⟨rfl, hb⟩
   exact ⟨none, 0, rfl, Own.nil _ _ _ _, hb⟩
theorem raw_c (B bs : Nat) (s : Pg.St) (i : Int) (w : World) (h : Sto w B bs s) (h1 : -9223372036854775808 ≤ i) (h2 : i ≤ 9223372036854775807) :
  Calls Tryz.prog 32 #[.pointer (some ⟨bs, 0, none⟩), .int .i64 i] w fun e w' => ∃ A c, e = .returned (.tuple #[.slice A (Pg.rawB s i).length c, .int .i64 (Pg.rawE s i)]) ∧ Own w' w.heap.size 5 1 A (Pg.rawB s i).length c (Bs (Pg.rawB s i)) ∧ Below w.heap.size w w' := by
 have h64 := sto_64 h
 obtain ⟨bp, qs, h⟩ := h
 unfold Pg.rawB Pg.rawE
 cases e : Pg.at_ s i with
 | none =>
  refine (raw_no B bs bp qs s _ i w h h1 h2 e).mono ?_
  rintro _ w' ⟨rfl, rfl⟩
  exact ⟨none, 0, rfl, Own.nil _ _ _ _, Below.refl _ _⟩
 | some l =>
  have hl := h64 _ _ (Pg.at_some e).2.2
  simp only [hl]
  exact raw_yes B bs bp qs s _ i l w h h1 h2 e
theorem flip_c (B bs : Nat) (s : Pg.St) (i j : Int) (m : UInt8) (w : World) (h : Sto w B bs s) (h1 : -9223372036854775808 ≤ i) (h2 : i ≤ 9223372036854775807) :
  Calls Tryz.prog 31 #[.pointer (some ⟨bs, 0, none⟩), .int .i64 i, .int .i64 j, .int .u8 (m.toNat : Int)] w fun e w' => e = .returned (.tuple #[]) ∧ Sto w' B bs (Pg.flipS s i j m) ∧ Keeps StT B w w' := by
 obtain ⟨bp, qs, h⟩ := h
 unfold Pg.flipS
 cases e : Pg.at_ s i with
 | none =>
  refine (flip_no B bs bp qs s _ i j m w h h1 h2 (.inl e)).mono ?_
  rintro _ w' ⟨rfl, rfl⟩
  exact ⟨rfl, ⟨bp, qs, h⟩, Keeps.refl _ _ _⟩
 | some l =>
  by_cases hj : 0 ≤ j ∧ j < 64
  ·simp only [hj, and_self, if_true]
   obtain ⟨k, rfl⟩ := Int.eq_ofNat_of_zero_le hj.1
   refine (flip_yes B bs bp qs s _ i l k m w h h1 h2 e (by omega)).mono ?_
   rintro _ w' ⟨rfl, hs, hk⟩
   refine ⟨rfl, ⟨bp, qs, ?_⟩, hk⟩
   rw [Pg.used_same (Pg.at_some e).2.2]
   exact hs
  ·simp only [hj, if_false]
   refine (flip_no B bs bp qs s _ i j m w h h1 h2 (.inr (by omega))).mono ?_
   rintro _ w' ⟨rfl, rfl⟩
   exact ⟨rfl, ⟨bp, qs, h⟩, Keeps.refl _ _ _⟩
theorem write_c (B bs : Nat) (s : Pg.St) (i : Int) (A : Option Addr) (b : List UInt8) (n c : Nat) (w : World) (h : Sto w B bs s) (h1 : -9223372036854775808 ≤ i) (h2 : i ≤ 9223372036854775807) (hn : b.length = n) (hr : Rd w A (Bs b)) (hB : B ≤ w.heap.size) :
  Calls Tryz.prog 50 #[.pointer (some ⟨bs, 0, none⟩), .int .i64 i, .slice A n c] w fun e w' => e = .returned (.int .i64 (Pg.writeE s i b)) ∧ Sto w' B bs (Pg.writeS s i b) ∧ Keeps StT B w w' := by
 obtain ⟨bp, qs, h⟩ := h
 subst hn
 unfold Pg.writeE Pg.writeS
 cases e : Pg.at_ s i with
 | none =>
  refine (write_no B bs bp qs s _ i A _ c w h h1 h2 e).mono ?_
  rintro _ w' ⟨rfl, rfl⟩
  exact ⟨rfl, ⟨bp, qs, h⟩, Keeps.refl _ _ _⟩
 | some l =>
  by_cases hl : 56 < b.length
  ·simp only [hl, if_true]
   refine (write_long B bs bp qs s _ i l A _ c w h h1 h2 e hl).mono ?_
   rintro _ w' ⟨rfl, rfl⟩
   exact ⟨rfl, ⟨bp, qs, h⟩, Keeps.refl _ _ _⟩
  ·simp only [hl, if_false]
   refine (write_yes B bs bp qs s _ i l A b _ c w h h1 h2 e rfl hr (by omega) hB).mono ?_
   rintro _ w' ⟨rfl, ⟨qs', hs⟩, hk⟩
   refine ⟨rfl, ⟨bp, qs', ?_⟩, hk⟩
   rw [Pg.used_same (Pg.at_some e).2.2]
   exact hs
end Go.Proofs.YtcadjekcdokkjaaGreat
namespace Go.Proofs.YtcadjekcdokkjaaGreat
set_option linter.unusedVariables false
set_option linter.unusedSimpArgs false
namespace Pg
theorem page_take (i : Nat) {x : List UInt8} (h : x.length ≤ 56) : (page i x).take 56 = x ++ List.replicate (56 - x.length) 0 := by
 unfold page Crc.seal_ front
 rw [List.append_assoc, List.append_assoc, ← List.append_assoc x]
 exact List.take_left' (by simp; omega)
theorem page_pad (i : Nat) (x : List UInt8) : page i (x ++ List.replicate (56 - x.length) 0) = page i x := by
 unfold page front
 congr 1
 rw [show 56 - (x ++ List.replicate (56 - x.length) (0 : UInt8)).length = 0 from by simp; omega]
 simp
theorem okPage_page (i : Int) {x : List UInt8} (h : x.length ≤ 56) : okPage i (page i.toNat x) = true := by
 unfold okPage
 rw [page_take _ h, page_pad]
 simp
theorem read_page {s : St} {i : Int} {x : List UInt8} (h : x.length ≤ 56) (ha : at_ s i = some (page i.toNat x)) : readE s i = 0 ∧ readB s i = x ++ List.replicate (56 - x.length) 0 := by
 unfold readE readB
 rw [ha]
 simp only [okPage_page i h, if_true, page_take _ h, and_self]
structure Holds (s : St) (ids : List Nat) (b : List UInt8) : Prop where
 len : ids.length = need b.length
 at_ : ∀ (k i : Nat), ids[k]? = some i → Pg.at_ s (i : Int) = some (page i ((b.drop (56 * k)).take 56))
theorem need_step {n : Nat} (h : 56 < n) : need n = need (n - 56) + 1 := by unfold need; split <;> split <;> omega
theorem need_one {n : Nat} (h : 0 < n) (h' : n ≤ 56) : need n = 1 := by unfold need; split <;> omega
theorem need_zero {n : Nat} (h : need n = 0) : n = 0 := by unfold need at h; split at h <;> omega
theorem Holds.read {s : St} {ids : List Nat} {b : List UInt8} (h : Holds s ids b) {k i : Nat} (hk : ids[k]? = some i) : readE s (i : Int) = 0 :=
 (read_page (s := s) (i := (i : Int)) (x := (b.drop (56 * k)).take 56) (by rw [List.length_take]; omega) (h.at_ k i hk)).1
theorem getsB_all {s : St} : ∀ (ids : List Nat) (b : List UInt8), Holds s ids b → getsB s (ids.map Int.ofNat) = b ++ List.replicate (56 * ids.length - b.length) 0
 | [], b, h => by
  have := need_zero h.len.symm
  have : b = [] := List.eq_nil_of_length_eq_zero this
  subst this
  rfl
 | i :: ids, b, h => by
  have h0 := read_page (s := s) (i := (i : Int)) (x := b.take 56) (by rw [List.length_take]; omega) (by simpa using h.at_ 0 i rfl)
  have hb : 0 < b.length := by
   have := h.len
   rw [List.length_cons] at this
   exact Nat.pos_of_ne_zero (fun e => by rw [e] at this; simp [need] at this)
  rw [List.map_cons, getsB, List.flatMap_cons]
  have e1 : readB s (Int.ofNat i) = b.take 56 ++ List.replicate (56 - (b.take 56).length) 0 := h0.2
  rw [e1]
  by_cases hl : b.length ≤ 56
  ·have hn := h.len
   rw [need_one hb hl, List.length_cons] at hn
   obtain rfl : ids = [] := List.eq_nil_of_length_eq_zero (by omega)
   rw [List.take_of_length_le hl]
   simp
  ·have hH : Holds s ids (b.drop 56) := ⟨by
    have := h.len
    rw [need_step (by omega), List.length_cons] at this
    rw [List.length_drop]
    omega, fun k j hk => by
    have := h.at_ (k + 1) j (by simpa using hk)
    rw [List.drop_drop, show 56 + 56 * k = 56 * (k + 1) from by omega]
    exact this⟩
   have ih := getsB_all ids (b.drop 56) hH
   unfold getsB at ih
   rw [ih, List.length_take, List.length_drop, List.length_cons, show 56 - min 56 b.length = 0 from by omega, show 56 * (ids.length + 1) - b.length = 56 * ids.length - (b.length - 56) from by omega]
   simp only [List.replicate_zero, List.append_nil]
   rw [← List.append_assoc, List.take_append_drop]
theorem lays_at : ∀ (l : List Nat) (s : St) (b : List UInt8), l.Nodup → (∀ i ∈ l, i < s.length) → ∀ (k i : Nat), l[k]? = some i → (lays s l b)[i]? = some (some (page i ((b.drop (56 * k)).take 56)))
 | [], _, _, _, _, k, i, h => by simp at h
 | j :: l, s, b, hn, hm, k, i, h => by
  obtain ⟨hj, hn'⟩ := List.nodup_cons.1 hn
  cases k with
  | zero =>
   simp at h
   subst h
   rw [lays, lays_get _ _ _ _ hj, List.getElem?_set_self (hm j (by simp))]
   simp
  | succ k =>
   have := lays_at l (s.set j (some (page j (b.take 56)))) (b.drop 56) hn' (fun i hi => by rw [List.length_set]; exact hm i (by simp [hi])) k i (by simpa using h)
   rw [lays, this, List.drop_drop, show 56 + 56 * k = 56 * (k + 1) from by omega]
theorem put_holds {s : St} {b : List UInt8} (h : need b.length ≤ s.length - used s) : putE s b = 0 ∧ Holds (putS s b) (putL s b) b ∧ (putL s b).Nodup ∧ (∀ i ∈ putL s b, i < s.length ∧ s[i]? = some none) := by
 have hu := used_le s
 have hE : putE s b = 0 := by unfold putE allocE; rw [if_neg (by omega), if_neg (by omega)]
 have hL : putL s b = ids s (need b.length) := by
  unfold putL allocL
  rw [if_pos (by exact hE), Int.toNat_natCast]
 have hS : putS s b = lays (fill s (ids s (need b.length))) (ids s (need b.length)) b := by
  unfold putS allocS
  rw [if_pos (by exact hE), Int.toNat_natCast, hL]
 refine ⟨hE, ⟨?_, fun k i hk => ?_⟩, ?_, fun i hi => ?_⟩
 ·rw [hL, length_ids h]
 ·rw [hL] at hk
  rw [hS, at_nat, lays_at _ _ _ (nodup_ids _ _) (fun i hi => by rw [length_fill]; exact (mem_ids hi).1) k i hk]
  rfl
 ·rw [hL]; exact nodup_ids _ _
 ·rw [hL] at hi
  exact mem_ids hi
end Pg
end Go.Proofs.YtcadjekcdokkjaaGreat
namespace Go.Proofs.YtcadjekcdokkjaaGreat
set_option linter.unusedVariables false
set_option linter.unusedSimpArgs false
open Go.RowKit
end Go.Proofs.YtcadjekcdokkjaaGreat
