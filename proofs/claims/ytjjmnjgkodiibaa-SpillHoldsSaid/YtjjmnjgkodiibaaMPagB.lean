/- What was put onto pages is got; what was turned on a page is told. Plain laws, with no program in sight. -/
import Derived.Test.YtjjmnjgkodiibaaMPagR
import Derived.Test.YtjjmnjgkodiibaaMCrEB
namespace Go.Proofs.Ytjjmnjgkodiibaa
namespace Pg

theorem page_take (i : Nat) {x : List UInt8} (h : x.length ≤ 56) : (page i x).take 56 = x ++ List.replicate (56 - x.length) 0 := by
  unfold page Crc.seal_ front
  rw [List.append_assoc, List.append_assoc, ← List.append_assoc x]
  exact List.take_left' (by simp; omega)
theorem page_pad (i : Nat) (x : List UInt8) : page i (x ++ List.replicate (56 - x.length) 0) = page i x := by
  unfold page front
  congr 1
  rw [show 56 - (x ++ List.replicate (56 - x.length) (0 : UInt8)).length = 0 from by simp; omega]
  simp
theorem okPage_page (i : Int) {x : List UInt8} (h : x.length ≤ 56) : okPage i (page i.toNat x) = true := by
  unfold okPage
  rw [page_take _ h, page_pad]
  simp
theorem read_page {s : St} {i : Int} {x : List UInt8} (h : x.length ≤ 56) (ha : at_ s i = some (page i.toNat x)) : readE s i = 0 ∧ readB s i = x ++ List.replicate (56 - x.length) 0 := by
  unfold readE readB
  rw [ha]
  simp only [okPage_page i h, if_true, page_take _ h, and_self]

/-- The bytes b lie on the pages ids. -/
structure Holds (s : St) (ids : List Nat) (b : List UInt8) : Prop where
  len : ids.length = need b.length
  at_ : ∀ (k i : Nat), ids[k]? = some i → Pg.at_ s (i : Int) = some (page i ((b.drop (56 * k)).take 56))

theorem need_step {n : Nat} (h : 56 < n) : need n = need (n - 56) + 1 := by unfold need; split <;> split <;> omega
theorem need_one {n : Nat} (h : 0 < n) (h' : n ≤ 56) : need n = 1 := by unfold need; split <;> omega
theorem need_zero {n : Nat} (h : need n = 0) : n = 0 := by unfold need at h; split at h <;> omega

theorem Holds.read {s : St} {ids : List Nat} {b : List UInt8} (h : Holds s ids b) {k i : Nat} (hk : ids[k]? = some i) : readE s (i : Int) = 0 :=
  (read_page (s := s) (i := (i : Int)) (x := (b.drop (56 * k)).take 56) (by rw [List.length_take]; omega) (h.at_ k i hk)).1
theorem getsE_all {s : St} : ∀ {l : List Int}, (∀ i ∈ l, readE s i = 0) → getsE s l = 0
  | [], _ => rfl
  | i :: l, h => by rw [getsE, if_pos (h i (by simp))]; exact getsE_all (fun j hj => h j (by simp [hj]))
theorem Holds.getsE {s : St} {ids : List Nat} {b : List UInt8} (h : Holds s ids b) : Pg.getsE s (ids.map Int.ofNat) = 0 := by
  refine getsE_all fun i hi => ?_
  obtain ⟨n, hn, rfl⟩ := List.mem_map.1 hi
  obtain ⟨k, hk⟩ := List.getElem?_of_mem hn
  exact h.read hk
theorem getsB_all {s : St} : ∀ (ids : List Nat) (b : List UInt8), Holds s ids b → getsB s (ids.map Int.ofNat) = b ++ List.replicate (56 * ids.length - b.length) 0
  | [], b, h => by
    have := need_zero h.len.symm
    have : b = [] := List.eq_nil_of_length_eq_zero this
    subst this
    rfl
  | i :: ids, b, h => by
    have h0 := read_page (s := s) (i := (i : Int)) (x := b.take 56) (by rw [List.length_take]; omega) (by simpa using h.at_ 0 i rfl)
    have hb : 0 < b.length := by
      have := h.len
      rw [List.length_cons] at this
      exact Nat.pos_of_ne_zero (fun e => by rw [e] at this; simp [need] at this)
    rw [List.map_cons, getsB, List.flatMap_cons]
    have e1 : readB s (Int.ofNat i) = b.take 56 ++ List.replicate (56 - (b.take 56).length) 0 := h0.2
    rw [e1]
    by_cases hl : b.length ≤ 56
    · have hn := h.len
      rw [need_one hb hl, List.length_cons] at hn
      obtain rfl : ids = [] := List.eq_nil_of_length_eq_zero (by omega)
      rw [List.take_of_length_le hl]
      simp
    · have hH : Holds s ids (b.drop 56) := ⟨by
        have := h.len
        rw [need_step (by omega), List.length_cons] at this
        rw [List.length_drop]
        omega, fun k j hk => by
        have := h.at_ (k + 1) j (by simpa using hk)
        rw [List.drop_drop, show 56 + 56 * k = 56 * (k + 1) from by omega]
        exact this⟩
      have ih := getsB_all ids (b.drop 56) hH
      unfold getsB at ih
      rw [ih, List.length_take, List.length_drop, List.length_cons, show 56 - min 56 b.length = 0 from by omega, show 56 * (ids.length + 1) - b.length = 56 * ids.length - (b.length - 56) from by omega]
      simp only [List.replicate_zero, List.append_nil]
      rw [← List.append_assoc, List.take_append_drop]
theorem Holds.get {s : St} {ids : List Nat} {b : List UInt8} (h : Holds s ids b) : getE s (ids.map Int.ofNat) b.length = 0 ∧ getB s (ids.map Int.ofNat) b.length = b := by
  have hE : getE s (ids.map Int.ofNat) b.length = 0 := by
    unfold getE
    rw [if_neg (by rw [needI_nat, List.length_map, h.len]; omega), if_neg (by rw [h.getsE]; simp), getsB_all ids b h, Int.toNat_natCast, List.drop_left]
    rw [if_neg]
    simp
  refine ⟨hE, ?_⟩
  unfold getB
  rw [if_pos hE, getsB_all ids b h, Int.toNat_natCast, List.take_left]

theorem lays_at : ∀ (l : List Nat) (s : St) (b : List UInt8), l.Nodup → (∀ i ∈ l, i < s.length) → ∀ (k i : Nat), l[k]? = some i → (lays s l b)[i]? = some (some (page i ((b.drop (56 * k)).take 56)))
  | [], _, _, _, _, k, i, h => by simp at h
  | j :: l, s, b, hn, hm, k, i, h => by
    obtain ⟨hj, hn'⟩ := List.nodup_cons.1 hn
    cases k with
    | zero =>
      simp at h
      subst h
      rw [lays, lays_get _ _ _ _ hj, List.getElem?_set_self (hm j (by simp))]
      simp
    | succ k =>
      have := lays_at l (s.set j (some (page j (b.take 56)))) (b.drop 56) hn' (fun i hi => by rw [List.length_set]; exact hm i (by simp [hi])) k i (by simpa using h)
      rw [lays, this, List.drop_drop, show 56 + 56 * k = 56 * (k + 1) from by omega]
theorem put_holds {s : St} {b : List UInt8} (h : need b.length ≤ s.length - used s) : putE s b = 0 ∧ Holds (putS s b) (putL s b) b ∧ (putL s b).Nodup ∧ (∀ i ∈ putL s b, i < s.length ∧ s[i]? = some none) := by
  have hu := used_le s
  have hE : putE s b = 0 := by unfold putE allocE; rw [if_neg (by omega), if_neg (by omega)]
  have hL : putL s b = ids s (need b.length) := by
    unfold putL allocL
    rw [if_pos (by exact hE), Int.toNat_natCast]
  have hS : putS s b = lays (fill s (ids s (need b.length))) (ids s (need b.length)) b := by
    unfold putS allocS
    rw [if_pos (by exact hE), Int.toNat_natCast, hL]
  refine ⟨hE, ⟨?_, fun k i hk => ?_⟩, ?_, fun i hi => ?_⟩
  · rw [hL, length_ids h]
  · rw [hL] at hk
    rw [hS, at_nat, lays_at _ _ _ (nodup_ids _ _) (fun i hi => by rw [length_fill]; exact (mem_ids hi).1) k i hk]
    rfl
  · rw [hL]; exact nodup_ids _ _
  · rw [hL] at hi
    exact mem_ids hi

/-- A page some bits of which are turned, within 32, is not whole. -/
theorem burst_told {i : Int} {l : List UInt8} {f k V : Nat} (hV : V ≠ 0) (hw : Crc.Win k V) (hm : Crc.more 4294967295 l = Crc.turnN (512 - f) V) : okPage i l = false := by
  cases h : okPage i l with
  | false => rfl
  | true =>
    have e : page i.toNat (l.take 56) = l := by simpa [okPage] using h
    have h0 := Crc.more_seal (front i.toNat (l.take 56))
    change Crc.more 4294967295 (page i.toNat (l.take 56)) = 0 at h0
    rw [e, hm] at h0
    exact absurd (Crc.turnN_zero _ hw.lt h0) hV
end Pg
end Go.Proofs.Ytjjmnjgkodiibaa
