/- Numbers, texts and values that bytes begin with: plain laws, with no program in sight. Walks: a reader of bytes: numbers and texts. -/
import Derived.Test.YtjjmnjgkodiibaaMOcV
import Derived.Test.YtjjmnjgkodiibaaMSpS
import Derived.Laws.BitsAllLaws
namespace Go.Proofs.Ytjjmnjgkodiibaa
open Go.RowKit

/-- The number that bytes are, the highest first. -/
def valB (l : List UInt8) : Nat := l.foldl (fun n c => n * 256 + c.toNat) 0
theorem valB_acc : ∀ (l : List UInt8) (a : Nat), l.foldl (fun n c => n * 256 + c.toNat) a = a * 256 ^ l.length + valB l
  | [], a => by simp [valB]
  | c :: l, a => by
    have h1 := valB_acc l (a * 256 + c.toNat)
    have h2 := valB_acc l (0 * 256 + c.toNat)
    unfold valB at *
    rw [List.foldl_cons, List.foldl_cons, h1, h2, List.length_cons, Nat.pow_succ, Nat.add_mul, Nat.zero_mul, Nat.zero_add, Nat.mul_assoc, Nat.mul_comm 256, Nat.add_assoc]
theorem valB_cons (c : UInt8) (l : List UInt8) : valB (c :: l) = c.toNat * 256 ^ l.length + valB l := by
  have h := valB_acc l (0 * 256 + c.toNat)
  rw [Nat.zero_mul, Nat.zero_add] at h
  rw [← h]
  unfold valB
  rw [List.foldl_cons, Nat.zero_mul, Nat.zero_add]
theorem valB_snoc (l : List UInt8) (c : UInt8) : valB (l ++ [c]) = valB l * 256 + c.toNat := by simp [valB]
theorem valB_lt : ∀ l : List UInt8, valB l < 256 ^ l.length
  | [] => by simp [valB]
  | c :: l => by
    have h1 := valB_lt l
    have h2 := c.toNat_lt
    rw [valB_cons, List.length_cons, Nat.pow_succ]
    have : (c.toNat + 1) * 256 ^ l.length ≤ 256 * 256 ^ l.length := Nat.mul_le_mul_right _ (by omega)
    rw [Nat.add_mul, Nat.one_mul] at this
    rw [Nat.mul_comm (256 ^ l.length) 256]
    omega
theorem valB_big (n : Nat) : ∀ t : Nat, valB (big n t t) = n % 256 ^ t
  | 0 => by rw [big_zero, Nat.pow_zero, Nat.mod_one]; rfl
  | t + 1 => by
    rw [big_cons, valB_cons, big_len, byteN_toNat, valB_big n t, Nat.pow_succ, Nat.mod_mul, Nat.mul_comm, Nat.add_comm]
theorem lt_lenB : ∀ (f n : Nat), n ≤ f → n < 18446744073709551616 → n < 256 ^ lenB n
  | f, n, hf, hn => by
    by_cases h0 : n = 0
    · subst h0
      rw [lenB_zero]
      decide
    · rw [lenB_next h0 hn, Nat.pow_succ]
      cases f with
      | zero => omega
      | succ f =>
        have := lt_lenB f (n / 256) (by omega) (by omega)
        omega
theorem lenB_bits {n : Nat} (h0 : n ≠ 0) (hn : n < 18446744073709551616) : 8 * (lenB n - 1) < Lib.bitLen n := by
  have h1 : lenB n = lenB (n / 256) + 1 := lenB_next h0 hn
  unfold lenB at h1 ⊢
  omega

/-- The number that bytes begin with, and the bytes behind. -/
def takeNum : List UInt8 → Option (Nat × List UInt8)
  | [] => none
  | f :: t =>
    if f.toNat < 248 then some (f.toNat, t)
    else if t.length < f.toNat - 247 then none
    else if valB (t.take (f.toNat - 247)) < 248 ∨ Lib.bitLen (valB (t.take (f.toNat - 247))) ≤ 8 * (f.toNat - 248) then none
    else some (valB (t.take (f.toNat - 247)), t.drop (f.toNat - 247))
theorem takeNum_lt {l u : List UInt8} {m : Nat} (h : takeNum l = some (m, u)) : m < 18446744073709551616 ∧ u.length < l.length := by
  cases l with
  | nil => cases h
  | cons f t =>
    rw [takeNum] at h
    have hf := f.toNat_lt
    split at h
    · obtain ⟨h1, h2⟩ := Prod.mk.inj (Option.some.inj h)
      subst h1; subst h2
      exact ⟨by omega, by simp⟩
    · split at h
      · cases h
      · split at h
        · cases h
        · obtain ⟨h1, h2⟩ := Prod.mk.inj (Option.some.inj h)
          subst h1; subst h2
          refine ⟨?_, by rw [List.length_drop, List.length_cons]; omega⟩
          have := valB_lt (t.take (f.toNat - 247))
          have h8 : (t.take (f.toNat - 247)).length ≤ 8 := by rw [List.length_take]; omega
          exact Nat.lt_of_lt_of_le this (Nat.le_trans (Nat.pow_le_pow_right (by decide) h8) (by decide +kernel))
theorem takeNum_suf {l u : List UInt8} {m : Nat} (h : takeNum l = some (m, u)) : ∃ k, u = l.drop k ∧ k ≤ l.length := by
  cases l with
  | nil => cases h
  | cons f t =>
    rw [takeNum] at h
    split at h
    · obtain ⟨h1, h2⟩ := Prod.mk.inj (Option.some.inj h)
      exact ⟨1, h2.symm, by simp⟩
    · split at h
      · cases h
      · split at h
        · cases h
        · obtain ⟨h1, h2⟩ := Prod.mk.inj (Option.some.inj h)
          exact ⟨f.toNat - 247 + 1, by rw [List.drop_succ_cons]; exact h2.symm, by rw [List.length_cons]; omega⟩
theorem takeNum_put {n : Nat} (hn : n < 18446744073709551616) (U : List UInt8) : takeNum (numB n ++ U) = some (n, U) := by
  unfold numB
  split
  · rename_i h
    rw [List.cons_append, List.nil_append, takeNum, byteN_toNat, Nat.mod_eq_of_lt (by omega), if_pos h]
  · rename_i h
    have h8 := lenB_le hn
    have h1 := lenB_pos (by omega) hn
    have e1 : (byteN (247 + lenB n)).toNat = 247 + lenB n := by rw [byteN_toNat, Nat.mod_eq_of_lt (by omega)]
    have e2 : (big n (lenB n) (lenB n) ++ U).take (lenB n) = big n (lenB n) (lenB n) := List.take_left' (big_len ..)
    have e3 : (big n (lenB n) (lenB n) ++ U).drop (lenB n) = U := List.drop_left' (big_len ..)
    have e4 : valB (big n (lenB n) (lenB n)) = n := by rw [valB_big, Nat.mod_eq_of_lt (lt_lenB n n (Nat.le_refl _) hn)]
    have h2 := lenB_bits (n := n) (by omega) hn
    rw [List.cons_append, takeNum, e1, if_neg (by omega), if_neg (by rw [List.length_append, big_len]; omega), show 247 + lenB n - 247 = lenB n from by omega, e2, e3, e4, if_neg]
    omega
theorem takeNum_short {n : Nat} (hn : n < 18446744073709551616) {j : Nat} (hj : j < (numB n).length) : takeNum ((numB n).take j) = none := by
  cases j with
  | zero => rfl
  | succ j =>
    unfold numB at hj ⊢
    split at hj
    · simp at hj
    · rename_i h
      have h8 := lenB_le hn
      rw [if_neg h]
      rw [List.length_cons, big_len] at hj
      have e1 : (byteN (247 + lenB n)).toNat = 247 + lenB n := by rw [byteN_toNat, Nat.mod_eq_of_lt (by omega)]
      have h1 := lenB_pos (by omega) hn
      rw [List.take_succ_cons, takeNum, e1, if_neg (by omega), if_pos (by rw [List.length_take, big_len]; omega)]

/-- The number that may be below nothing. -/
def unzig (m : Nat) : Int := if m % 2 = 0 then ((m / 2 : Nat) : Int) else -((m / 2 : Nat) : Int) - 1
theorem unzig_zig (n : Int) : unzig (zigN n) = n := by
  unfold unzig zigN
  split <;> split <;> omega
theorem unzig_in {m : Nat} (h : m < 18446744073709551616) : -9223372036854775808 ≤ unzig m ∧ unzig m ≤ 9223372036854775807 := by
  unfold unzig
  split <;> omega

/-- The text that bytes begin with. -/
def takeText (l : List UInt8) : Option (List UInt8 × List UInt8) :=
  match takeNum l with
  | none => none
  | some (m, u) => if 1024 < m ∨ u.length < m then none else some (u.take m, u.drop m)
theorem takeText_put {s : List UInt8} (hs : s.length ≤ 1024) (U : List UInt8) : takeText (numB s.length ++ s ++ U) = some (s, U) := by
  unfold takeText
  rw [List.append_assoc, takeNum_put (by omega)]
  dsimp only
  rw [if_neg (by rw [List.length_append]; omega), List.take_left, List.drop_left]
theorem take_le {α : Type} (l m : List α) {j : Nat} (h : j ≤ l.length) : (l ++ m).take j = l.take j := List.take_append_of_le_length h
theorem take_more {α : Type} (l m : List α) {j : Nat} (h : l.length ≤ j) : (l ++ m).take j = l ++ m.take (j - l.length) := by
  rw [List.take_append, List.take_of_length_le h]
theorem takeText_short {s : List UInt8} (hs : s.length ≤ 1024) {j : Nat} (hj : j < (numB s.length ++ s).length) : takeText ((numB s.length ++ s).take j) = none := by
  unfold takeText
  by_cases h : j < (numB s.length).length
  · rw [take_le _ _ (by omega), takeNum_short (by omega) h]
  · rw [List.length_append] at hj
    rw [take_more _ _ (by omega), takeNum_put (by omega)]
    dsimp only
    rw [if_pos (by rw [List.length_take]; omega)]

/-- A value's number, text and what stands behind, by its kind. -/
def takeBody (k : UInt8) (t : List UInt8) : Option (Int × List UInt8 × List UInt8) :=
  if k = 1 ∨ k = 2 then (match takeNum t with | none => none | some (m, u) => some (unzig m, [], u))
  else if k = 3 then (match takeText t with | none => none | some (s, u) => some (0, s, u))
  else some (0, [], t)
theorem takeText_suf {l s u : List UInt8} (h : takeText l = some (s, u)) : s.length ≤ 1024 ∧ ∃ k, u = l.drop k ∧ k ≤ l.length := by
  unfold takeText at h
  cases e : takeNum l with
  | none => rw [e] at h; cases h
  | some x =>
    obtain ⟨m, t⟩ := x
    rw [e] at h
    dsimp only at h
    split at h
    · cases h
    · obtain ⟨h1, h2⟩ := Prod.mk.inj (Option.some.inj h)
      obtain ⟨k, rfl, hk⟩ := takeNum_suf e
      refine ⟨by rw [← h1, List.length_take]; omega, k + m, ?_, ?_⟩
      · rw [← h2, List.drop_drop]
      · rw [List.length_drop] at *
        omega
/-- The value that bytes begin with, and the bytes behind. -/
def takeVal : List UInt8 → Option (Va × List UInt8)
  | [] => none
  | k :: t =>
    match takeBody k t with
    | none => none
    | some (n, s, u) => if rightV ⟨k.toNat, n, s⟩ = true then some (⟨k.toNat, n, s⟩, u) else none
theorem takeVal_of {k : UInt8} {t s u : List UInt8} {n : Int} (h : takeBody k t = some (n, s, u)) (hr : rightV ⟨k.toNat, n, s⟩ = true) : takeVal (k :: t) = some (⟨k.toNat, n, s⟩, u) := by
  rw [takeVal, h]
  dsimp only
  rw [if_pos hr]
theorem takeVal_no {k : UInt8} {t : List UInt8} (h : takeBody k t = none) : takeVal (k :: t) = none := by
  rw [takeVal, h]
theorem takeVal_put {v : Va} (hv : rightV v = true) (hok : v.ok) (U : List UInt8) : takeVal (vput v ++ U) = some (v, U) := by
  rcases right_kinds hv with rfl | ⟨t, rfl⟩ | ⟨n, rfl⟩ | ⟨s, rfl, hs⟩
  · rw [vput_nil]
    exact takeVal_of (k := byteN 0) rfl rfl
  · have h0 : -9223372036854775808 ≤ (if t = true then (1 : Int) else 0) ∧ (if t = true then (1 : Int) else 0) ≤ 9223372036854775807 := by split <;> omega
    rw [vput_bool, List.cons_append]
    refine takeVal_of (k := byteN 1) (n := if t = true then 1 else 0) (s := []) ?_ hv
    unfold takeBody
    rw [if_pos (.inl rfl), takeNum_put (zigN_lt h0)]
    dsimp only
    rw [unzig_zig]
  · rw [vput_int, List.cons_append]
    refine takeVal_of (k := byteN 2) (n := n) (s := []) ?_ hv
    unfold takeBody
    rw [if_pos (.inr rfl), takeNum_put (zigN_lt hok.n)]
    dsimp only
    rw [unzig_zig]
  · rw [vput_txt, List.cons_append]
    refine takeVal_of (k := byteN 3) (n := 0) (s := s) ?_ hv
    unfold takeBody
    rw [if_neg (by decide), if_pos (show byteN 3 = 3 from rfl), takeText_put hs]
theorem takeVal_short {v : Va} (hv : rightV v = true) (hok : v.ok) {j : Nat} (hj : j < (vput v).length) : takeVal ((vput v).take j) = none := by
  cases j with
  | zero => rfl
  | succ j =>
    rcases right_kinds hv with rfl | ⟨t, rfl⟩ | ⟨n, rfl⟩ | ⟨s, rfl, hs⟩
    · rw [vput_nil] at hj
      simp at hj
    · have h0 : -9223372036854775808 ≤ (if t = true then (1 : Int) else 0) ∧ (if t = true then (1 : Int) else 0) ≤ 9223372036854775807 := by split <;> omega
      rw [vput_bool, List.length_cons] at hj
      rw [vput_bool, List.take_succ_cons]
      refine takeVal_no ?_
      unfold takeBody
      rw [if_pos (.inl rfl), takeNum_short (zigN_lt h0) (by omega)]
    · rw [vput_int, List.length_cons] at hj
      rw [vput_int, List.take_succ_cons]
      refine takeVal_no ?_
      unfold takeBody
      rw [if_pos (.inr rfl), takeNum_short (zigN_lt (n := n) hok.n) (by omega)]
    · rw [vput_txt, List.length_cons] at hj
      rw [vput_txt, List.take_succ_cons]
      refine takeVal_no ?_
      unfold takeBody
      rw [if_neg (by decide), if_pos (show byteN 3 = 3 from rfl), takeText_short hs (by omega)]

/-- So many values, one behind the other. -/
def takeVals : Nat → RowM → List UInt8 → Option (RowM × List UInt8)
  | 0, a, p => some (a, p)
  | k + 1, a, p => match takeVal p with | none => none | some (v, u) => takeVals k (a ++ [v]) u
theorem takeVals_put : ∀ (r a : RowM) (U : List UInt8), (∀ v ∈ r, rightV v = true) → (∀ v ∈ r, v.ok) → takeVals r.length a (r.flatMap vput ++ U) = some (a ++ r, U)
  | [], a, U, _, _ => by simp [takeVals]
  | v :: r, a, U, h1, h2 => by
    rw [List.length_cons, takeVals, List.flatMap_cons, List.append_assoc, takeVal_put (h1 v (by simp)) (h2 v (by simp))]
    dsimp only
    rw [takeVals_put r (a ++ [v]) U (fun u hu => h1 u (by simp [hu])) (fun u hu => h2 u (by simp [hu]))]
    simp
theorem takeVals_short : ∀ (r a : RowM) (j : Nat), (∀ v ∈ r, rightV v = true) → (∀ v ∈ r, v.ok) → j < (r.flatMap vput).length → takeVals r.length a ((r.flatMap vput).take j) = none
  | [], a, j, _, _, hj => by simp at hj
  | v :: r, a, j, h1, h2, hj => by
    rw [List.length_cons, takeVals, List.flatMap_cons]
    rw [List.flatMap_cons, List.length_append] at hj
    by_cases h : j < (vput v).length
    · rw [take_le _ _ (by omega), takeVal_short (h1 v (by simp)) (h2 v (by simp)) h]
    · rw [take_more _ _ (by omega), takeVal_put (h1 v (by simp)) (h2 v (by simp))]
      dsimp only
      exact takeVals_short r (a ++ [v]) _ (fun u hu => h1 u (by simp [hu])) (fun u hu => h2 u (by simp [hu])) (by omega)
/-- The row that bytes begin with, and the bytes behind. -/
def takeRow (p : List UInt8) : Option (RowM × List UInt8) :=
  match takeNum p with
  | none => none
  | some (m, u) => if 32 < m then none else takeVals m [] u
theorem takeRow_put {r : RowM} (h32 : r.length ≤ 32) (h1 : ∀ v ∈ r, rightV v = true) (h2 : ∀ v ∈ r, v.ok) (U : List UInt8) : takeRow (numB r.length ++ r.flatMap vput ++ U) = some (r, U) := by
  unfold takeRow
  rw [List.append_assoc, takeNum_put (by omega)]
  dsimp only
  rw [if_neg (by omega), takeVals_put r [] U h1 h2, List.nil_append]
theorem takeRow_short {r : RowM} (h32 : r.length ≤ 32) (h1 : ∀ v ∈ r, rightV v = true) (h2 : ∀ v ∈ r, v.ok) {j : Nat} (hj : j < (numB r.length ++ r.flatMap vput).length) : takeRow ((numB r.length ++ r.flatMap vput).take j) = none := by
  unfold takeRow
  rw [List.length_append] at hj
  by_cases h : j < (numB r.length).length
  · rw [take_le _ _ (by omega), takeNum_short (by omega) h]
  · rw [take_more _ _ (by omega), takeNum_put (by omega)]
    dsimp only
    rw [if_neg (by omega)]
    exact takeVals_short r [] _ h1 h2 (by omega)
end Go.Proofs.Ytjjmnjgkodiibaa
namespace Go.Proofs.Ytjjmnjgkodiibaa
open Go.RowKit

attribute [local go_sem ↓] Go.wp_at_zero Go.wp_at_succ

/-- The block of a reader. -/
abbrev RdT : List TypeId := [135]
/-- The reader at block p has the bytes l ahead of it; whether it is bad. -/
def Rdr (w : World) (p : Nat) (l : List UInt8) (bad : Bool) : Prop :=
  ∃ A n c, Blk w p 135 [.slice A n c, .bool bad] ∧ OwnX w 0 5 A n c (Bs l) ∧ l.length = n ∧ n ≤ c ∧ c ≤ 9223372036854775807 ∧ ((A = none ∧ c = 0) ∨ ∃ b o, A = some ⟨b, o, none⟩)
/-- The reader is bad, and has nothing. -/
abbrev RdrBad (w : World) (p : Nat) : Prop := Blk w p 135 [.slice none 0 0, .bool true]
theorem RdrBad.rdr {w : World} {p : Nat} (h : RdrBad w p) : Rdr w p [] true := ⟨none, 0, 0, h, OwnX.nil _ _ _, rfl, Nat.le_refl _, by omega, .inl ⟨rfl, rfl⟩⟩
theorem Rdr.below {w w' : World} {p : Nat} {l : List UInt8} {bad : Bool} (h : Rdr w p l bad) (hb : Below w.heap.size w w') : Rdr w' p l bad := by
  obtain ⟨A, n, c, h1, h2, h3⟩ := h
  exact ⟨A, n, c, h1.below hb, h2.below hb, h3⟩
theorem rdr_new (l : List UInt8) (n c : Nat) (A : Option Addr) (w : World) (hl : l.length = n) (hr : Rd w A (Bs l)) (hn : n ≤ 1000000) :
    Calls Try.prog 76 #[.slice A n c] w fun e w' => ∃ p, e = .returned (.pointer (some ⟨p, 0, none⟩)) ∧ Rdr w' p l false ∧ w.heap.size ≤ p ∧ Below w.heap.size w w' := by
  have Hl := Lib.hid hl
  clear hl
  go_enter Try.func76, Try.ntmps76
  go_wp2_with (first | (at_builtin; refine hold ?_) | (at_make; refine hold ?_))
  (with_reducible refine unhold ?_)
  refine wpList_apd rfl _ _ _ rfl E8 w.heap.size none 0 0 [] rfl (Own.nil _ _ _ _) A n c (Bs l) rfl (by rw [List.length_map, Hl.out, Nat.mul_one]) hr (Bs_one l) n (Nat.zero_add _) (Bs l) rfl (by omega) (by omega) (Nat.le_refl _) ?_
  intro A1 c1 w1 ho1 hg1 _
  have hb1 : Below w.heap.size w w1 := (Below.refl _ _).grown hg1 (Nat.le_refl _) (fun k hk => by simp [Value.ownBlock] at hk)
  have hz1 := hb1.size
  have hcap := Own.cap ho1
  go_wp2_with fail
  go_ret
  have hbB : Below w1.heap.size w1 (w1.alloc (.cells #[.slice A1 n c1, .bool false] 135)) := (Below.refl _ _).alloc (Nat.le_refl _) _
  refine ⟨_, rfl, ⟨A1, n, c1, Blk.new w1 _ _, (OwnX.of_own (Own.below ho1 hbB)).lower (Nat.zero_le _), Hl.out, hcap.1, by have := hcap.2; unfold maxLen at this; omega, by
    rcases Own.lies ho1 with ⟨h, _, h', _⟩ | ⟨g, cur, h, _⟩
    · exact .inl ⟨h, h'⟩
    · exact .inr ⟨g, 0, h⟩⟩, hz1, hb1.trans (hbB.mono hz1)⟩

theorem rdr_bad (p : Nat) (l : List UInt8) (bad : Bool) (w : World) (h : Rdr w p l bad) : Calls Try.prog 78 #[.pointer (some ⟨p, 0, none⟩)] w fun e w' => e = .returned (.bool bad) ∧ w = w' := by
  obtain ⟨A, n, c, h1, _⟩ := h
  have k1 := h1.cell 1
  simp only [List.getElem?_cons_zero, List.getElem?_cons_succ] at k1
  clear h1
  go_enter Try.func78, Try.ntmps78
  go_wp2_with fail
  go_ret
  exact ⟨rfl, rfl⟩
theorem rdr_left (p : Nat) (l : List UInt8) (bad : Bool) (w : World) (h : Rdr w p l bad) : Calls Try.prog 79 #[.pointer (some ⟨p, 0, none⟩)] w fun e w' => e = .returned (.int .i64 (l.length : Nat)) ∧ w = w' := by
  obtain ⟨A, n, c, h1, _, rfl, _⟩ := h
  have k0 := h1.cell 0
  simp only [List.getElem?_cons_zero, List.getElem?_cons_succ] at k0
  generalize l.length = n at *
  clear h1
  go_enter Try.func79, Try.ntmps79
  go_wp2_with fail
  go_ret
  exact ⟨rfl, rfl⟩

theorem rdr_fail (p : Nat) (l : List UInt8) (bad : Bool) (w : World) (h : Rdr w p l bad) : Calls Try.prog 89 #[.pointer (some ⟨p, 0, none⟩)] w fun e w' => e = .returned (.tuple #[]) ∧ RdrBad w' p ∧ Keeps RdT p w w' := by
  obtain ⟨A, n, c, h1, _⟩ := h
  have k0 := h1.cell 0
  have k1 := h1.cell 1
  have f0 := h1.frozen 0
  have f1 := h1.frozen 1
  simp only [List.getElem?_cons_zero, List.getElem?_cons_succ] at k0 k1
  have h2 := h1.set_ 0 (.slice none 0 0)
  have h3 := h2.set_ 1 (.bool true)
  simp only [List.set_cons_zero, List.set_cons_succ] at h2 h3
  have hk2 : Keeps RdT p w (w.setCell ⟨p, 0, none⟩ (.slice none 0 0)) := (Keeps.refl _ _ _).setCell h1 (by simp) (Nat.le_refl _) _
  have hk3 : Keeps RdT p w ((w.setCell ⟨p, 0, none⟩ (.slice none 0 0)).setCell ⟨p, 1, none⟩ (.bool true)) := hk2.setCell h2 (by simp) (Nat.le_refl _) _
  have H3 := Lib.hid h3
  have Hk3 := Lib.hid hk3
  clear h1 h2 h3 hk2 hk3
  go_enter Try.func89, Try.ntmps89
  go_wp2_with fail
  go_end0
  exact ⟨rfl, H3.out, Hk3.out⟩

/-- The reader goes on by k bytes. -/
theorem Rdr.skip {w : World} {p b o n c : Nat} {l : List UInt8} {bad : Bool} (h1 : Blk w p 135 [.slice (some ⟨b, o, none⟩) n c, .bool bad]) (h2 : OwnX w 0 5 (some ⟨b, o, none⟩) n c (Bs l)) (hl : l.length = n) (hnc : n ≤ c) (hc : c ≤ 9223372036854775807) {k : Nat} (hk : k ≤ n) (q : Option Addr) (hq : if k = c then q = some ⟨b, o, none⟩ else q = some ⟨b, o + k, none⟩) :
    Rdr (w.setCell ⟨p, 0, none⟩ (.slice q (n - k) (c - k))) p (l.drop k) bad ∧ Keeps RdT p w (w.setCell ⟨p, 0, none⟩ (.slice q (n - k) (c - k))) := by
  have h3 := h1.set_ 0 (.slice q (n - k) (c - k))
  simp only [List.set_cons_zero] at h3
  have hk2 : Keeps RdT p w (w.setCell ⟨p, 0, none⟩ (.slice q (n - k) (c - k))) := (Keeps.refl _ _ _).setCell h1 (by simp) (Nat.le_refl _) _
  refine ⟨⟨q, n - k, c - k, h3, ?_, by rw [List.length_drop, hl], by omega, by omega, .inr (by split at hq <;> exact ⟨_, _, hq⟩)⟩, hk2⟩
  split at hq
  · rename_i hkc
    have hn : n = k := by omega
    subst hq
    have : l.drop k = [] := List.drop_eq_nil_of_le (by omega)
    have h4 := h2.dropAll.keeps (T := RdT) (B := p) (by decide) hk2
    have e1 : n - k = 0 := by omega
    have e2 : c - k = 0 := by omega
    rw [e1, e2] at h4
    rw [this, e1, e2]
    exact h4
  · subst hq
    have := (h2.drop hk).keeps (by decide) hk2
    rw [← List.map_drop] at this
    exact this

theorem Rdr.far {w : World} {p g i : Nat} {l : List UInt8} {bad : Bool} {t : TypeId} {xs : List Value} (h : Rdr w p l bad) (hg : Blk w g t xs) (h1t : t ≠ 135) (h2t : t ≠ 5) (u : Value) : Rdr (w.setCell ⟨g, i, none⟩ u) p l bad := by
  obtain ⟨A, n, c, h1, h2, h3⟩ := h
  have hk : Keeps [t] 0 w (w.setCell ⟨g, i, none⟩ u) := (Keeps.refl _ _ _).setCell hg (by simp) (Nat.zero_le _) u
  exact ⟨A, n, c, h1.keeps (by simp [Ne.symm h1t]) hk, h2.keeps (by simp [Ne.symm h2t]) hk, h3⟩
theorem or_byte {v c : Nat} (hv : v < 72057594037927936) (hc : c < 256) : bits .or .u64 ((v * 256 : Nat) : Int) ((c : Nat) : Int) = ((v * 256 + c : Nat) : Int) := by
  rw [u64_or_nat _ _ (by omega) (by omega)]
  have : v * 256 ||| c = v * 256 + c := by
    rw [show v * 256 = v <<< 8 from by rw [Nat.shiftLeft_eq], ← Nat.shiftLeft_add_eq_or_of_lt (by omega)]
  rw [this]
theorem valB_take {t : List UInt8} {j : Nat} (hj : j < t.length) : valB (t.take (j + 1)) = valB (t.take j) * 256 + t[j].toNat := by
  rw [List.take_succ_eq_append_getElem hj, valB_snoc]
theorem valB_small {t : List UInt8} {j : Nat} (hj : j ≤ 7) : valB (t.take j) < 72057594037927936 := by
  have h := valB_lt (t.take j)
  refine Nat.lt_of_lt_of_le h (Nat.le_trans (Nat.pow_le_pow_right (by decide) (show (t.take j).length ≤ 7 by rw [List.length_take]; omega)) (by decide +kernel))
theorem valB_small8 {t : List UInt8} {j : Nat} (hj : j ≤ 8) : valB (t.take j) < 18446744073709551616 := by
  have h := valB_lt (t.take j)
  refine Nat.lt_of_lt_of_le h (Nat.le_trans (Nat.pow_le_pow_right (by decide) (show (t.take j).length ≤ 8 by rw [List.length_take]; omega)) (by decide +kernel))
end Go.Proofs.Ytjjmnjgkodiibaa
