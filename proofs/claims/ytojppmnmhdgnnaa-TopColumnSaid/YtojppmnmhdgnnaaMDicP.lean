/- Words as bytes, and the words that bytes begin with: plain laws. -/
import Derived.Test.YtojppmnmhdgnnaaMDiMO
import Derived.Test.YtojppmnmhdgnnaaMCuA
namespace Go.Proofs.Ytojppmnmhdgnnaa
set_option linter.unusedVariables false
set_option linter.unusedSimpArgs false

/-! ### What is taken was put so -/
theorem byteN_of (c : UInt8) : byteN c.toNat = c := by
  apply UInt8.toNat_inj.1
  rw [byteN_toNat]
  have := c.toNat_lt
  omega
theorem byteN_256 (c : UInt8) (q : Nat) : byteN (q * 256 + c.toNat) = c := by
  apply UInt8.toNat_inj.1
  rw [byteN_toNat]
  have := c.toNat_lt
  omega
theorem big_mod : ∀ (t n m : Nat), n % 256 ^ t = m % 256 ^ t → big n t t = big m t t
  | 0, _, _, _ => rfl
  | t + 1, n, m, h => by
    rw [big_cons, big_cons]
    have h1 : n % 256 ^ t = m % 256 ^ t := by
      have e : ∀ x : Nat, x % 256 ^ t = x % 256 ^ (t + 1) % 256 ^ t := fun x => (Nat.mod_mod_of_dvd x (by rw [Nat.pow_succ]; exact Nat.dvd_mul_right ..)).symm
      rw [e n, e m, h]
    have h2 : n / 256 ^ t % 256 = m / 256 ^ t % 256 := by
      have e : ∀ x : Nat, x / 256 ^ t % 256 = x % 256 ^ (t + 1) / 256 ^ t := fun x => by
        rw [Nat.pow_succ, Nat.mod_mul_right_div_self]
      rw [e n, e m, h]
    rw [big_mod t n m h1]
    congr 1
    apply UInt8.toNat_inj.1
    rw [byteN_toNat, byteN_toNat, h2]
theorem big_valB : ∀ l : List UInt8, big (valB l) l.length l.length = l
  | [] => rfl
  | c :: l => by
    have hl := valB_lt l
    have h0 : 0 < 256 ^ l.length := Nat.pow_pos (by decide)
    rw [List.length_cons, big_cons, valB_cons]
    congr 1
    · rw [Nat.mul_comm, Nat.mul_add_div h0, Nat.div_eq_of_lt hl, Nat.add_zero, byteN_of]
    · have := big_mod l.length (c.toNat * 256 ^ l.length + valB l) (valB l) (by rw [Nat.mul_comm, Nat.mul_add_mod])
      rw [this, big_valB l]
theorem takeNum_inv {l u : List UInt8} {n : Nat} (h : takeNum l = some (n, u)) : l = numB n ++ u := by
  cases l with
  | nil => cases h
  | cons f t =>
    rw [takeNum] at h
    have hf := f.toNat_lt
    split at h
    · rename_i h1
      cases h
      unfold numB
      rw [if_pos h1, byteN_of]
      rfl
    · rename_i h1
      split at h
      · cases h
      · rename_i h2
        split at h
        · cases h
        · rename_i h3
          obtain ⟨h4, h5⟩ := Prod.mk.inj (Option.some.inj h)
          subst h4
          subst h5
          have hl : (t.take (f.toNat - 247)).length = f.toNat - 247 := by rw [List.length_take]; omega
          have hv := valB_lt (t.take (f.toNat - 247))
          rw [hl] at hv
          have h8 : f.toNat - 247 ≤ 8 := by omega
          have hb := Lib.bitLen_le (valB (t.take (f.toNat - 247))) (8 * (f.toNat - 247)) (by omega) (by rw [Nat.pow_mul]; exact hv)
          have hL : lenB (valB (t.take (f.toNat - 247))) = f.toNat - 247 := by
            unfold lenB
            omega
          have hbig := big_valB (t.take (f.toNat - 247))
          rw [hl] at hbig
          unfold numB
          rw [if_neg (by omega), hL, hbig, List.cons_append, List.take_append_drop, show 247 + (f.toNat - 247) = f.toNat from by omega, byteN_of]
theorem takeText_inv {l s u : List UInt8} (h : takeText l = some (s, u)) : l = numB s.length ++ s ++ u ∧ s.length ≤ 1024 := by
  unfold takeText at h
  cases e : takeNum l with
  | none => rw [e] at h; cases h
  | some x =>
    obtain ⟨m, t⟩ := x
    rw [e] at h
    dsimp only at h
    split at h
    · cases h
    · rename_i h1
      cases h
      have hl : (t.take m).length = m := by rw [List.length_take]; omega
      rw [hl, takeNum_inv e, List.append_assoc, List.take_append_drop]
      exact ⟨rfl, by omega⟩

/-- What the reference looks at: whether the number's bytes are these. -/
theorem numB_canon {f : UInt8} {t : List UInt8} {k : Nat} (h : ¬ f.toNat < 248) (hk : f.toNat = k + 247) (hl : k ≤ t.length) : (numB (valB (t.take k)) = f :: t.take k) ↔ ¬ (valB (t.take k) < 248 ∨ Lib.bitLen (valB (t.take k)) ≤ 8 * (k - 1)) := by
  have hf := f.toNat_lt
  have htn : takeNum (f :: t) = if valB (t.take k) < 248 ∨ Lib.bitLen (valB (t.take k)) ≤ 8 * (k - 1) then none else some (valB (t.take k), t.drop k) := by
    rw [takeNum, if_neg h, show f.toNat - 247 = k from by omega, show f.toNat - 248 = k - 1 from by omega, if_neg (by omega)]
  constructor
  · intro e hc
    rw [if_pos hc] at htn
    have hV : valB (t.take k) < 18446744073709551616 := by
      have := valB_lt (t.take k)
      exact Nat.lt_of_lt_of_le this (Nat.le_trans (Nat.pow_le_pow_right (by decide) (show (t.take k).length ≤ 8 by rw [List.length_take]; omega)) (by decide +kernel))
    have h2 := takeNum_put hV (t.drop k)
    rw [e, List.cons_append, List.take_append_drop, htn] at h2
    cases h2
  · intro hc
    rw [if_neg hc] at htn
    have h2 := takeNum_inv htn
    have h3 : (f :: t.take k) ++ t.drop k = numB (valB (t.take k)) ++ t.drop k := by rw [← h2, List.cons_append, List.take_append_drop]
    exact (List.append_cancel_right h3).symm

/-! ### With how many bytes both begin -/
def comM : List UInt8 → List UInt8 → Nat
  | a :: x, b :: y => if a = b then comM x y + 1 else 0
  | _, _ => 0
theorem comM_le : ∀ x y : List UInt8, comM x y ≤ x.length ∧ comM x y ≤ y.length ∧ x.take (comM x y) = y.take (comM x y)
  | [], _ => by simp [comM]
  | _ :: _, [] => by simp [comM]
  | a :: x, b :: y => by
    rw [comM]
    split
    · rename_i h
      subst h
      obtain ⟨h1, h2, h3⟩ := comM_le x y
      exact ⟨by simpa using h1, by simpa using h2, by rw [List.take_succ_cons, List.take_succ_cons, h3]⟩
    · simp
theorem comM_ge : ∀ (x : List UInt8) (n : Nat) (s : List UInt8), n ≤ x.length → n ≤ comM x (x.take n ++ s)
  | _, 0, _, _ => Nat.zero_le _
  | [], n + 1, _, h => by simp at h
  | a :: x, n + 1, s, h => by
    rw [List.take_succ_cons, List.cons_append, comM, if_pos rfl]
    have := comM_ge x n s (by simpa using h)
    omega
/-- As a loop has it: how many are alike up to place j, and then no more. -/
theorem comM_at : ∀ (x y : List UInt8) (k : Nat), k ≤ x.length → k ≤ y.length → (∀ j, j < k → x.getD j 0 = y.getD j 0) → (k = min x.length y.length ∨ x.getD k 0 ≠ y.getD k 0) → comM x y = k
  | [], y, k, h1, _, _, _ => by
    simp at h1
    subst h1
    simp [comM]
  | a :: x, [], k, _, h2, _, _ => by
    simp at h2
    subst h2
    simp [comM]
  | a :: x, b :: y, 0, _, _, _, h4 => by
    rw [comM, if_neg]
    rintro rfl
    rcases h4 with h | h
    · simp at h
    · exact h (by simp)
  | a :: x, b :: y, k + 1, h1, h2, h3, h4 => by
    have h0 : a = b := by have := h3 0 (by omega); simpa using this
    rw [comM, if_pos h0, comM_at x y k (by simpa using h1) (by simpa using h2) (fun j hj => by have := h3 (j + 1) (by omega); simpa using this) ?_]
    rcases h4 with h | h
    · left; simp at h; omega
    · right; simpa using h

/-! ### Words as bytes -/
def putF (last : List UInt8) : List (List UInt8) → List UInt8
  | [] => []
  | w :: t => numB (comM last w) ++ (numB (w.drop (comM last w)).length ++ w.drop (comM last w)) ++ putF w t
def putM (l : List (List UInt8)) : Option (List UInt8) := if rightW l = true then some (numB l.length ++ putF [] l) else none
/-- So many words, one behind the other, each by how much it has with the one ahead. -/
def takeF : Nat → List UInt8 → List (List UInt8) → List UInt8 → Option (List (List UInt8) × List UInt8)
  | 0, _, a, p => some (a, p)
  | k + 1, last, a, p =>
    match takeNum p with
    | none => none
    | some (n, u) =>
      match takeText u with
      | none => none
      | some (s, v) =>
        if last.length < n then none
        else if comM last (last.take n ++ s) = n then takeF k (last.take n ++ s) (a ++ [last.take n ++ s]) v else none
/-- The reference's: it looks at what would be put only at the end. -/
def takeG : Nat → List UInt8 → List (List UInt8) → List UInt8 → Option (List (List UInt8) × List UInt8)
  | 0, _, a, p => some (a, p)
  | k + 1, last, a, p =>
    match takeNum p with
    | none => none
    | some (n, u) =>
      match takeText u with
      | none => none
      | some (s, v) => if last.length < n then none else takeG k (last.take n ++ s) (a ++ [last.take n ++ s]) v
theorem takeF_G : ∀ (k : Nat) (last : List UInt8) (a : List (List UInt8)) (p : List UInt8) (x : List (List UInt8) × List UInt8), takeF k last a p = some x → takeG k last a p = some x
  | 0, _, _, _, _, h => h
  | k + 1, last, a, p, x, h => by
    rw [takeF] at h
    rw [takeG]
    cases e : takeNum p with
    | none => rw [e] at h; cases h
    | some y =>
      obtain ⟨n, u⟩ := y
      rw [e] at h
      dsimp only at h ⊢
      cases e2 : takeText u with
      | none => rw [e2] at h; cases h
      | some z =>
        obtain ⟨s, v⟩ := z
        rw [e2] at h
        dsimp only at h ⊢
        split at h
        · cases h
        · rename_i h1
          split at h
          · rw [if_neg h1]
            exact takeF_G k _ _ _ _ h
          · cases h
theorem takeG_len : ∀ (k : Nat) (last : List UInt8) (a : List (List UInt8)) (p : List UInt8) (x : List (List UInt8) × List UInt8), takeG k last a p = some x → ∃ w, x.1 = a ++ w ∧ w.length = k
  | 0, _, a, _, _, h => by cases h; exact ⟨[], by simp, rfl⟩
  | k + 1, last, a, p, x, h => by
    rw [takeG] at h
    cases e : takeNum p with
    | none => rw [e] at h; cases h
    | some y =>
      obtain ⟨n, u⟩ := y
      rw [e] at h
      dsimp only at h
      cases e2 : takeText u with
      | none => rw [e2] at h; cases h
      | some z =>
        obtain ⟨s, v⟩ := z
        rw [e2] at h
        dsimp only at h
        split at h
        · cases h
        · obtain ⟨w, h1, h2⟩ := takeG_len k _ _ _ _ h
          exact ⟨(last.take n ++ s) :: w, by rw [h1]; simp, by rw [List.length_cons, h2]⟩
/-- What stands behind is the bytes' end. -/
theorem takeG_suf : ∀ (k : Nat) (last : List UInt8) (a : List (List UInt8)) (p : List UInt8) (x : List (List UInt8) × List UInt8), takeG k last a p = some x → ∃ j, x.2 = p.drop j
  | 0, _, a, _, _, h => by cases h; exact ⟨0, rfl⟩
  | k + 1, last, a, p, x, h => by
    rw [takeG] at h
    cases e : takeNum p with
    | none => rw [e] at h; cases h
    | some y =>
      obtain ⟨n, u⟩ := y
      rw [e] at h
      dsimp only at h
      cases e2 : takeText u with
      | none => rw [e2] at h; cases h
      | some z =>
        obtain ⟨s, v⟩ := z
        rw [e2] at h
        dsimp only at h
        split at h
        · cases h
        · obtain ⟨j1, rfl, _⟩ := takeNum_suf e
          obtain ⟨_, j2, rfl, _⟩ := takeText_suf e2
          obtain ⟨j3, h1⟩ := takeG_suf k _ _ _ _ h
          exact ⟨j1 + (j2 + j3), by rw [h1, List.drop_drop, List.drop_drop]⟩
/-- What was taken was put so. -/
theorem takeF_put : ∀ (k : Nat) (last : List UInt8) (a : List (List UInt8)) (p : List UInt8) (x : List (List UInt8) × List UInt8), takeF k last a p = some x → ∃ w, x.1 = a ++ w ∧ w.length = k ∧ p = putF last w ++ x.2
  | 0, _, a, p, _, h => by cases h; exact ⟨[], by simp, rfl, by simp [putF]⟩
  | k + 1, last, a, p, x, h => by
    rw [takeF] at h
    cases e : takeNum p with
    | none => rw [e] at h; cases h
    | some y =>
      obtain ⟨n, u⟩ := y
      rw [e] at h
      dsimp only at h
      cases e2 : takeText u with
      | none => rw [e2] at h; cases h
      | some z =>
        obtain ⟨s, v⟩ := z
        rw [e2] at h
        dsimp only at h
        split at h
        · cases h
        · rename_i h1
          split at h
          · rename_i h2
            obtain ⟨w, h3, h4, h5⟩ := takeF_put k _ _ _ _ h
            refine ⟨(last.take n ++ s) :: w, by rw [h3]; simp, by rw [List.length_cons, h4], ?_⟩
            have hd : (last.take n ++ s).drop n = s := List.drop_left' (by rw [List.length_take]; omega)
            rw [putF, h2, hd, takeNum_inv e, (takeText_inv e2).1, h5]
            simp only [List.append_assoc]
          · cases h
/-- And so is what the reference takes, if it would be put so. -/
theorem takeG_F : ∀ (k : Nat) (last : List UInt8) (a : List (List UInt8)) (p : List UInt8) (w : List (List UInt8)) (r : List UInt8), last.length + 1024 * k < 18446744073709551616 → takeG k last a p = some (a ++ w, r) → p = putF last w ++ r → takeF k last a p = some (a ++ w, r)
  | 0, _, _, _, _, _, _, h, _ => h
  | k + 1, last, a, p, w, r, hk, h, hp => by
    rw [takeG] at h
    rw [takeF]
    cases e : takeNum p with
    | none => rw [e] at h; cases h
    | some y =>
      obtain ⟨n, u⟩ := y
      rw [e] at h
      dsimp only at h ⊢
      cases e2 : takeText u with
      | none => rw [e2] at h; cases h
      | some z =>
        obtain ⟨s, v⟩ := z
        rw [e2] at h
        dsimp only at h ⊢
        split at h
        · cases h
        · rename_i h1
          obtain ⟨w2, h2, h3⟩ := takeG_len k _ _ _ _ h
          rw [if_neg h1]
          have hw : w = (last.take n ++ s) :: w2 := by
            have : a ++ w = a ++ [last.take n ++ s] ++ w2 := h2
            rw [List.append_assoc] at this
            exact List.append_cancel_left this
          have hs := (takeText_inv e2).2
          have hge := comM_ge last n s (by omega)
          have hle := comM_le last (last.take n ++ s)
          rw [hw, putF] at hp
          simp only [List.append_assoc] at hp
          have e' := e
          rw [hp, takeNum_put (by omega)] at e'
          obtain ⟨h4, h5⟩ := Prod.mk.inj (Option.some.inj e')
          have hd : (last.take n ++ s).drop n = s := List.drop_left' (by rw [List.length_take]; omega)
          rw [if_pos h4]
          rw [h4, hd] at h5
          have e2' := e2
          rw [← h5, ← List.append_assoc, takeText_put hs] at e2'
          obtain ⟨_, h6⟩ := Prod.mk.inj (Option.some.inj e2')
          have h7 : a ++ w = a ++ [last.take n ++ s] ++ w2 := h2
          rw [h7] at h ⊢
          refine takeG_F k _ _ _ w2 r ?_ h h6.symm
          rw [List.length_append, List.length_take]
          omega
/-- What was put is taken, with whatever stands behind. -/
theorem takeF_of : ∀ (l : List (List UInt8)) (last : List UInt8) (a : List (List UInt8)) (U : List UInt8), last.length ≤ 1024 → (∀ x ∈ l, x.length ≤ 1024) → takeF l.length last a (putF last l ++ U) = some (a ++ l, U)
  | [], last, a, U, _, _ => by simp [takeF, putF]
  | w :: t, last, a, U, hl, h => by
    obtain ⟨h1, h2, h3⟩ := comM_le last w
    have hw := h w (List.mem_cons_self ..)
    rw [List.length_cons, takeF, putF]
    simp only [List.append_assoc]
    rw [takeNum_put (by omega)]
    dsimp only
    rw [← List.append_assoc (numB _), takeText_put (by rw [List.length_drop]; omega)]
    dsimp only
    rw [if_neg (by omega), h3, List.take_append_drop, if_pos rfl, takeF_of t w _ U hw (fun x hx => h x (List.mem_cons_of_mem _ hx))]
    simp
def takeM (b : List UInt8) : Option (List (List UInt8) × List UInt8) :=
  match takeNum b with
  | none => none
  | some (m, u) => if 200 < m then none else match takeF m [] [] u with | none => none | some (w, r) => if rightW w = true then some (w, r) else none
def rTakeM (b : List UInt8) : Option (List (List UInt8) × List UInt8) :=
  match takeNum b with
  | none => none
  | some (m, u) => if 200 < m then none else match takeG m [] [] u with | none => none | some (w, r) => if putM w = some (b.take (b.length - r.length)) then some (w, r) else none
theorem rightW_le {l : List (List UInt8)} (h : rightW l = true) : (∀ x ∈ l, x.length ≤ 1024) ∧ l.length ≤ 200 := by
  unfold rightW at h
  rw [Bool.and_eq_true, Bool.and_eq_true, List.all_eq_true] at h
  exact ⟨fun x hx => of_decide_eq_true (h.1.1 x hx), of_decide_eq_true h.2⟩
theorem takeM_put {b : List UInt8} {w : List (List UInt8)} {r : List UInt8} (h : takeM b = some (w, r)) : rightW w = true ∧ b = numB w.length ++ putF [] w ++ r := by
  unfold takeM at h
  cases e : takeNum b with
  | none => rw [e] at h; cases h
  | some y =>
    obtain ⟨m, u⟩ := y
    rw [e] at h
    dsimp only at h
    split at h
    · cases h
    · cases e2 : takeF m [] [] u with
      | none => rw [e2] at h; cases h
      | some z =>
        obtain ⟨w', r'⟩ := z
        rw [e2] at h
        dsimp only at h
        split at h
        · rename_i hr
          cases h
          obtain ⟨w2, h1, h2, h3⟩ := takeF_put m [] [] u _ e2
          rw [List.nil_append] at h1
          cases h1
          refine ⟨hr, ?_⟩
          rw [takeNum_inv e, h2, h3, List.append_assoc]
        · cases h
theorem takeM_same (b : List UInt8) : takeM b = rTakeM b := by
  cases hM : takeM b with
  | some x =>
    obtain ⟨w, r⟩ := x
    obtain ⟨hr, hb⟩ := takeM_put hM
    unfold takeM at hM
    unfold rTakeM
    cases e : takeNum b with
    | none => rw [e] at hM; cases hM
    | some y =>
      obtain ⟨m, u⟩ := y
      rw [e] at hM
      dsimp only at hM ⊢
      split at hM
      · cases hM
      · rename_i hm
        rw [if_neg hm]
        cases e2 : takeF m [] [] u with
        | none => rw [e2] at hM; cases hM
        | some z =>
          obtain ⟨w', r'⟩ := z
          rw [e2] at hM
          dsimp only at hM
          rw [if_pos (by split at hM; assumption; cases hM)] at hM
          cases hM
          rw [takeF_G _ _ _ _ _ e2]
          dsimp only
          rw [if_pos]
          unfold putM
          rw [if_pos hr, hb, List.length_append, Nat.add_sub_cancel, List.take_left]
  | none =>
    unfold rTakeM
    cases e : takeNum b with
    | none => rfl
    | some y =>
      obtain ⟨m, u⟩ := y
      dsimp only
      split
      · rfl
      · rename_i hm
        cases e2 : takeG m [] [] u with
        | none => rfl
        | some z =>
          obtain ⟨w, r⟩ := z
          dsimp only
          split
          · rename_i hp
            exfalso
            unfold putM at hp
            split at hp
            · rename_i hr
              obtain ⟨w2, h1, h2⟩ := takeG_len m [] [] u _ e2
              rw [List.nil_append] at h1
              cases h1
              have hp' : numB w.length ++ putF [] w = b.take (b.length - r.length) := Option.some.inj hp
              obtain ⟨kk, hk⟩ := takeG_suf m [] [] u _ e2
              have hu := takeNum_inv e
              have hb : b = b.take (b.length - r.length) ++ r := by
                have h3 : b = numB m ++ u.take kk ++ r := by rw [List.append_assoc, show u.take kk ++ r = u from by rw [show r = u.drop kk from hk, List.take_append_drop], ← hu]
                have h4 : b.length - r.length = (numB m ++ u.take kk).length := by
                  have := congrArg List.length h3
                  rw [List.length_append] at this
                  omega
                conv => lhs; rw [h3]
                rw [h4]
                conv => rhs; rw [h3]
                rw [List.take_left]
              rw [← hp', h2] at hb
              have h5 : u = putF [] w ++ r := by
                rw [hb, List.append_assoc] at hu
                exact (List.append_cancel_left hu).symm
              have h6 := takeG_F m [] [] u w r (by simp; omega) (by simpa using e2) h5
              unfold takeM at hM
              rw [e] at hM
              dsimp only at hM
              rw [if_neg hm, h6] at hM
              dsimp only [List.nil_append] at hM
              rw [if_pos hr] at hM
              cases hM
            · cases hp
          · rfl
/-- Words that were put are taken, with whatever stands behind. -/
theorem takeM_of {l : List (List UInt8)} (h : rightW l = true) (U : List UInt8) : takeM (numB l.length ++ putF [] l ++ U) = some (l, U) := by
  obtain ⟨h1, h2⟩ := rightW_le h
  unfold takeM
  rw [List.append_assoc, takeNum_put (by omega)]
  dsimp only
  rw [if_neg (by omega), takeF_of l [] [] U (by simp) h1]
  dsimp only
  rw [List.nil_append, if_pos h]
end Go.Proofs.Ytojppmnmhdgnnaa
