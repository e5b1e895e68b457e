/- A tree of losers: plain laws, with no program in sight. How two rows stand to each other by keys: plain laws, with no program in sight. -/
import Derived.Test.YtcadjekcdokkjaaGreatMBaCr
import Derived.Test.YtcadjekcdokkjaaGreatMMeM
import Derived.Test.YtcadjekcdokkjaaGreatMStSt
import Derived.Test.YtcadjekcdokkjaaGreatMSqMN
namespace Go.Proofs.YtcadjekcdokkjaaGreat
set_option linter.unusedVariables false
set_option linter.unusedSimpArgs false
namespace Lt
def Up (x c : Nat) : Prop := ∃ k, c / 2 ^ k = x
theorem up_self (c : Nat) : Up c c := ⟨0, by simp⟩
theorem up_half {x c : Nat} (h : Up x (c / 2)) : Up x c := by
 obtain ⟨k, rfl⟩ := h
 exact ⟨k + 1, by rw [Nat.pow_succ', Nat.div_div_eq_div_mul]⟩
theorem up_or {x c : Nat} (h : Up x c) : x = c ∨ Up x (c / 2) := by
 obtain ⟨k, rfl⟩ := h
 cases k with
 | zero => exact .inl (by simp)
 | succ k => exact .inr ⟨k, by rw [Nat.pow_succ', Nat.div_div_eq_div_mul]⟩
theorem up_up {x c : Nat} (h : Up x c) : Up (x / 2) c := by
 obtain ⟨k, rfl⟩ := h
 exact ⟨k + 1, by rw [Nat.pow_succ, Nat.div_div_eq_div_mul]⟩
theorem up_le {x c : Nat} (h : Up x c) : x ≤ c := by
 obtain ⟨k, rfl⟩ := h
 exact Nat.div_le_self _ _
theorem up_zero {x : Nat} (h : Up x 0) : x = 0 := Nat.le_zero.1 (up_le h)
theorem up_child {x c : Nat} (h : Up x c) (hx : x ≠ c) : Up (2 * x) c ∨ Up (2 * x + 1) c := by
 obtain ⟨k, rfl⟩ := h
 cases k with
 | zero => exact absurd (by simp) hx
 | succ k =>
  have e : c / 2 ^ (k + 1) = c / 2 ^ k / 2 := by rw [Nat.pow_succ, Nat.div_div_eq_div_mul]
  rw [e]
  rcases Nat.mod_two_eq_zero_or_one (c / 2 ^ k) with h | h
  ·exact .inl ⟨k, by omega⟩
  ·exact .inr ⟨k, by omega⟩
theorem up_twin {a b c : Nat} (ha : Up a c) (hb : Up b c) (h : a / 2 = b / 2) (h1 : 1 ≤ a / 2) : a = b := by
 have key : ∀ {a b j d : Nat}, c / 2 ^ j = a → c / 2 ^ (j + (d + 1)) = b → a / 2 = b / 2 → 1 ≤ a / 2 → False := fun {a b j d} h1 h2 h3 h4 => by
  have e : c / 2 ^ (j + (d + 1)) = c / 2 ^ j / 2 / 2 ^ d := by
   rw [Nat.pow_add, Nat.pow_succ', Nat.div_div_eq_div_mul, Nat.div_div_eq_div_mul]
  rw [e, h1] at h2
  have : b ≤ a / 2 := by rw [← h2]; exact Nat.div_le_self _ _
  omega
 obtain ⟨j, hj⟩ := ha
 obtain ⟨k, hk⟩ := hb
 rcases Nat.lt_trichotomy j k with hjk | hjk | hjk
 ·obtain ⟨d, rfl⟩ : ∃ d, k = j + (d + 1) := ⟨k - j - 1, by omega⟩
  exact (key hj hk h h1).elim
 ·rw [← hj, ← hk, hjk]
 ·obtain ⟨d, rfl⟩ : ∃ d, j = k + (d + 1) := ⟨j - k - 1, by omega⟩
  exact (key hk hj h.symm (by omega)).elim
theorem up_one : ∀ (n : Nat), 1 ≤ n → Up 1 n := fun n => by
 induction n using Nat.strongRecOn with
 | ind n ih =>
  intro h
  by_cases h1 : n = 1
  ·rw [h1]; exact up_self 1
  ·exact up_half (ih (n / 2) (by omega) (by omega))
structure Bts (bt : Nat → Nat → Bool) : Prop where
 irr : ∀ a, bt a a = false
 asym : ∀ a b, bt a b = true → bt b a = false
 neg : ∀ a b c, bt b a = false → bt c b = false → bt c a = false
def Won (bt : Nat → Nat → Bool) (S W : Nat → Nat) (i : Nat) : Prop :=
 (W i = W (2 * i) ∧ S i = W (2 * i + 1) ∨ W i = W (2 * i + 1) ∧ S i = W (2 * i)) ∧ bt (S i) (W i) = false
structure Tr (bt : Nat → Nat → Bool) (sz : Nat) (S W : Nat → Nat) : Prop where
 leaf : ∀ i, i < sz → W (sz + i) = i
 node : ∀ i, 0 < i → i < sz → Won bt S W i
variable {bt bt' : Nat → Nat → Bool} {sz : Nat} {S S' W W' : Nat → Nat}
theorem down (P : Nat → Prop) (h1 : ∀ i, i < sz → P (sz + i)) (h2 : ∀ i, 0 < i → i < sz → P (2 * i) → P (2 * i + 1) → P i) : ∀ i, 0 < i → i < 2 * sz → P i := by
 have : ∀ (d i : Nat), 2 * sz - i ≤ d → 0 < i → i < 2 * sz → P i := fun d => by
  induction d with
  | zero => intro i h3 h4 h5; omega
  | succ d ih =>
   intro i h3 h4 h5
   by_cases hi : i < sz
   ·exact h2 i h4 hi (ih _ (by omega) (by omega) (by omega)) (ih _ (by omega) (by omega) (by omega))
   ·have := h1 (i - sz) (by omega)
    rwa [show sz + (i - sz) = i from by omega] at this
 exact fun i => this (2 * sz) i (by omega)
theorem Tr.from_ (h : Tr bt sz S W) : ∀ i, 0 < i → i < 2 * sz → W i < sz ∧ Up i (sz + W i) := by
 refine down _ (fun i hi => by rw [h.leaf i hi]; exact ⟨hi, up_self _⟩) fun i h0 hi h1 h2 => ?_
 have hu : ∀ y L, y / 2 = i → Up y L → Up i L := fun y L hy hu => by rw [← hy]; exact up_up hu
 rcases (h.node i h0 hi).1 with ⟨e, _⟩ | ⟨e, _⟩
 ·rw [e]; exact ⟨h1.1, hu _ _ (by omega) h1.2⟩
 ·rw [e]; exact ⟨h2.1, hu _ _ (by omega) h2.2⟩
theorem Tr.least (h : Tr bt sz S W) (B : Bts bt) : ∀ i, 0 < i → i < 2 * sz → ∀ j, j < sz → Up i (sz + j) → bt j (W i) = false := by
 refine down _ (fun i hi j hj hu => ?_) fun i h0 hi h1 h2 j hj hu => ?_
 ·rw [h.leaf i hi]
  rcases up_or hu with e | hu'
  ·rw [show i = j from by omega]; exact B.irr j
  ·have := up_le hu'; omega
 ·have hn := h.node i h0 hi
  rcases up_child hu (by omega) with hc | hc
  ·have h3 := h1 j hj hc
   rcases hn.1 with ⟨e, e'⟩ | ⟨e, e'⟩
   ·rw [e]; exact h3
   ·have h4 := hn.2
    rw [e'] at h4
    exact B.neg _ _ _ h4 h3
  ·have h3 := h2 j hj hc
   rcases hn.1 with ⟨e, e'⟩ | ⟨e, e'⟩
   ·have h4 := hn.2
    rw [e'] at h4
    exact B.neg _ _ _ h4 h3
   ·rw [e]; exact h3
theorem Tr.first (h : Tr bt sz S W) (B : Bts bt) (hs : 0 < sz) : W 1 < sz ∧ ∀ j, j < sz → bt j (W 1) = false :=
 ⟨(h.from_ 1 (by omega) (by omega)).1, fun j hj => h.least B 1 (by omega) (by omega) j hj (up_one _ (by omega))⟩
theorem Tr.path (h : Tr bt sz S W) (hs : 0 < sz) : ∀ (x : Nat), Up x (sz + W 1) → 1 ≤ x → W x = W 1 := fun x => by
 induction x using Nat.strongRecOn with
 | ind x ih =>
  intro hu h1
  by_cases hx : x = 1
  ·rw [hx]
  ·have hl := up_le hu
   have hW := (h.from_ 1 (by omega) (by omega)).1
   have h2 := ih (x / 2) (by omega) (up_up hu) (by omega)
   have hn := (h.node (x / 2) (by omega) (by omega)).1
   have tw : ∀ y, y / 2 = x / 2 → W y = W 1 → W x = W 1 := fun y hy hw => by
    have hy' := (h.from_ y (by omega) (by omega)).2
    rw [hw] at hy'
    rw [← up_twin hy' hu hy (by omega)]
    exact hw
   rcases hn with ⟨e, _⟩ | ⟨e, _⟩
   ·exact tw (2 * (x / 2)) (by omega) (e.symm.trans h2)
   ·exact tw (2 * (x / 2) + 1) (by omega) (e.symm.trans h2)
def sib (x : Nat) : Nat := if x % 2 = 0 then x + 1 else x - 1
theorem sib_two {x : Nat} (h : 2 ≤ x) : (x = 2 * (x / 2) ∧ sib x = 2 * (x / 2) + 1) ∨ (x = 2 * (x / 2) + 1 ∧ sib x = 2 * (x / 2)) := by
 unfold sib
 split <;> omega
structure Way (bt : Nat → Nat → Bool) (sz : Nat) (S W : Nat → Nat) (c : Nat) : Prop where
 leaf : ∀ i, i < sz → W (sz + i) = i
 node : ∀ i, 0 < i → i < sz → ¬ Up i (c / 2) → Won bt S W i
 above : ∀ x, Up x c → 2 ≤ x → S (x / 2) = W (sib x)
theorem Tr.way (h : Tr bt sz S W) (hs : 0 < sz) (hb : ∀ a b, a ≠ W 1 → b ≠ W 1 → bt' a b = bt a b) : Way bt' sz S W (sz + W 1) := by
 have hW := (h.from_ 1 (by omega) (by omega)).1
 have hoff : ∀ i, 0 < i → i < 2 * sz → ¬ Up i (sz + W 1) → W i ≠ W 1 := fun i h0 hi hu e => by
  have := (h.from_ i h0 hi).2
  rw [e] at this
  exact hu this
 refine ⟨h.leaf, fun i h0 hi hu => ?_, fun x hu hx => ?_⟩
 ·have hu' : ¬ Up i (sz + W 1) := fun h2 => by
   rcases up_or h2 with e | h2
   ·omega
   ·exact hu h2
  have hn := h.node i h0 hi
  have c1 : ¬ Up (2 * i) (sz + W 1) := fun h2 => hu' (by have := up_up h2; rwa [show 2 * i / 2 = i from by omega] at this)
  have c2 : ¬ Up (2 * i + 1) (sz + W 1) := fun h2 => hu' (by have := up_up h2; rwa [show (2 * i + 1) / 2 = i from by omega] at this)
  refine ⟨hn.1, ?_⟩
  rw [hb _ _ ?_ (hoff i h0 (by omega) hu')]
  ·exact hn.2
  ·rcases hn.1 with ⟨_, e⟩ | ⟨_, e⟩
   ·rw [e]; exact hoff _ (by omega) (by omega) c2
   ·rw [e]; exact hoff _ (by omega) (by omega) c1
 ·have hl := up_le hu
  have h2 := h.path hs (x / 2) (up_up hu) (by omega)
  have h3 := h.path hs x hu (by omega)
  have hn := h.node (x / 2) (by omega) (by omega)
  have hsb := sib_two hx
  have hns : W (sib x) ≠ W 1 := by
   refine hoff _ ?_ ?_ fun h4 => ?_
   ·rcases hsb with ⟨_, e⟩ | ⟨_, e⟩ <;> omega
   ·rcases hsb with ⟨_, e⟩ | ⟨_, e⟩ <;> omega
   ·have := up_twin h4 hu (by rcases hsb with ⟨_, e⟩ | ⟨_, e⟩ <;> omega) (by rcases hsb with ⟨_, e⟩ | ⟨_, e⟩ <;> omega)
    rcases hsb with ⟨_, e⟩ | ⟨_, e⟩ <;> omega
  rcases hn.1 with ⟨e, e'⟩ | ⟨e, e'⟩
  ·rcases hsb with ⟨a, b⟩ | ⟨a, b⟩
   ·rw [e', b]
   ·rw [← b] at e
    exact absurd (e.symm.trans h2) hns
  ·rcases hsb with ⟨a, b⟩ | ⟨a, b⟩
   ·rw [← b] at e
    exact absurd (e.symm.trans h2) hns
   ·rw [e', b]
def upd (f : Nat → Nat) (i v : Nat) : Nat → Nat := fun j => if j = i then v else f j
theorem upd_at (f : Nat → Nat) (i v : Nat) : upd f i v i = v := if_pos rfl
theorem upd_ne (f : Nat → Nat) {i j : Nat} (v : Nat) (h : j ≠ i) : upd f i v j = f j := if_neg h
theorem Way.step (B : Bts bt) {c : Nat} (h : Way bt sz S W c) (hc : 2 ≤ c) (hc2 : c < 2 * sz) :
  (bt (S (c / 2)) (W c) = true → Way bt sz (upd S (c / 2) (W c)) (upd W (c / 2) (S (c / 2))) (c / 2)) ∧
  (bt (S (c / 2)) (W c) = false → Way bt sz S (upd W (c / 2) (W c)) (c / 2)) := by
 have hS := h.above c (up_self c) hc
 have hsb := sib_two hc
 have hW : ∀ v j, j ≠ c / 2 → upd W (c / 2) v j = W j := fun v j hj => upd_ne W v hj
 have main : ∀ (S2 : Nat → Nat) (v : Nat), (∀ j, j ≠ c / 2 → S2 j = S j) → ((v = W c ∧ S2 (c / 2) = W (sib c)) ∨ (v = W (sib c) ∧ S2 (c / 2) = W c)) → bt (S2 (c / 2)) v = false → Way bt sz S2 (upd W (c / 2) v) (c / 2) := fun S2 v h1 h2 h3 => by
  refine ⟨fun i hi => ?_, fun i h0 hi hu => ?_, fun x hu hx => ?_⟩
  ·rw [hW _ _ (by omega)]; exact h.leaf i hi
  ·by_cases hic : i = c / 2
   ·subst hic
    refine ⟨?_, by rw [upd_at]; exact h3⟩
    rw [upd_at, hW _ _ (by omega), hW _ _ (by omega)]
    rcases hsb with ⟨a, b⟩ | ⟨a, b⟩
    ·rw [← b]
     rw [show W (2 * (c / 2)) = W c from by rw [← a]]
     rcases h2 with ⟨e, e'⟩ | ⟨e, e'⟩
     ·exact .inl ⟨e, e'⟩
     ·exact .inr ⟨e, e'⟩
    ·rw [show W (2 * (c / 2) + 1) = W c from by rw [← a], ← b]
     rcases h2 with ⟨e, e'⟩ | ⟨e, e'⟩
     ·exact .inr ⟨e, e'⟩
     ·exact .inl ⟨e, e'⟩
   ·have hn := h.node i h0 hi fun h4 => by
     rcases up_or h4 with e | h4
     ·exact hic e
     ·exact hu h4
    have hne : ∀ y, y / 2 = i → y ≠ c / 2 := fun y hy e => hu (by
     rw [← hy, e]
     exact up_self _)
    unfold Won at hn ⊢
    rw [hW _ _ hic, hW _ _ (hne (2 * i) (by omega)), hW _ _ (hne (2 * i + 1) (by omega)), h1 i hic]
    exact hn
  ·have hl := up_le hu
   have h4 := h.above x (up_half hu) hx
   have hsx := sib_two hx
   rw [h1 _ (by omega), h4, hW]
   rcases up_or hu with e | hu'
   ·rcases hsx with ⟨a, b⟩ | ⟨a, b⟩ <;> omega
   ·have := up_le hu'
    rcases hsx with ⟨a, b⟩ | ⟨a, b⟩ <;> omega
 refine ⟨fun hb => main _ _ (fun j hj => upd_ne S _ hj) (.inr ⟨hS, upd_at _ _ _⟩) (by rw [upd_at]; exact B.asym _ _ hb), fun hb => main _ _ (fun _ _ => rfl) (.inl ⟨rfl, hS⟩) hb⟩
theorem Way.done (h : Way bt sz S W 1) : Tr bt sz S W := ⟨h.leaf, fun i h0 hi => h.node i h0 hi fun hu => by
 have := up_zero hu
 omega⟩
theorem Tr.zero (h : Tr bt sz S W) (v : Nat) : Tr bt sz (upd S 0 v) W := ⟨h.leaf, fun i h0 hi => by
 have hn := h.node i h0 hi
 unfold Won at hn ⊢
 rw [upd_ne _ _ (by omega)]
 exact hn⟩
/-! ### Played for the first time -/
def win (bt : Nat → Nat → Bool) (sz : Nat) (i : Nat) : Nat :=
 if h : sz ≤ i ∨ i = 0 then i - sz else if bt (win bt sz (2 * i + 1)) (win bt sz (2 * i)) = true then win bt sz (2 * i + 1) else win bt sz (2 * i)
termination_by sz - i
decreasing_by all_goals omega
def lose (bt : Nat → Nat → Bool) (sz : Nat) (i : Nat) : Nat := if bt (win bt sz (2 * i + 1)) (win bt sz (2 * i)) = true then win bt sz (2 * i) else win bt sz (2 * i + 1)
theorem win_leaf {i : Nat} (h : sz ≤ i) : win bt sz i = i - sz := by rw [win, dif_pos (.inl h)]
theorem win_node {i : Nat} (h0 : 0 < i) (h : i < sz) : win bt sz i = if bt (win bt sz (2 * i + 1)) (win bt sz (2 * i)) = true then win bt sz (2 * i + 1) else win bt sz (2 * i) := by
 rw [win, dif_neg (by omega)]
theorem tr_win (B : Bts bt) (hS : ∀ i, 0 < i → i < sz → S i = lose bt sz i) : Tr bt sz S (win bt sz) := by
 refine ⟨fun i hi => by rw [win_leaf (by omega)]; omega, fun i h0 hi => ?_⟩
 unfold Won
 rw [hS i h0 hi, win_node h0 hi]
 unfold lose
 by_cases hb : bt (win bt sz (2 * i + 1)) (win bt sz (2 * i)) = true
 ·rw [if_pos hb, if_pos hb]
  exact ⟨.inr ⟨rfl, rfl⟩, B.asym _ _ hb⟩
 ·rw [if_neg hb, if_neg hb]
  exact ⟨.inl ⟨rfl, rfl⟩, by simpa using hb⟩
theorem win_lt (hsz : 0 < sz) : ∀ i, 0 < i → i < 2 * sz → win bt sz i < sz := by
 have : ∀ (d i : Nat), 2 * sz - i ≤ d → 0 < i → i < 2 * sz → win bt sz i < sz := fun d => by
  induction d with
  | zero => intro i h3 h4 h5; omega
  | succ d ih =>
   intro i h3 h4 h5
   by_cases hi : i < sz
   ·rw [win_node h4 hi]
    split
    ·exact ih _ (by omega) (by omega) (by omega)
    ·exact ih _ (by omega) (by omega) (by omega)
   ·rw [win_leaf (by omega)]; omega
 exact fun i => this (2 * sz) i (by omega)
/-! ### Rows -/
def beat {α : Type} (cmp : α → α → Int) (H : Nat → Option α) (a b : Nat) : Bool :=
 match H a, H b with
 | none, _ => false
 | some _, none => true
 | some x, some y => decide (cmp x y < 0) || (decide (cmp x y = 0) && decide (a < b))
structure Cmp {α : Type} (cmp : α → α → Int) : Prop where
 flip : ∀ x y, cmp x y < 0 ↔ 0 < cmp y x
 trans : ∀ x y z, cmp x y ≤ 0 → cmp y z ≤ 0 → cmp x z ≤ 0
theorem Cmp.self {α : Type} {cmp : α → α → Int} (C : Cmp cmp) (x : α) : cmp x x = 0 := by
 have := C.flip x x
 omega
theorem bts_beat {α : Type} {cmp : α → α → Int} (C : Cmp cmp) (H : Nat → Option α) : Bts (beat cmp H) := by
 refine ⟨fun a => ?_, fun a b h => ?_, fun a b c h1 h2 => ?_⟩
 ·unfold beat
  cases ha : H a with
  | none => rfl
  | some x => simp [C.self x]
 ·unfold beat at h ⊢
  cases ha : H a with
  | none => rw [ha] at h; cases h
  | some x =>
   cases hb : H b with
   | none => rfl
   | some y =>
    rw [ha, hb] at h
    simp only [Bool.or_eq_true, Bool.and_eq_true, decide_eq_true_eq] at h
    simp only [Bool.or_eq_false_iff, Bool.and_eq_false_iff, decide_eq_false_iff_not]
    have h3 := C.flip x y
    have h4 := C.flip y x
    omega
 ·unfold beat at h1 h2 ⊢
  cases hc : H c with
  | none => rfl
  | some z =>
   cases hb : H b with
   | none => rw [hc, hb] at h2; cases h2
   | some y =>
    cases ha : H a with
    | none => rw [hb, ha] at h1; cases h1
    | some x =>
     rw [hb, ha] at h1
     rw [hc, hb] at h2
     simp only [Bool.or_eq_false_iff, Bool.and_eq_false_iff, decide_eq_false_iff_not] at h1 h2 ⊢
     have p1 := C.flip y x
     have p2 := C.flip x y
     have p3 := C.flip z y
     have p4 := C.flip y z
     have p5 := C.flip z x
     have p6 := C.flip x z
     have t1 := C.trans x y z
     have t2 := C.trans z x y
     have t3 := C.trans y z x
     omega
theorem beat_same {α : Type} {cmp : α → α → Int} {H H' : Nat → Option α} {p : Nat} (h : ∀ i, i ≠ p → H' i = H i) : ∀ a b, a ≠ p → b ≠ p → beat cmp H' a b = beat cmp H a b := fun a b ha hb => by
 unfold beat
 rw [h a ha, h b hb]
theorem first_none {α : Type} {cmp : α → α → Int} {H : Nat → Option α} {p j : Nat} (h : beat cmp H j p = false) (hp : H p = none) : H j = none := by
 unfold beat at h
 cases hj : H j with
 | none => rfl
 | some x => rw [hj, hp] at h; cases h
theorem first_some {α : Type} {cmp : α → α → Int} (C : Cmp cmp) {H : Nat → Option α} {p j : Nat} {x y : α} (h : beat cmp H j p = false) (hp : H p = some x) (hj : H j = some y) : (j < p → 0 < cmp y x) ∧ cmp x y ≤ 0 := by
 unfold beat at h
 rw [hj, hp] at h
 simp only [Bool.or_eq_false_iff, Bool.and_eq_false_iff, decide_eq_false_iff_not] at h
 have h1 := C.flip x y
 have h2 := C.flip y x
 omega
end Lt
end Go.Proofs.YtcadjekcdokkjaaGreat
namespace Go.Proofs.YtcadjekcdokkjaaGreat
set_option linter.unusedVariables false
set_option linter.unusedSimpArgs false
open Go.RowKit
def oneD (x y : Va) (down : Bool) : Int := if x.k = 0 ∧ y.k = 0 then 0 else if x.k = 0 then -1 else if y.k = 0 then 1 else if down = true then cmpVa y x else cmpVa x y
def cmpR : List Ky → RowM → RowM → Int
 | [], _, _ => 0
 | k :: ks, x, y => if oneD (colAt x k.col) (colAt y k.col) k.down ≠ 0 then oneD (colAt x k.col) (colAt y k.col) k.down else cmpR ks x y
theorem cmpR_cons (k : Ky) (ks : List Ky) (x y : RowM) : cmpR (k :: ks) x y = if oneD (colAt x k.col) (colAt y k.col) k.down ≠ 0 then oneD (colAt x k.col) (colAt y k.col) k.down else cmpR ks x y := rfl
theorem cmpVa_three (x y : Va) : (cmpVa x y < 0 ↔ ltV x y) ∧ (cmpVa x y = 0 ↔ x = y) ∧ (0 < cmpVa x y ↔ ltV y x) := by
 have h1 := cmpVa_neg x y
 have h2 := cmpVa_zero x y
 refine ⟨h1, h2, ?_⟩
 constructor
 ·intro h
  rcases ltV_tri (show x ≠ y from fun e => by have := h2.2 e; omega) with h3 | h3
  ·have := h1.2 h3; omega
  ·exact h3
 ·intro h
  have h3 : x ≠ y := fun e => ltV_irrefl y (e ▸ h)
  have h4 : ¬ ltV x y := fun h5 => ltV_irrefl _ (ltV_trans h h5)
  have h5 : cmpVa x y ≠ 0 := fun e => h3 (h2.1 e)
  have h6 : ¬ cmpVa x y < 0 := fun e => h4 (h1.1 e)
  omega
theorem cmpVa_cmp : Lt.Cmp cmpVa := by
 refine ⟨fun x y => ?_, fun x y z h1 h2 => ?_⟩
 ·rw [(cmpVa_three x y).1, (cmpVa_three y x).2.2]
 ·have a := cmpVa_three x y
  have b := cmpVa_three y z
  have c := cmpVa_three x z
  by_cases h3 : cmpVa x y = 0
  ·rw [a.2.1.1 h3]; exact h2
  ·by_cases h4 : cmpVa y z = 0
   ·rw [← b.2.1.1 h4]; exact h1
   ·have := c.1.2 (ltV_trans (a.1.1 (by omega)) (b.1.1 (by omega)))
    omega
theorem oneD_cmp (down : Bool) : Lt.Cmp (fun x y => oneD x y down) := by
 refine ⟨fun x y => ?_, fun x y z => ?_⟩
 ·have h1 := cmpVa_cmp.flip x y
  have h2 := cmpVa_cmp.flip y x
  unfold oneD
  by_cases hx : x.k = 0 <;> by_cases hy : y.k = 0 <;> cases down <;> simp [hx, hy] <;> omega
 ·have h1 := cmpVa_cmp.trans x y z
  have h2 := cmpVa_cmp.trans z y x
  have f1 := cmpVa_cmp.flip x y
  have f2 := cmpVa_cmp.flip y x
  unfold oneD
  by_cases hx : x.k = 0 <;> by_cases hy : y.k = 0 <;> by_cases hz : z.k = 0 <;> cases down <;> simp [hx, hy, hz] <;> intro h3 h4
  ·exact h1 h3 h4
  ·exact h2 h4 h3
theorem cmpR_cmp : ∀ ks : List Ky, Lt.Cmp (cmpR ks)
 | [] => ⟨fun x y => by simp [cmpR], fun x y z _ _ => by simp [cmpR]⟩
 | k :: ks => by
  have ih := cmpR_cmp ks
  have C := oneD_cmp k.down
  refine ⟨fun x y => ?_, fun x y z h1 h2 => ?_⟩
  ·have h1 := C.flip (colAt x k.col) (colAt y k.col)
   have h2 := C.flip (colAt y k.col) (colAt x k.col)
   have h3 := ih.flip x y
   rw [cmpR_cons, cmpR_cons]
   try dsimp only at h1 h2
   split <;> split <;> omega
  ·have t1 := C.trans (colAt x k.col) (colAt y k.col) (colAt z k.col)
   have t2 := C.trans (colAt y k.col) (colAt z k.col) (colAt x k.col)
   have t3 := C.trans (colAt z k.col) (colAt x k.col) (colAt y k.col)
   have f1 := C.flip (colAt x k.col) (colAt y k.col)
   have f2 := C.flip (colAt y k.col) (colAt x k.col)
   have f3 := C.flip (colAt y k.col) (colAt z k.col)
   have f4 := C.flip (colAt z k.col) (colAt y k.col)
   have f5 := C.flip (colAt x k.col) (colAt z k.col)
   have f6 := C.flip (colAt z k.col) (colAt x k.col)
   have h3 := ih.trans x y z
   rw [cmpR_cons] at h1 h2 ⊢
   try dsimp only at t1 t2 t3 f1 f2 f3 f4 f5 f6
   split at h1 <;> split at h2 <;> split <;> omega
def leRow (ks : List Ky) (x y : RowM) : Bool := decide (cmpR ks x y ≤ 0)
theorem leRow_iff {ks : List Ky} {x y : RowM} : leRow ks x y = true ↔ cmpR ks x y ≤ 0 := by unfold leRow; rw [decide_eq_true_eq]
theorem leRow_no {ks : List Ky} {x y : RowM} : leRow ks x y = false ↔ 0 < cmpR ks x y := by unfold leRow; rw [decide_eq_false_iff_not]; omega
theorem leRow_ord (ks : List Ky) : Sq.Ordb (leRow ks) := by
 refine ⟨fun x y z h1 h2 => leRow_iff.2 ((cmpR_cmp ks).trans _ _ _ (leRow_iff.1 h1) (leRow_iff.1 h2)), fun x y => ?_⟩
 rw [leRow_iff, leRow_iff]
 have h1 := (cmpR_cmp ks).flip x y
 have h2 := (cmpR_cmp ks).flip y x
 omega
def sortR (ks : List Ky) (l : List RowM) : List RowM := Sq.sortM (leRow ks) l
end Go.Proofs.YtcadjekcdokkjaaGreat
