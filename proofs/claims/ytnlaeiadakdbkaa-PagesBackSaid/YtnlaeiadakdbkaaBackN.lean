/- What two puts lay stands behind every act that names none of their pages. A plain law. -/
import Derived.Test.YtnlaeiadakdbkaaBackM
import Derived.Test.YtnlaeiadakdbkaaPagB
namespace Go.Proofs.Ytnlaeiadakdbkaa
namespace Pg
theorem holds_some {s : St} {ids : List Nat} {b : List UInt8} (h : Holds s ids b) {i : Nat} (hi : i ∈ ids) : ∃ x, s[i]? = some (some x) := by
  obtain ⟨k, hk, rfl⟩ := List.getElem_of_mem hi
  have h1 := h.at_ k _ (List.getElem?_eq_getElem hk)
  rw [at_nat] at h1
  cases e : s[ids[k]]? with
  | none => rw [e] at h1; cases h1
  | some o => rw [e] at h1; exact ⟨_, congrArg some h1⟩
theorem used_putS {s : St} {b : List UInt8} (h : need b.length ≤ s.length - used s) : used (putS s b) = used s + need b.length := by
  have hu := used_le s
  have he : allocE s (need b.length : Nat) = 0 := by unfold allocE; rw [if_neg (by omega), if_neg (by omega)]
  unfold putS putL allocL allocS
  rw [he, if_pos rfl, if_pos rfl, Int.toNat_natCast, used_lays _ _ _ (fun i hi => ⟨_, fill_at _ s i hi (mem_ids hi).1⟩), used_fill h]
theorem length_putS (s : St) (b : List UInt8) : (putS s b).length = s.length := by unfold putS; rw [length_lays, length_allocS]
end Pg

/-- The bytes X and Y lie on the pages I and K. -/
structure Kept (s : Pg.St) (I K : List Nat) (X Y : List UInt8) : Prop where
  i : Pg.Holds s I X
  k : Pg.Holds s K Y
theorem Kept.step {s : Pg.St} {I K : List Nat} {X Y : List UInt8} {a : ActM} (h : Kept s I K X Y) (hs : ∀ p ∈ I ++ K, a.spares p) : Kept (a.does s) I K X Y :=
  ⟨h.i.keep fun p hp x hx => ActM.does_keep hx (hs p (List.mem_append_left _ hp)), h.k.keep fun p hp x hx => ActM.does_keep hx (hs p (List.mem_append_right _ hp))⟩
theorem Kept.two {s : Pg.St} {X Y : List UInt8} {N M : Nat} (h0 : s.length = 60) (hu : Pg.used s = 0) (hX : X.length = N) (hY : Y.length = M) (hN : N ≤ 500) (hM : M ≤ 500) :
    Pg.putE s X = 0 ∧ Pg.putE (Pg.putS s X) Y = 0 ∧ Kept (Pg.putS (Pg.putS s X) Y) (Pg.putL s X) (Pg.putL (Pg.putS s X) Y) X Y ∧ (Pg.putL s X ++ Pg.putL (Pg.putS s X) Y).Nodup ∧ (∀ i ∈ Pg.putL s X ++ Pg.putL (Pg.putS s X) Y, i < 60) ∧
    (Pg.putL s X).length = Pg.need N ∧ (Pg.putL (Pg.putS s X) Y).length = Pg.need M ∧ Pg.need N ≤ 9 ∧ Pg.need M ≤ 9 := by
  have hn : Pg.need N ≤ 9 := by unfold Pg.need; split <;> omega
  have hm : Pg.need M ≤ 9 := by unfold Pg.need; split <;> omega
  have p1 : Pg.need X.length ≤ s.length - Pg.used s := by rw [hX, h0, hu]; omega
  obtain ⟨e1, hold1, nd1, in1⟩ := Pg.put_holds p1
  have hl1 := Pg.length_putS s X
  have p2 : Pg.need Y.length ≤ (Pg.putS s X).length - Pg.used (Pg.putS s X) := by rw [Pg.used_putS p1, hl1, hX, hY, h0, hu]; omega
  obtain ⟨e2, hold2, nd2, in2⟩ := Pg.put_holds p2
  refine ⟨e1, e2, ⟨hold1.keep fun p _ x hx => Pg.putS_keep hx, hold2⟩, List.nodup_append.2 ⟨nd1, nd2, ?_⟩, ?_, by rw [hold1.len, hX], by rw [hold2.len, hY], hn, hm⟩
  · rintro p hp q hq rfl
    obtain ⟨x, hx⟩ := Pg.holds_some hold1 hp
    rw [(in2 p hq).2] at hx
    cases hx
  · intro i hi
    rcases List.mem_append.1 hi with hi | hi
    · exact h0 ▸ (in1 i hi).1
    · exact h0 ▸ hl1 ▸ (in2 i hi).1

/-- The pages that must not be named. -/
def mineOf (I : List Nat) (z : Int) : Bool := decide (z ∈ I.map Int.ofNat)
theorem mineOf_nil (z : Int) : mineOf [] z = false := by simp [mineOf]
theorem mineOf_snoc (I : List Nat) (i : Nat) (z : Int) : (decide (z = (i : Int)) || mineOf I z) = mineOf (I ++ [i]) z := by
  unfold mineOf
  rw [List.map_append, Bool.eq_iff_iff]
  simp only [Bool.or_eq_true, decide_eq_true_eq, List.mem_append, List.map_cons, List.map_nil, List.mem_singleton]
  exact or_comm
theorem mineOf_not {I : List Nat} {j : Nat} (h : I.Nodup) (hj : j < I.length) : mineOf (I.take j) ((I[j] : Nat) : Int) = false := by
  unfold mineOf
  rw [decide_eq_false_iff_not]
  intro hm
  obtain ⟨q, hq, e⟩ := List.mem_map.1 hm
  obtain ⟨t, ht, e2⟩ := List.getElem_of_mem hq
  rw [List.getElem_take] at e2
  rw [List.length_take] at ht
  have e3 : q = I[j] := Int.ofNat.inj e
  rw [e3] at e2
  have := (List.getElem_inj h).1 e2
  omega
theorem mineOf_mem {I : List Nat} {p : Nat} (h : p ∈ I) {z : Int} (hz : mineOf I z = false) : z ≠ (p : Int) := by
  rintro rfl
  unfold mineOf at hz
  rw [decide_eq_false_iff_not] at hz
  exact hz (List.mem_map.2 ⟨p, h, rfl⟩)
/-- Whether an act may not be done. -/
def clash1 (I : List Nat) (a : ActM) : Bool := mineOf I a.at' && decide (0 < a.kind % 7) && decide (a.kind % 7 < 4)
def clashN (I : List Nat) (a : ActM) (q : Nat) : Bool := clash1 I a || (a.l.take q).any (mineOf I)
theorem clashN_zero (I : List Nat) (a : ActM) : clashN I a 0 = clash1 I a := by simp [clashN]
theorem clashN_succ (I : List Nat) (a : ActM) {q : Nat} (h : q < a.l.length) : clashN I a (q + 1) = (clashN I a q || mineOf I a.l[q]) := by
  unfold clashN
  rw [Bool.or_assoc, List.take_add_one, List.getElem?_eq_getElem h, List.any_append]
  simp
theorem spares_of {I : List Nat} {a : ActM} (h : clashN I a a.l.length = false) : ∀ p ∈ I, a.spares p := fun p hp => by
  unfold clashN clash1 at h
  rw [Bool.or_eq_false_iff, List.take_length] at h
  refine ⟨fun hk e => ?_, fun hm => ?_⟩
  · have h1 := h.1
    have hp' : mineOf I a.at' = true := by rw [e]; unfold mineOf; exact decide_eq_true (List.mem_map.2 ⟨p, hp, rfl⟩)
    rw [hp', decide_eq_true (by omega), decide_eq_true (by omega)] at h1
    cases h1
  · have := List.any_eq_false.1 h.2 _ hm
    exact this (by unfold mineOf; exact decide_eq_true (List.mem_map.2 ⟨p, hp, rfl⟩))
end Go.Proofs.Ytnlaeiadakdbkaa
