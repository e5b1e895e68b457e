/- What lies on pages stands behind every act that does not name them. A plain law. -/
import Derived.Test.YtnlaeiadakdbkaaFew
namespace Go.Proofs.Ytnlaeiadakdbkaa
namespace Pg

theorem ids_not {s : St} {p n : Nat} {x : List UInt8} (h : s[p]? = some (some x)) : p ∉ ids s n := fun m => by
  have := (mem_ids m).2
  rw [h] at this
  cases this
theorem allocL_not {s : St} {p : Nat} {n : Int} {x : List UInt8} (h : s[p]? = some (some x)) : p ∉ allocL s n := by
  unfold allocL
  split
  · exact ids_not h
  · simp
theorem allocS_keep {s : St} {p : Nat} {n : Int} {x : List UInt8} (h : s[p]? = some (some x)) : (allocS s n)[p]? = some (some x) := by
  unfold allocS
  split
  · rw [fill_get _ _ _ (ids_not h)]; exact h
  · exact h
theorem freeS_keep {s : St} {p : Nat} {i : Int} {x : List UInt8} (h : s[p]? = some (some x)) (hi : i ≠ (p : Int)) : (freeS s i)[p]? = some (some x) := by
  unfold freeS
  split
  · exact h
  · rename_i e
    have h0 := (at_some e).1
    rw [List.getElem?_set_ne (by omega)]
    exact h
theorem dropS_keep : ∀ (l : List Int) {s : St} {p : Nat} {x : List UInt8}, s[p]? = some (some x) → (p : Int) ∉ l → (dropS s l)[p]? = some (some x)
  | [], _, _, _, h, _ => h
  | i :: l, s, p, x, h, hp => by
    unfold dropS
    rw [List.foldl_cons]
    exact dropS_keep l (freeS_keep h (fun e => hp (by rw [e]; exact List.mem_cons_self))) (fun m => hp (List.mem_cons_of_mem _ m))
theorem writeS_keep {s : St} {p : Nat} {i : Int} {b x : List UInt8} (h : s[p]? = some (some x)) (hi : i ≠ (p : Int)) : (writeS s i b)[p]? = some (some x) := by
  unfold writeS
  split
  · exact h
  · rename_i e
    have h0 := (at_some e).1
    split
    · exact h
    · rw [List.getElem?_set_ne (by omega)]
      exact h
theorem flipS_keep {s : St} {p : Nat} {i j : Int} {m : UInt8} {x : List UInt8} (h : s[p]? = some (some x)) (hi : i ≠ (p : Int)) : (flipS s i j m)[p]? = some (some x) := by
  unfold flipS
  split
  · exact h
  · rename_i e
    have h0 := (at_some e).1
    split
    · rw [List.getElem?_set_ne (by omega)]
      exact h
    · exact h
theorem putS_keep {s : St} {p : Nat} {b x : List UInt8} (h : s[p]? = some (some x)) : (putS s b)[p]? = some (some x) := by
  unfold putS
  rw [lays_get _ _ _ _ (by unfold putL; exact allocL_not h)]
  exact allocS_keep h
end Pg

/-- An act that does not name the page p. -/
structure ActM.spares (a : ActM) (p : Nat) : Prop where
  at_ : a.kind % 7 = 1 ∨ a.kind % 7 = 2 ∨ a.kind % 7 = 3 → a.at' ≠ (p : Int)
  l : (p : Int) ∉ a.l
theorem ActM.does_keep {s : Pg.St} {a : ActM} {p : Nat} {x : List UInt8} (h : s[p]? = some (some x)) (hs : a.spares p) : (a.does s)[p]? = some (some x) := by
  unfold ActM.does actS
  split
  · exact Pg.allocS_keep h
  split
  · exact Pg.freeS_keep h (hs.at_ (.inl (by assumption)))
  split
  · exact Pg.writeS_keep h (hs.at_ (.inr (.inl (by assumption))))
  split
  · exact Pg.flipS_keep h (hs.at_ (.inr (.inr (by assumption))))
  split
  · exact Pg.putS_keep h
  split
  · exact h
  · exact Pg.dropS_keep _ h hs.l
theorem Pg.Holds.keep {s s' : Pg.St} {ids : List Nat} {b : List UInt8} (h : Pg.Holds s ids b) (hk : ∀ p ∈ ids, ∀ x, s[p]? = some (some x) → s'[p]? = some (some x)) : Pg.Holds s' ids b :=
  ⟨h.len, fun k i hi => by
    have h1 := h.at_ k i hi
    rw [Pg.at_nat] at h1 ⊢
    have h2 : s[i]? = some (some (Pg.page i ((b.drop (56 * k)).take 56))) := by
      cases e : s[i]? with
      | none => rw [e] at h1; cases h1
      | some o => rw [e] at h1; exact congrArg some h1
    rw [hk i (List.mem_of_getElem? hi) _ h2]
    rfl⟩
end Go.Proofs.Ytnlaeiadakdbkaa
