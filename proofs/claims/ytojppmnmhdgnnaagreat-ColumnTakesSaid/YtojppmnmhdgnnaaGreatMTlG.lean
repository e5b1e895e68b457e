/- The walk of column.Words; a map from texts to truths; the words of a column (plain). -/
import Derived.Test.YtojppmnmhdgnnaaGreatMTlEF
import Derived.Test.YtojppmnmhdgnnaaGreatMDwP
import Derived.Maps.Own
import Derived.Maps.OwnSet
import Derived.Maps.Views
namespace Go.Proofs.YtojppmnmhdgnnaaGreat
set_option linter.unusedVariables false
set_option linter.unusedSimpArgs false
open Go.RowKit

attribute [local go_sem ↓] Go.wp_at_zero Go.wp_at_succ

/-- How Words ends. -/
def CWordsOK (b : List UInt8) (w : World) (e : Ending) (w' : World) : Prop :=
  ((¬ ((∃ l, ctakeM 3 b = some l) ∧ howB b = 3) ∧ e = .returned (.tuple #[.slice none 0 0, .bool false])) ∨ ∃ th rest W r A d, splitM b = some (th, rest) ∧ takeM rest = some (W, r) ∧ howB b = 3 ∧ e = .returned (.tuple #[.slice A W.length d, .bool true]) ∧ Rd w' A (wcl W)) ∧ Below w.heap.size w w'
/-- The same, with what Take tells. -/
def CWordsOK2 (b : List UInt8) (w : World) (e : Ending) (w' : World) : Prop :=
  ((¬ ((∃ l, ctakeM 3 b = some l) ∧ howB b = 3) ∧ e = .returned (.tuple #[.slice none 0 0, .bool false])) ∨ ∃ th rest W r A d, (∃ l, ctakeM 3 b = some l) ∧ splitM b = some (th, rest) ∧ takeM rest = some (W, r) ∧ howB b = 3 ∧ e = .returned (.tuple #[.slice A W.length d, .bool true]) ∧ Rd w' A (wcl W)) ∧ Below w.heap.size w w'
theorem ctake_named {b : List UInt8} {l : RowM} (h : ctakeM 3 b = some l) (h3 : howB b = 3) : ∃ th rest W r, splitM b = some (th, rest) ∧ takeM rest = some (W, r) := by
  unfold ctakeM at h
  rw [h3] at h
  obtain ⟨⟨th, rest⟩, hs, h⟩ := Option.bind_eq_some_iff.1 h
  rw [if_pos (.inl rfl)] at h
  obtain ⟨⟨n, x⟩, ht, h⟩ := Option.bind_eq_some_iff.1 h
  have ht2 : (namedM rest).map (fun x => (([] : List Int), x)) = some (n, x) := ht
  obtain ⟨y, hy, -⟩ := Option.map_eq_some_iff.1 ht2
  unfold namedM at hy
  obtain ⟨⟨W, r⟩, hW, -⟩ := Option.bind_eq_some_iff.1 hy
  exact ⟨th, rest, W, r, hs, hW⟩

set_option maxHeartbeats 8000000 in
set_option maxRecDepth 100000 in
theorem cwords2_any (b : List UInt8) (n c : Nat) (A : Option Addr) (w : World) (hl : b.length = n) (hr : Rd w A (Bs b)) (hn : n ≤ 500000) (hnc : n ≤ c) (hc : c ≤ 9223372036854775807) :
    Calls Tryz.prog 6 #[.slice A n c] w fun e w' => CWordsOK2 b w e w' := by
  have htk := Lib.hid (ctake_any 3 b n c A w (by omega) hl hr hn hnc hc)
  have Hl := Lib.hid hl
  have Hr := Lib.hid hr
  clear hl hr
  go_enter Tryz.func6, Tryz.ntmps6
  go_wp2_with fail
  refine htk.out.mono ?_
  rintro e w1 ⟨⟨hk0, _⟩ | ⟨_, hno, rfl⟩ | ⟨l, LA, ld, _, hso, rfl, hrl⟩, hb1⟩
  · exact absurd hk0 (by decide)
  · have HN : Hid (¬ ((∃ l, ctakeM 3 b = some l) ∧ howB b = 3)) := by
      show ¬ _
      rintro ⟨⟨l, h⟩, -⟩
      rw [hno] at h
      cases h
    have Hb1 := Lib.hid hb1
    clear hno hb1 htk
    go_wp2_with fail
    go_ret2
    exact ⟨.inl ⟨HN.out, rfl⟩, Hb1.out⟩
  · have Hb1 := Lib.hid hb1
    obtain ⟨H, hH⟩ : ∃ H, howB b = H := ⟨_, rfl⟩
    rw [hH]
    by_cases h3 : H = 3
    · subst h3
      obtain ⟨th, rest, W, r, hs, hW⟩ := ctake_named hso hH
      have hsp := Lib.hid (split_any b n c A w1 Hl.out (Hr.out.below hb1) hn hnc hc)
      have HH := Lib.hid hH
      have Hso := Lib.hid (show ∃ l, ctakeM 3 b = some l from ⟨_, hso⟩)
      have Hs := Lib.hid hs
      have HW := Lib.hid hW
      clear hso hrl hb1 htk hH hs hW
      go_wp2_with fail
      refine hsp.out.mono ?_
      rintro e w2 ⟨⟨hno, _⟩ | ⟨th2, TA, tc, A2, m2, c2, rest2, hso2, rfl, hrl2, hrc, hrT, hrR⟩, hb2⟩
      · rw [Hs.out] at hno
        cases hno
      · rw [Hs.out] at hso2
        injection hso2 with hso2
        injection hso2 with e1 e2
        subst e1
        subst e2
        have Hb2 := Lib.hid (Hb1.out.trans (hb2.mono Hb1.out.size))
        obtain ⟨-, hrle⟩ := splitM_in Hs.out
        rw [Hl.out, hrl2] at hrle
        have hdt := Lib.hid (dtake_any rest m2 c2 A2 w2 hrl2 hrR (by omega) hrc.1 hrc.2)
        clear hb2 hrT hrR hsp hrl2
        go_wp2_with fail
        refine hdt.out.mono ?_
        rintro e w3 ⟨⟨hno, _⟩ | ⟨W2, r2, A3, c3, A4, c4, hW2, rfl, hrW, -⟩, hb3⟩
        · rw [HW.out] at hno
          cases hno
        · rw [HW.out] at hW2
          injection hW2 with hW2
          injection hW2 with e1 e2
          subst e1
          subst e2
          have Hb3 := Lib.hid (Hb2.out.trans (hb3.mono Hb2.out.size))
          have HrW := Lib.hid hrW
          clear hb3 hrW hdt
          go_wp2_with fail
          go_ret2
          exact ⟨.inr ⟨th, rest, W, r, A3, c3, Hso.out, Hs.out, HW.out, HH.out, rfl, HrW.out⟩, Hb3.out⟩
    · have HN : Hid (¬ ((∃ l, ctakeM 3 b = some l) ∧ howB b = 3)) := by
        show ¬ _
        rintro ⟨-, h⟩
        exact h3 (hH.symm.trans h)
      have q3 : (H != 3) = true := by rw [bne_iff_ne]; exact h3
      clear hso hrl hb1 htk hH h3
      go_wp2_with fail
      go_ret2
      exact ⟨.inl ⟨HN.out, rfl⟩, Hb1.out⟩
theorem cwords_any (b : List UInt8) (n c : Nat) (A : Option Addr) (w : World) (hl : b.length = n) (hr : Rd w A (Bs b)) (hn : n ≤ 500000) (hnc : n ≤ c) (hc : c ≤ 9223372036854775807) :
    Calls Tryz.prog 6 #[.slice A n c] w fun e w' => CWordsOK b w e w' := by
  refine (cwords2_any b n c A w hl hr hn hnc hc).mono ?_
  rintro e w' ⟨h | ⟨th, rest, W, r, A', d, -, h⟩, hb⟩
  · exact ⟨.inl h, hb⟩
  · exact ⟨.inr ⟨th, rest, W, r, A', d, h⟩, hb⟩

def heldB (v : Value) : Option (DataW Value × List MemPlace) := some (.held v, [])
theorem strKd : Maps.Keyed Tryz.prog 9 := Maps.string_keyed (by kernel_rfl)
theorem str_key {x : List UInt8} (hx : x.length ≤ maxLen) : keyOf Tryz.prog 9 (.string (St8 x)) = some (.string x) := by
  have h := WideMaps.keyOf_string_mk (P := Tryz.prog) (k := 9) (by kernel_rfl) (s := St8 x) (by rw [St8_size]; exact hx)
  rw [h]
  simp [St8]
/-- The map at block b has the texts S, z of them. -/
def SMap (w : World) (b n : Nat) (S : List (List UInt8)) (z : Nat) : Prop :=
  ∃ D : DataW Value, w.ownsMap Tryz.prog 9 heldB b n D ∧ (∀ x : List UInt8, D.atKey (.string x) (.held (.bool false)) = .held (.bool (decide (x ∈ S)))) ∧ (∀ x : List UInt8, Maps.has D (.string x) = decide (x ∈ S)) ∧ Maps.size D = z
namespace SMap
variable {w w' : World} {b n z : Nat} {S : List (List UInt8)}
theorem made (w : World) : SMap (w.alloc (.map #[] 0)) w.heap.size 0 [] 0 :=
  ⟨.map [], World.ownsMap_made w _ _ _, fun _ => rfl, fun _ => rfl, rfl⟩
theorem lt (h : SMap w b n S z) : b < w.heap.size := by
  obtain ⟨D, ho, _⟩ := h
  exact ho.lt
theorem below (h : SMap w b n S z) (hb : Below w.heap.size w w') : SMap w' b n S z := by
  have hlt := h.lt
  obtain ⟨D, ⟨es, cl, he, h1⟩, hC⟩ := h
  exact ⟨D, ⟨es, cl, by rw [hb.block b hlt]; exact he, h1⟩, hC⟩
end SMap
/-- The texts of values. -/
def keysT (l : RowM) : List (List UInt8) := (l.filter fun v => decide (v.k = 3)).map (·.s)
theorem keysT_snoc (l : RowM) (v : Va) : keysT (l ++ [v]) = if v.k = 3 then keysT l ++ [v.s] else keysT l := by
  unfold keysT
  rw [List.filter_append, List.map_append]
  by_cases h : v.k = 3
  · rw [if_pos h, List.filter_cons, if_pos (by simp [h])]
    rfl
  · rw [if_neg h, List.filter_cons, if_neg (by simp [h])]
    simp
theorem keysT_all {l : RowM} (h : l.all (fitV 3) = true) : textsM l = keysT l := by
  unfold textsM someM keysT
  congr 1
  apply List.filter_congr
  intro v hv
  have h1 := List.all_eq_true.1 h v hv
  unfold fitV at h1
  rw [Bool.and_eq_true, Bool.or_eq_true] at h1
  rcases h1.2 with h2 | h2
  · have h3 := of_decide_eq_true h2
    rw [h3]
    rfl
  · have h3 := of_decide_eq_true h2
    rw [h3]
    rfl
/-- A column by its words: these. -/
theorem col_words {kind how : Int} {X : RowM} (hall : X.all (fitV kind) = true) (hok : X.length ≤ 4096) (hu : (colB kind how X).2 = 3) : kind = 3 ∧ ∃ th rest W r, splitM (colB kind how X).1 = some (th, rest) ∧ takeM rest = some (W, r) ∧ W.Pairwise (· < ·) ∧ W.length ≤ 200 ∧ ∀ x, x ∈ W ↔ x ∈ keysT X := by
  have hs := split_round (kind := kind) (how := how) hok
  have hu2 : (layM kind how X).2 = 3 := hu
  have key : kind = 3 ∧ ∃ b, wordsB (textsM X) = some b ∧ (layM kind how X).1 = b := by
    unfold layM at hu2 ⊢
    split at hu2
    · cases hu2
    · rename_i hk
      rw [if_neg hk]
      split at hu2
      · cases hu2
      · rename_i h2
        rw [if_neg h2]
        split at hu2
        · cases hu2
        · rename_i h4
          rw [if_neg h4]
          split at hu2
          · rename_i h3
            rw [if_pos h3]
            split at hu2
            · rename_i b hb
              refine ⟨?_, b, hb, rfl⟩
              by_cases hk3 : kind = 3
              · exact hk3
              · rw [h3, decide_eq_false hk3] at hk
                exact absurd rfl hk
            · cases hu2
          · rename_i h3
            split at hu2
            · split at hu2 <;> cases hu2
            · cases hu2
  obtain ⟨hk3, b, hb, hb2⟩ := key
  subst hk3
  refine ⟨rfl, thereM X, (layM 3 how X).1, ?_⟩
  rw [hb2] at hs ⊢
  unfold wordsB at hb
  obtain ⟨⟨W, p⟩, ho, hb⟩ := Option.bind_eq_some_iff.1 hb
  obtain ⟨q, hq, hb⟩ := Option.map_eq_some_iff.1 hb
  dsimp only at hq hb
  obtain ⟨h1, h2, -, -⟩ := ofM_right ho
  unfold putM at hq
  rw [if_pos h1] at hq
  injection hq with hq
  subst hq
  obtain ⟨s1, s2⟩ := wordsM_spec (textsM X)
  refine ⟨W, frameB p, hs, ?_, by rw [h2]; exact s1, (rightW_le h1).2, fun x => by rw [h2, s2, keysT_all hall]⟩
  rw [← hb]
  exact takeM_of h1 (frameB p)
end Go.Proofs.YtojppmnmhdgnnaaGreat
