/- Walks: the sorter: the sink of the last merge: rows that are laid behind one another. Pages that were taken by one writer: all others are as they were, and given back they are free again. A plain law, with no program in sight. Walks: the sorter: files whose rows lie on their pages; where a merge's rows go. Walks: the sorter: its state; join. -/
import Derived.Test.YtcadjekcdokkjaaGreatMSoE
import Derived.Test.YtcadjekcdokkjaaGreatMSrM
import Derived.Test.YtcadjekcdokkjaaGreatMHoPu
namespace Go.Proofs.YtcadjekcdokkjaaGreat
set_option linter.unusedVariables false
set_option linter.unusedSimpArgs false
open Go.RowKit
attribute [local go_sem ↓] Go.wp_at_zero Go.wp_at_succ
def RowsP (w : World) (S : Nat → Prop) (hs : List Value) (acc : List RowM) : Prop :=
 hs.length = acc.length ∧ ∀ (p : Nat) (r : RowM), acc[p]? = some r → ∃ (A : Option Addr) (n c : Nat), hs[p]? = some (Value.slice A n c) ∧ r.length = n ∧ Own w 0 38 3 A n c (rcells r) ∧ InS S A ∧ ∀ v ∈ r, v.ok
theorem RowsP.map {w w' : World} {S S' : Nat → Prop} {hs : List Value} {acc : List RowM} (h : RowsP w S hs acc) (hk : ∀ A n c (r : RowM), Own w 0 38 3 A n c (rcells r) → InS S A → Own w' 0 38 3 A n c (rcells r) ∧ InS S' A) : RowsP w' S' hs acc :=
 ⟨h.1, fun p r hr => by
  obtain ⟨A, n, c, h1, h2, h3, h4, h5⟩ := h.2 p r hr
  obtain ⟨h6, h7⟩ := hk A n c r h3 h4
  exact ⟨A, n, c, h1, h2, h6, h7, h5⟩⟩
theorem RowsP.snoc {w : World} {S : Nat → Prop} {hs : List Value} {acc : List RowM} (h : RowsP w S hs acc) {A : Option Addr} {n c : Nat} {r : RowM} (hn : r.length = n) (ho : Own w 0 38 3 A n c (rcells r)) (hi : InS S A) (hok : ∀ v ∈ r, v.ok) : RowsP w S (hs ++ [.slice A n c]) (acc ++ [r]) := by
 refine ⟨by rw [List.length_append, List.length_append, h.1]; rfl, fun p x hx => ?_⟩
 by_cases hp : p < acc.length
 ·rw [List.getElem?_append_left hp] at hx
  rw [List.getElem?_append_left (by rw [h.1]; exact hp)]
  exact h.2 p x hx
 ·rw [List.getElem?_append_right (by omega)] at hx
  rw [List.getElem?_append_right (by rw [h.1]; omega), h.1]
  cases hq : p - acc.length with
  | zero =>
   rw [hq] at hx
   injection hx with hx
   subst hx
   exact ⟨A, n, c, rfl, hn, ho, hi, hok⟩
  | succ k => rw [hq] at hx; cases hx
def OutP (bo : Nat) (acc : List RowM) (_s : Pg.St) (w : World) (S : Nat → Prop) : Prop :=
 S bo ∧ ∃ A c hs, Blk w bo 32 [.slice A acc.length c] ∧ Own w 0 23 1 A acc.length c hs ∧ InS S A ∧ RowsP w S hs acc
theorem OutP.good (B bo : Nat) (acc : List RowM) (s : Pg.St) : Good B (OutP bo acc s) := by
 refine ⟨fun w S S' h hs => ?_, fun w S h => ?_, fun w w' S T h hd ht => ?_⟩
 ·obtain ⟨h0, A, c, hs', h1, h2, h3, h4⟩ := h
  exact ⟨hs _ h0, A, c, hs', h1, h2, fun b o e => hs _ (h3 b o e), h4.map fun A n c r a b => ⟨a, fun g o e => hs _ (b g o e)⟩⟩
 ·obtain ⟨h0, A, c, hs', h1, h2, h3, h4⟩ := h
  exact ⟨⟨h0, h1.lt⟩, A, c, hs', h1, h2, fun b o e => ⟨h3 b o e, Good.own_lt h2 e⟩, h4.map fun A n c r a b => ⟨a, fun g o e => ⟨b g o e, Good.own_lt a e⟩⟩⟩
 ·obtain ⟨h0, A, c, hs', h1, h2, h3, h4⟩ := h
  exact ⟨h0, A, c, hs', h1.turns (hd _ h0) (by decide) ht, Own.turns h2 (by decide) (fun b o e => hd _ (h3 b o e)) ht, h3, h4.map fun A n c r a b => ⟨Own.turns a (by decide) (fun g o e => hd _ (b g o e)) ht, b⟩⟩
set_option maxHeartbeats 4000000 in
set_option maxRecDepth 100000 in
theorem outp_c (B bs bo : Nat) (acc : List RowM) (r : RowM) (s : Pg.St) (w : World) (S : Nat → Prop) (RA : Option Addr) (n c : Nat) (h : OutP bo acc s w S) (hs : Sto w B bs s) (hy : ∀ j, w.heap.size ≤ j → S j) (hn : r.length = n) (ho : Own w 0 38 3 RA n c (rcells r)) (hi : InS S RA) (hok : ∀ v ∈ r, v.ok) (hl : n ≤ 1000000) (hacc : acc.length ≤ 1000000) :
  Calls Tryz.prog 62 #[.slice RA n c, .pointer (some ⟨bo, 0, none⟩)] w fun e w' => e = .returned (.int .i64 0) ∧ OutP bo (acc ++ [r]) s w' S ∧ Sto w' B bs s ∧ Turns S StT B w w' := by
 obtain ⟨h0, A, c0, hs0, h1, h2, h3, h4⟩ := h
 have b0 := h1.cell 0
 simp only [List.getElem?_cons_zero] at b0
 have H1 := Lib.hid h1
 have H2 := Lib.hid h2
 clear h1 h2
 go_enter Tryz.func62, Tryz.ntmps62
 go_wp2_with (first | (at_builtin; refine hold ?_) | (at_make; refine hold ?_))
 (with_reducible refine unhold ?_)
 have hbA : Below w.heap.size w (w.alloc (.cells #[.slice RA n c] 23)) := (Below.refl _ _).alloc (Nat.le_refl _) _
 refine wpList_apd rfl (.tmp 4) (.tmp 6) 32 rfl Erows 0 A acc.length c0 hs0 (by simp [Act.eval, Act.put]) (Own.below H2.out hbA) (some ⟨w.heap.size, 0, none⟩) 1 1 [.slice RA n c] (by simp [Act.eval, Act.put]) rfl (Rd.of_blk (Blk.new w 23 #[.slice RA n c])) (by simp [Value.oneCell']) (acc.length + 1) rfl (hs0 ++ [.slice RA n c]) rfl (by omega) (by omega) (Nat.zero_le _) ?_
 intro A4 c4 w4 ho4 hg4 hat4
 have hT1 : Turns S [] 0 w (w.alloc (.cells #[.slice RA n c] 23)) := Turns.of_below hbA
 have hyA : ∀ j, (w.alloc (.cells #[.slice RA n c] 23)).heap.size ≤ j → S j := fun j hj => hy j (Nat.le_trans hbA.size hj)
 have hT2 := hT1.trans (Own.turnsApd (Own.below H2.out hbA) h3 hg4)
 have hk4 := Own.apd_keeps (Own.below H2.out hbA) hg4
 have hb4 := (H1.out.below hbA).keeps (by decide) hk4
 have b4 := hb4.cell 0
 have f4 := hb4.frozen 0
 simp only [List.getElem?_cons_zero] at b4
 have hk5 : Keeps [32] 0 w4 (w4.setCell ⟨bo, 0, none⟩ (.slice A4 (acc.length + 1) c4)) := (Keeps.refl _ _ _).setCell hb4 (by simp) (Nat.zero_le _) _
 have hin4 : InS S A4 := Own.inApd (Own.below H2.out hbA) h3 hyA hat4
 have Hb5 := Lib.hid (hb4.set_ 0 (.slice A4 (acc.length + 1) c4))
 have Ho5 := Lib.hid (Own.keeps ho4 (by decide) hk5)
 have Hs5 := Lib.hid (((hs.below hbA).keeps hk4 (by decide)).keeps hk5 (by decide))
 have HT5 := Lib.hid (hT2.trans (Turns.setCell w4 (i := 0) h0 (.slice A4 (acc.length + 1) c4)))
 have Hr5 := Lib.hid ((h4.snoc hn ho hi hok).map (w' := w4.setCell ⟨bo, 0, none⟩ (.slice A4 (acc.length + 1) c4)) (S' := S) fun A n c r a b => ⟨Own.keeps (Own.keeps (Own.below a hbA) (by decide) hk4) (by decide) hk5, b⟩)
 clear hk4 hb4 ho4 hg4 hat4 hT1 hT2
 go_wp2_with fail
 go_ret
 refine ⟨rfl, ⟨h0, A4, c4, _, ?_, ?_, hin4, Hr5.out⟩, Hs5.out, HT5.out.wk⟩
 ·rw [List.length_append]; exact Hb5.out
 ·rw [List.length_append]; exact Ho5.out
end Go.Proofs.YtcadjekcdokkjaaGreat
namespace Go.Proofs.YtcadjekcdokkjaaGreat
set_option linter.unusedVariables false
set_option linter.unusedSimpArgs false
open Go.RowKit
namespace Pg
structure Grew (s s' : St) (l : List Nat) : Prop where
 len : s'.length = s.length
 nodup : l.Nodup
 new : ∀ i ∈ l, s[i]? = some none
 own : ∀ i ∈ l, ∃ x, s'[i]? = some (some x)
 same : ∀ i, i ∉ l → s'[i]? = s[i]?
 used : used s' = used s + l.length
namespace Grew
variable {s s' : St} {l : List Nat}
theorem nil (s : St) : Grew s s [] := ⟨rfl, List.nodup_nil, fun i h => (by cases h), fun i h => (by cases h), fun _ _ => rfl, rfl⟩
theorem mine (h : Grew s s' l) : Mine s' l := ⟨fun i hi => by
 obtain ⟨x, hx⟩ := h.own i hi
 exact (List.getElem?_eq_some_iff.1 hx).1, by rw [h.used]; omega⟩
theorem step (h : Grew s s' l) {i : Nat} (hi : free1 s' = some i) (b : List UInt8) : Grew s (s'.set i (some (page i b))) (l ++ [i]) := by
 obtain ⟨_, _, _, h1, h2⟩ := free1_some hi
 have hni : i ∉ l := fun hm => by
  obtain ⟨x, hx⟩ := h.own i hm
  rw [hx] at h2
  cases h2
 refine ⟨by rw [List.length_set, h.len], ?_, fun j hj => ?_, fun j hj => ?_, fun j hj => ?_, ?_⟩
 ·rw [List.nodup_append]
  refine ⟨h.nodup, by simp, fun x hx y hy e => ?_⟩
  rw [List.mem_singleton.1 hy] at e
  exact hni (e ▸ hx)
 ·rcases List.mem_append.1 hj with hj | hj
  ·exact h.new j hj
  ·rw [List.mem_singleton.1 hj, ← h.same i hni]
   exact h2
 ·rcases List.mem_append.1 hj with hj | hj
  ·rw [List.getElem?_set_ne (fun e => hni (by rw [e]; exact hj))]
   exact h.own j hj
  ·rw [List.mem_singleton.1 hj]
   exact ⟨_, List.getElem?_set_self h1⟩
 ·have h3 : j ∉ l := fun e => hj (List.mem_append.2 (.inl e))
  have h4 : i ≠ j := fun e => hj (List.mem_append.2 (.inr (by rw [e]; simp)))
  rw [List.getElem?_set_ne h4]
  exact h.same j h3
 ·rw [used_set h2, h.used, List.length_append, List.length_singleton]
  omega
theorem lay : ∀ (n : Nat) {s' : St} {l : List Nat} {b : List UInt8}, b.length ≤ n → Grew s s' l → Grew s (Pg.lay s' l b).1 (Pg.lay s' l b).2.1
 | n, s', l, b, hn, h => by
  by_cases hb : 56 ≤ b.length
  ·cases hf : free1 s' with
   | none => rw [lay_no hf]; exact h
   | some i =>
    rw [lay_yes hb hf]
    cases n with
    | zero => omega
    | succ n => exact lay n (by rw [List.length_drop]; omega) (h.step hf _)
  ·rw [lay_end (by omega)]
   exact h
theorem run : ∀ (rs : List RowM) {s' : St} {l : List Nat} {b : List UInt8}, Grew s s' l → Grew s (Pg.run s' l b rs).1 (Pg.run s' l b rs).2.1
 | [], s', l, b, h => by rw [Pg.run]; exact h
 | r :: rs, s', l, b, h => by
  rw [Pg.run]
  split
  ·split
   ·exact run rs (lay _ (Nat.le_refl _) h)
   ·exact lay _ (Nat.le_refl _) h
  ·exact h
theorem last (h : Grew s s' l) (b : List UInt8) : Grew s (Pg.last s' l b).1 (Pg.last s' l b).2.1 := by
 unfold Pg.last
 split
 ·exact h
 ·split
  ·exact h
  ·exact h.step (by assumption) b
theorem drop_at : ∀ (l : List Nat) (s : St), l.Nodup → (∀ i ∈ l, ∃ x, s[i]? = some (some x)) → ∀ j, (dropS s (l.map Int.ofNat))[j]? = if j ∈ l then some none else s[j]?
 | [], s, _, _, j => by simp [dropS]
 | i :: l, s, hn, ho, j => by
  obtain ⟨x, hx⟩ := ho i (by simp)
  have hf : freeS s (i : Int) = s.set i none := by
   unfold freeS
   rw [at_nat, hx]
   rfl
  have e : dropS s ((i :: l).map Int.ofNat) = dropS (s.set i none) (l.map Int.ofNat) := by
   show dropS (freeS s i) _ = _
   rw [hf]
  have hn2 := List.nodup_cons.1 hn
  have hil := (List.getElem?_eq_some_iff.1 hx).1
  rw [e, drop_at l (s.set i none) hn2.2 (fun k hk => by
   rw [List.getElem?_set_ne (fun e => hn2.1 (by rw [e]; exact hk))]
   exact ho k (List.mem_cons_of_mem _ hk))]
  by_cases hj : j ∈ l
  ·rw [if_pos hj, if_pos (List.mem_cons_of_mem _ hj)]
  ·rw [if_neg hj]
   by_cases hij : i = j
   ·subst hij
    rw [List.getElem?_set_self hil, if_pos (by simp)]
   ·rw [List.getElem?_set_ne hij, if_neg (fun h => by
     rcases List.mem_cons.1 h with h | h
     ·exact hij h.symm
     ·exact hj h)]
theorem drop (h : Grew s s' l) : dropS s' (l.map Int.ofNat) = s := by
 apply List.ext_getElem?
 intro j
 rw [drop_at l s' h.nodup h.own j]
 by_cases hj : j ∈ l
 ·rw [if_pos hj, h.new j hj]
 ·rw [if_neg hj, h.same j hj]
end Grew
theorem run_err : ∀ (rs : List RowM) (s : St) (l : List Nat) (b : List UInt8), (∀ r ∈ rs, mayR r = 0) → (run s l b rs).2.2.2 = 0 ∨ (run s l b rs).2.2.2 = 4
 | [], s, l, b, _ => by rw [run]; exact .inl rfl
 | r :: rs, s, l, b, h => by
  rw [run, if_pos (h r (by simp))]
  split
  ·exact run_err rs _ _ _ fun q hq => h q (by simp [hq])
  ·exact .inr rfl
theorem last_err (s : St) (l : List Nat) (b : List UInt8) : (last s l b).2.2 = 0 ∨ (last s l b).2.2 = 4 := by
 unfold last
 split
 ·exact .inl rfl
 ·split
  ·exact .inr rfl
  ·exact .inl rfl
theorem put_err {s : St} {rs : List RowM} (hm : ∀ r ∈ rs, mayR r = 0) : putRE s rs = 0 ∨ putRE s rs = 4 := by
 unfold putRE
 split
 ·exact last_err _ _ _
 ·exact (run_err rs s [] [] hm)
theorem put_back {s : St} {rs : List RowM} (h : putRE s rs ≠ 0) : putRS s rs = s := by
 unfold putRS
 rw [if_neg h]
 exact (Grew.run rs (Grew.nil s)).drop
theorem put_grew {s : St} {rs : List RowM} (h : putRE s rs = 0) : Grew s (putRS s rs) (putRL s rs) := by
 unfold putRS putRL
 rw [if_pos h, if_pos h]
 exact (Grew.run rs (Grew.nil s)).last _
theorem put_full {s : St} {rs : List RowM} (hm : ∀ r ∈ rs, mayR r = 0) (h : putRE s rs ≠ 0) : s.length < used s + need (rowsB rs).length := by
 by_cases hr : need (rowsB rs).length ≤ s.length - used s
 ·exact absurd (put_at hm hr).ok h
 ·have := used_le s
  omega
end Pg
end Go.Proofs.YtcadjekcdokkjaaGreat
namespace Go.Proofs.YtcadjekcdokkjaaGreat
set_option linter.unusedVariables false
set_option linter.unusedSimpArgs false
open Go.RowKit
attribute [local go_sem ↓] Go.wp_at_zero Go.wp_at_succ
namespace Pg
theorem Holds.hon {s : St} {l : List Nat} {rs : List RowM} (h : Holds s l (rowsB rs)) : ∃ j, j < 56 ∧ Hon s l [] rs j := by
 refine ⟨56 * l.length - (rowsB rs).length, ?_, ?_, fun i hi => ?_⟩
 ·rw [h.len]
  unfold need
  split <;> omega
 ·rw [onP_gets, getsB_all _ _ h, List.nil_append]
 ·obtain ⟨k, hk⟩ := List.getElem?_of_mem hi
  exact h.read hk
theorem Laid.done {s0 s s' : St} {l l' : List Nat} {T b : List UInt8} (h2 : Laid s0 s l T b) (h3 : b.length < 56) (hl : last s l b = (s', l', 0)) : Holds s' l' T := by
 have hle := h2.le
 have hbl : b.length = T.length - 56 * l.length := by rw [h2.rest, List.length_drop]
 by_cases hb : b = []
 ·subst hb
  unfold last at hl
  rw [if_pos rfl] at hl
  injection hl with e1 e2
  injection e2 with e2 _
  subst e1; subst e2
  have hz : T.length - 56 * l.length = 0 := hbl.symm
  exact ⟨by rw [need_div hle (by omega), if_pos hz], fun k i hk => by rw [at_nat, h2.at_ k i hk]; rfl⟩
 ·have hbp : 0 < b.length := List.length_pos_iff.2 hb
  have hn : need T.length = l.length + 1 := by rw [need_div hle (by omega), if_neg (by omega)]
  unfold last at hl
  rw [if_neg hb] at hl
  cases hf : free1 s with
  | none =>
   rw [hf] at hl
   injection hl with _ e2
   injection e2 with _ e3
   cases e3
  | some i =>
   rw [hf] at hl
   injection hl with e1 e2
   injection e2 with e2 _
   subst e1; subst e2
   obtain ⟨_, _, _, hi1, hi2⟩ := free1_some hf
   have hni := h2.ne hi2
   refine ⟨by rw [hn, List.length_append]; rfl, fun k j hk => ?_⟩
   have : (s.set i (some (page i b)))[j]? = some (some (page j ((T.drop (56 * k)).take 56))) := by
    rw [List.getElem?_append] at hk
    split at hk
    ·rw [List.getElem?_set_ne (fun e => hni (by rw [e]; exact List.mem_of_getElem? hk))]
     exact h2.at_ k j hk
    ·have hk0 : k = l.length := by
      have := (List.getElem?_eq_some_iff.1 hk).1
      simp at this
      omega
     subst hk0
     rw [Nat.sub_self] at hk
     injection hk with hk
     subst hk
     rw [List.getElem?_set_self hi1, ← h2.rest, List.take_of_length_le (by omega)]
   rw [at_nat, this]
   rfl
theorem Laid.full {s0 s s' : St} {l l' : List Nat} {T b U b' : List UInt8} (h : Laid s0 s l T b) (hl : Pg.lay s l (b ++ U) = (s', l', b')) (hb : 56 ≤ b'.length) : s0.length < Pg.used s0 + need (T ++ U).length := by
 by_cases hr : (T ++ U).length / 56 ≤ s0.length - Pg.used s0
 ·have := (Laid.lay _ (Nat.le_refl _) (h.add U) hr).2
  rw [hl] at this
  have : b'.length < 56 := this
  omega
 ·have := Pg.used_le s0
  have := need_ge56 (T ++ U).length
  omega
theorem Laid.last_full {s0 s s' : St} {l l' : List Nat} {T b : List UInt8} (h : Laid s0 s l T b) (hb : b.length < 56) (hl : Pg.last s l b = (s', l', 4)) : s0.length < Pg.used s0 + need T.length := by
 unfold Pg.last at hl
 split at hl
 ·injection hl with _ e2
  injection e2 with _ e3
  cases e3
 ·rename_i hbn
  have hle := h.le
  have hbl : b.length = T.length - 56 * l.length := by rw [h.rest, List.length_drop]
  have hbp : 0 < b.length := List.length_pos_iff.2 hbn
  have hn : need T.length = l.length + 1 := by rw [need_div hle (by omega), if_neg (by omega)]
  cases hf : free1 s with
  | none =>
   have hu := h.used
   have hsl := h.len
   by_cases hlt : Pg.used s < s.length
   ·obtain ⟨i, hi⟩ := free1_is hlt
    rw [hi] at hf
    cases hf
   ·omega
  | some i =>
   rw [hf] at hl
   injection hl with _ e2
   injection e2 with _ e3
   cases e3
theorem Laid.lay_ok {s0 s s' : St} {l l' : List Nat} {T b U b' : List UInt8} (h : Laid s0 s l T b) (hl : Pg.lay s l (b ++ U) = (s', l', b')) (hb : b'.length < 56) : Laid s0 s' l' (T ++ U) b' := by
 have hall : ∀ (n : Nat) {s : St} {l : List Nat} {T b : List UInt8}, b.length ≤ n → Laid s0 s l T b → (Pg.lay s l b).2.2.length < 56 → Laid s0 (Pg.lay s l b).1 (Pg.lay s l b).2.1 T (Pg.lay s l b).2.2 := fun n => by
  induction n with
  | zero =>
   intro s l T b hn h _
   rw [lay_end (by omega)]
   exact h
  | succ n ih =>
   intro s l T b hn h hlt
   by_cases hb : 56 ≤ b.length
   ·cases hf : free1 s with
    | none => rw [lay_no hf]; exact h
    | some i =>
     rw [lay_yes hb hf] at hlt ⊢
     exact ih (by rw [List.length_drop]; omega) (h.step hb hf) hlt
   ·rw [lay_end (by omega)]
    exact h
 have := hall _ (Nat.le_refl _) (h.add U) (by rw [hl]; exact hb)
 rw [hl] at this
 exact this
theorem Laid.run_ok {s0 : St} : ∀ (rs : List RowM) {s : St} {l : List Nat} {T b : List UInt8}, Laid s0 s l T b → b.length < 56 → (∀ r ∈ rs, mayR r = 0) → (Pg.run s l b rs).2.2.2 = 0 → Laid s0 (Pg.run s l b rs).1 (Pg.run s l b rs).2.1 (T ++ rowsB rs) (Pg.run s l b rs).2.2.1 ∧ (Pg.run s l b rs).2.2.1.length < 56
 | [], s, l, T, b, h, hb, _, _ => by
  rw [Pg.run, show rowsB [] = [] from rfl, List.append_nil]
  exact ⟨h, hb⟩
 | r :: rs, s, l, T, b, h, hb, hm, he => by
  have e : rowsB (r :: rs) = rowB r ++ rowsB rs := by simp [rowsB]
  obtain ⟨s1, l1, b1, hl⟩ : ∃ s1 l1 b1, Pg.lay s l (b ++ rowB r) = (s1, l1, b1) := ⟨_, _, _, rfl⟩
  by_cases hb1 : b1.length < 56
  ·rw [run_on (hm r (by simp)) hl hb1] at he ⊢
   rw [e, ← List.append_assoc]
   exact Laid.run_ok rs (h.lay_ok hl hb1) hb1 (fun q hq => hm q (by simp [hq])) he
  ·rw [run_full (hm r (by simp)) hl (by omega)] at he
   cases he
theorem put_lie {s : St} {rs : List RowM} (hm : ∀ r ∈ rs, mayR r = 0) (h : putRE s rs = 0) : Holds (putRS s rs) (putRL s rs) (rowsB rs) := by
 have h1 : (Pg.run s [] [] rs).2.2.2 = 0 := by
  unfold putRE at h
  split at h
  ·assumption
  ·exact h
 have h2 : (Pg.last (Pg.run s [] [] rs).1 (Pg.run s [] [] rs).2.1 (Pg.run s [] [] rs).2.2.1).2.2 = 0 := by
  unfold putRE at h
  rw [if_pos h1] at h
  exact h
 have h3 := Laid.run_ok rs (Laid.nil s) (by decide) hm h1
 rw [List.nil_append] at h3
 unfold putRS putRL
 rw [if_pos h, if_pos h]
 exact h3.1.done h3.2 (by rw [← h2])
end Pg
structure FiM where
 b : Nat
 l : List Nat
 c : List RowM
structure Files (ks : List Ky) (N : List Nat) (s0 s : Pg.St) (fs : List FiM) : Prop where
 has : Pg.Has s (N ++ fs.flatMap FiM.l)
 same : ∀ i ∈ N, s[i]? = s0[i]?
 lies : ∀ f ∈ fs, Lies s f.l (sortR ks f.c) ∧ f.l.length ≤ Pg.need (rowsB f.c).length
 len : s.length = s0.length
namespace Files
variable {ks : List Ky} {N : List Nat} {s0 s s' : Pg.St} {fs fs' : List FiM}
theorem start {N : List Nat} {s0 : Pg.St} (h : Pg.Has s0 N) : Files ks N s0 s0 [] := ⟨by rw [List.flatMap_nil, List.append_nil]; exact h, fun _ _ => rfl, fun f hf => (by cases hf), rfl⟩
theorem perm (h : Files ks N s0 s fs) (p : fs.Perm fs') : Files ks N s0 s fs' :=
 ⟨h.has.perm (List.Perm.append_left _ (p.flatMap_right _)), h.same, fun f hf => h.lies f (p.mem_iff.2 hf), h.len⟩
theorem taken (h : Files ks N s0 s fs) {f : FiM} (hf : f ∈ fs) : ∀ i ∈ f.l, ∃ x, s[i]? = some (some x) := fun i hi => h.has.at_ i (List.mem_append.2 (.inr (List.mem_flatMap.2 ⟨f, hf, hi⟩)))
theorem used (h : Files ks N s0 s fs) : Pg.used s ≤ N.length + needs (fs.map FiM.c) := by
 have e : ∀ fs : List FiM, (∀ f ∈ fs, f.l.length ≤ Pg.need (rowsB f.c).length) → (fs.flatMap FiM.l).length ≤ needs (fs.map FiM.c) := fun fs => by
  induction fs with
  | nil => intro _; exact Nat.zero_le _
  | cons f fs ih =>
   intro hl
   have h1 := ih fun g hg => hl g (by simp [hg])
   have h2 := hl f (by simp)
   rw [List.flatMap_cons, List.length_append, List.map_cons, needs_cons]
   omega
 have := e fs fun f hf => (h.lies f hf).2
 rw [h.has.used, List.length_append]
 omega
theorem grow (h : Files ks N s0 s fs) {l : List Nat} (hg : Pg.Grew s s' l) (b : Nat) {c : List RowM} (hl : Lies s' l (sortR ks c)) (hn : l.length ≤ Pg.need (rowsB c).length) : Files ks N s0 s' (fs ++ [⟨b, l, c⟩]) := by
 have hA : ∀ i, i ∈ N ++ fs.flatMap FiM.l → i ∉ l := fun i hi hm => by
  obtain ⟨x, hx⟩ := h.has.at_ i hi
  rw [hg.new i hm] at hx
  cases hx
 have e : N ++ (fs ++ [FiM.mk b l c]).flatMap FiM.l = (N ++ fs.flatMap FiM.l) ++ l := by simp
 refine ⟨?_, fun i hi => ?_, fun f hf => ?_, by rw [hg.len, h.len]⟩
 ·rw [e]
  refine ⟨?_, fun i hi => ?_, by rw [hg.used, h.has.used]; simp; omega⟩
  ·rw [List.nodup_append]
   exact ⟨h.has.nodup, hg.nodup, fun x hx y hy e => hA x hx (by rw [e]; exact hy)⟩
  ·rcases List.mem_append.1 hi with hi | hi
   ·rw [hg.same i (hA i hi)]
    exact h.has.at_ i hi
   ·exact hg.own i hi
 ·rw [hg.same i (hA i (List.mem_append.2 (.inl hi)))]
  exact h.same i hi
 ·rcases List.mem_append.1 hf with hf | hf
  ·obtain ⟨h1, h2⟩ := h.lies f hf
   exact ⟨h1.same fun i hi => hg.same i (hA i (List.mem_append.2 (.inr (List.mem_flatMap.2 ⟨f, hf, hi⟩)))), h2⟩
  ·rw [List.mem_singleton.1 hf]
   exact ⟨hl, hn⟩
theorem drop {f : FiM} (h : Files ks N s0 s (f :: fs)) : Files ks N s0 (Pg.dropS s (f.l.map Int.ofNat)) fs := by
 have hp : (N ++ (f :: fs).flatMap FiM.l).Perm (f.l ++ (N ++ fs.flatMap FiM.l)) := by
  rw [List.flatMap_cons, ← List.append_assoc, ← List.append_assoc]
  exact List.perm_append_comm.append_right _
 have hh := h.has.perm hp
 have hnd := List.nodup_append.1 hh.nodup
 have hat := Pg.Grew.drop_at f.l s hnd.1 fun i hi => hh.at_ i (List.mem_append.2 (.inl hi))
 have hni : ∀ i, i ∈ N ++ fs.flatMap FiM.l → i ∉ f.l := fun i hi hm => hnd.2.2 i hm i hi rfl
 refine ⟨Pg.Has.drop f.l hh, fun i hi => ?_, fun g hg => ?_, ?_⟩
 ·rw [hat, if_neg (hni i (List.mem_append.2 (.inl hi)))]
  exact h.same i hi
 ·obtain ⟨h1, h2⟩ := h.lies g (by simp [hg])
  exact ⟨h1.same fun i hi => by rw [hat, if_neg (hni i (List.mem_append.2 (.inr (List.mem_flatMap.2 ⟨g, hg, hi⟩))))], h2⟩
 ·rw [Pg.length_dropS, h.len]
end Files
/-! ### Where a merge's rows go -/
def WrP (bs bw : Nat) (s0 : Pg.St) (acc : List RowM) (s : Pg.St) (w : World) (S : Nat → Prop) : Prop :=
 ∃ l k ic I rest n rc R, WrAt w S bs bw l k ic I rest n rc R ((acc.length : Nat) : Int) false ∧ Pg.Laid s0 s l (rowsB acc) rest ∧ rest.length < 56 ∧ Pg.Grew s0 s l
def WrX (bs bw : Nat) (s0 : Pg.St) (T : List RowM) (s : Pg.St) (w : World) (S : Nat → Prop) : Prop :=
 s = s0 ∧ s0.length < Pg.used s0 + Pg.need (rowsB T).length ∧ ∃ l k ic I rest n rc R many, WrAt w S bs bw l k ic I rest n rc R many true
theorem WrAt.good (B bs bw : Nat) (l : List Nat) (k ic : Nat) (I : Option Addr) (rest : List UInt8) (n rc : Nat) (R : Option Addr) (many : Int) (e : Bool) : Good B fun w S => WrAt w S bs bw l k ic I rest n rc R many e :=
 ⟨fun _ _ _ h hs => h.wide hs, fun _ _ h => h.bound, fun _ _ _ _ h hd ht => h.turns hd ht⟩
theorem WrP.good (B bs bw : Nat) (s0 : Pg.St) (acc : List RowM) (s : Pg.St) : Good B (WrP bs bw s0 acc s) :=
 Good.ex fun _ => Good.ex fun _ => Good.ex fun _ => Good.ex fun _ => Good.ex fun _ => Good.ex fun _ => Good.ex fun _ => Good.ex fun _ => (WrAt.good ..).and (Good.pure _)
theorem WrX.good (B bs bw : Nat) (s0 : Pg.St) (T : List RowM) (s : Pg.St) : Good B (WrX bs bw s0 T s) :=
 (Good.pure _).and ((Good.pure _).and (Good.ex fun _ => Good.ex fun _ => Good.ex fun _ => Good.ex fun _ => Good.ex fun _ => Good.ex fun _ => Good.ex fun _ => Good.ex fun _ => Good.ex fun _ => WrAt.good ..))
theorem wrp_to (B bs bw : Nat) (F : List Nat) (T : List RowM) (s0 : Pg.St) (hT : T.length ≤ 1000000) (hF : ∀ i ∈ F, ∃ x, s0[i]? = some (some x)) : ToC B bs F T 93 #[.pointer (some ⟨bw, 0, none⟩)] #[] (WrP bs bw s0) (WrX bs bw s0 T) := by
 refine ⟨Go.Proofs.enters_of Tryz.func93 (by kernel_rfl) rfl, fun acc s => WrP.good .., fun s => WrX.good .., ?_⟩
 intro acc r s w S A n c h hs hB hy hn ho hi hf hok hl hp
 obtain ⟨u, hp⟩ := hp
 have hlen := hp.length_eq
 rw [List.length_append, List.length_cons] at hlen
 obtain ⟨l, k, ic, I, rest, n1, rc, R, h1, h2, h3, h4⟩ := h
 obtain ⟨s', l', b', hlay⟩ : ∃ s' l' b', Pg.lay s l (rest ++ rowB r) = (s', l', b') := ⟨_, _, _, rfl⟩
 have hg := Pg.Grew.lay _ (Nat.le_refl _) h4 (b := rest ++ rowB r)
 rw [hlay] at hg
 have hg : Pg.Grew s0 s' l' := hg
 have hnl := h1.nlen
 have hsame : ∀ i ∈ F, s'[i]? = s[i]? := fun i hi => by
  obtain ⟨x, hx⟩ := hF i hi
  rw [hg.same i (fun hm => by rw [hg.new i hm] at hx; cases hx), h4.same i (fun hm => by rw [h4.new i hm] at hx; cases hx)]
 refine (add_c S B bs bw s s' l l' k ic I rest b' n1 rc R acc.length r n c A w h1 hs hB h4.mine hy (by omega) (by omega) hn (Own.rd ho) hok hf.may hlay).mono ?_
 rintro e w' ⟨⟨k', ic', I', n', rc', R', ⟨hb, rfl, q1, q2⟩ | ⟨hb, rfl, q1, q2⟩⟩, hT'⟩
 ·refine ⟨s', q1, hT', hsame, .inl ⟨rfl, l', k', ic', I', b', n', rc', R', ?_, ?_, hb, hg⟩⟩
  ·rw [List.length_append, List.length_singleton]; exact q2
  ·have := h2.lay_ok hlay hb
   rw [rowsB_app]
   simpa [rowsB] using this
 ·rw [hg.drop] at q1
  refine ⟨s0, q1, hT', fun i hi => ?_, .inr ⟨rfl, rfl, ?_, l', k', ic', I', b', n', rc', R', _, q2⟩⟩
  ·obtain ⟨x, hx⟩ := hF i hi
   exact (h4.same i fun hm => by rw [h4.new i hm] at hx; cases hx).symm
  ·have h5 := h2.full hlay hb
   have h6 : (rowsB acc ++ rowB r).length ≤ (rowsB T).length := by
    have := rowsB_perm hp
    rw [show acc ++ r :: u = (acc ++ [r]) ++ u by simp, rowsB_app, rowsB_app, List.length_append, List.length_append] at this
    rw [List.length_append]
    simp [rowsB] at this ⊢
    omega
   have := need_mono h6
   omega
end Go.Proofs.YtcadjekcdokkjaaGreat
namespace Go.Proofs.YtcadjekcdokkjaaGreat
set_option linter.unusedVariables false
set_option linter.unusedSimpArgs false
open Go.RowKit
attribute [local go_sem ↓] Go.wp_at_zero Go.wp_at_succ
structure SrAt (w0 w : World) (B bs bp bS : Nat) (KA : Option Addr) (kn kc most left least : Nat) (s : Pg.St) (HA : Option Addr) (hn hc : Nat) (hh : List Value) (RA : Option Addr) (rn rc : Nat) (rs : List Nat) (fs : List FiM) : Prop where
 hB : B ≤ w0.heap.size
 hp : B ≤ bp
 hpl : bp < w0.heap.size
 fr : Turns (fun i => i = bp ∨ w0.heap.size ≤ i) StT B w0 w
 sto : Sto w B bs s
 pu : Pu w bp most left least
 low : w0.heap.size ≤ bS
 blk : Blk w bS 78 [.pointer (some ⟨bs, 0, none⟩), .pointer (some ⟨bp, 0, none⟩), .slice KA kn kc, .slice HA hn hc, .slice RA rn rc]
 hel : Own w w0.heap.size 23 1 HA hn hc hh
 runs : OwnX w w0.heap.size 94 RA rn rc (Ptrs rs)
 fi : ∀ f ∈ fs, ∃ k ic I, FiAt w (fun i => w0.heap.size ≤ i) bs f.b f.l k ic I (f.c.length : Int)
theorem Turns.purse {B bp most left least : Nat} {w w' : World} (h : Turns (fun i => i = bp ∨ w.heap.size ≤ i) StT B w w') (hp : Pu w bp most left least) (hB : B ≤ bp) : Keeps (74 :: StT) B w w' := by
 refine ⟨h.os, h.tape, h.output, h.size, fun k hk ht => ?_⟩
 have hne : ¬ (k = bp ∨ w.heap.size ≤ k) := by
  rintro (rfl | h2)
  ·rcases ht with ht | ht
   ·omega
   ·exact ht _ _ _ hp (List.mem_cons_self ..)
  ·omega
 exact h.block k hk hne (ht.imp_right fun ht c t f e hm => ht c t f e (List.mem_cons_of_mem _ hm))
namespace SrAt
variable {w0 w w' : World} {B bs bp bS : Nat} {KA : Option Addr} {kn kc most left least left' least' : Nat} {s s' : Pg.St} {HA : Option Addr} {hn hc : Nat} {hh : List Value} {RA : Option Addr} {rn rc : Nat} {rs : List Nat} {fs fs' : List FiM}
theorem kept (h : SrAt w0 w B bs bp bS KA kn kc most left least s HA hn hc hh RA rn rc rs fs) (hT : Turns (fun i => i = bp ∨ w0.heap.size ≤ i) StT B w w') (hk : Keeps (74 :: StT) B w w') (hs : Sto w' B bs s') (hp : Pu w' bp most left' least') (hf : ∀ f ∈ fs', f ∈ fs) :
  SrAt w0 w' B bs bp bS KA kn kc most left' least' s' HA hn hc hh RA rn rc rs fs' :=
 ⟨h.hB, h.hp, h.hpl, h.fr.trans hT, hs, hp, h.low, h.blk.keeps (by decide) hk, Own.keeps h.hel (by decide) hk, h.runs.keeps (by decide) hk, fun f hfm => by
  obtain ⟨k, ic, I, hh⟩ := h.fi f (hf f hfm)
  exact ⟨k, ic, I, hh.keeps (by decide) hk⟩⟩
theorem turn (h : SrAt w0 w B bs bp bS KA kn kc most left least s HA hn hc hh RA rn rc rs fs) (hT : Turns (fun i => i = bp ∨ w.heap.size ≤ i) StT B w w') (hs : Sto w' B bs s') (hp : Pu w' bp most left' least') :
  SrAt w0 w' B bs bp bS KA kn kc most left' least' s' HA hn hc hh RA rn rc rs fs :=
 h.kept (hT.more fun k _ hk => hk.imp_right fun h2 => Nat.le_trans h.fr.size h2) (hT.purse h.pu h.hp) hs hp fun _ hf => hf
theorem below (h : SrAt w0 w B bs bp bS KA kn kc most left least s HA hn hc hh RA rn rc rs fs) (hb : Below w.heap.size w w') : SrAt w0 w' B bs bp bS KA kn kc most left least s HA hn hc hh RA rn rc rs fs :=
 h.turn (Turns.of_below hb) (h.sto.below hb) (h.pu.below hb)
theorem file (h : SrAt w0 w B bs bp bS KA kn kc most left least s HA hn hc hh RA rn rc rs fs) {f : FiM} {k ic : Nat} {I : Option Addr} (hf : FiAt w (fun i => w0.heap.size ≤ i) bs f.b f.l k ic I (f.c.length : Int)) : SrAt w0 w B bs bp bS KA kn kc most left least s HA hn hc hh RA rn rc rs (fs ++ [f]) :=
 ⟨h.hB, h.hp, h.hpl, h.fr, h.sto, h.pu, h.low, h.blk, h.hel, h.runs, fun g hg => by
  rcases List.mem_append.1 hg with hg | hg
  ·exact h.fi g hg
  ·rw [List.mem_singleton.1 hg]
   exact ⟨k, ic, I, hf⟩⟩
end SrAt
theorem FiAt.good (B bs bf : Nat) (l : List Nat) (k ic : Nat) (I : Option Addr) (many : Int) : Good B fun w S => FiAt w S bs bf l k ic I many :=
 ⟨fun _ _ _ h hs => h.wide hs, fun _ _ h => h.bound, fun _ _ _ _ h hd ht => h.turns hd ht⟩
def JP0 (B bS bs bp : Nat) (KA FA : Option Addr) (kn kc : Nat) (ks : List Ky) (X Y : Value) (fs : List FiM) (w : World) (S : Nat → Prop) : Prop :=
 (S bS ∧ Blk w bS 78 [.pointer (some ⟨bs, 0, none⟩), .pointer (some ⟨bp, 0, none⟩), .slice KA kn kc, X, Y]) ∧ (Rs StT B w KA (kyc ks) ∧ (kyc ks ≠ [] → InS S KA)) ∧ (Rs StT B w FA (Ptrs (fs.map FiM.b)) ∧ (Ptrs (fs.map FiM.b) ≠ [] → InS S FA)) ∧ ∀ f, f ∈ fs → ∃ k ic I, FiAt w S bs f.b f.l k ic I (f.c.length : Int)
theorem JP0.good (B bS bs bp : Nat) (KA FA : Option Addr) (kn kc : Nat) (ks : List Ky) (X Y : Value) (fs : List FiM) : Good B (JP0 B bS bs bp KA FA kn kc ks X Y fs) :=
 (Good.blk bS 78 _ (by decide)).and ((Good.rs KA _).and ((Good.rs FA _).and (Good.all fun _ => Good.imp (Good.ex fun _ => Good.ex fun _ => Good.ex fun _ => FiAt.good ..))))
theorem sort_length (ks : List Ky) (l : List RowM) : (sortR ks l).length = l.length := (sort_perm ks l).length_eq
theorem JP0.min {B bS bs bp : Nat} {KA FA : Option Addr} {kn kc : Nat} {ks : List Ky} {X Y : Value} {fs : List FiM} {s : Pg.St} {F : List Nat} (hl : ∀ f ∈ fs, Lies s f.l (sortR ks f.c) ∧ ∀ x ∈ f.l, x ∈ F) :
  MIn (JP0 B bS bs bp KA FA kn kc ks X Y fs) bS bs bp KA FA kn kc ks (fs.map FiM.b) s F fun i => sortR ks ((fs.map FiM.c).getD i []) := by
 refine ⟨fun w S h => ⟨X, Y, h.1.2⟩, fun w S h => h.2.1.1.rd, fun w S h => h.2.2.1.1.rd, fun w S h i bf hi => ?_⟩
 rw [List.getElem?_map] at hi
 obtain ⟨f, hf, rfl⟩ := Option.map_eq_some_iff.1 hi
 have hm := List.mem_of_getElem? hf
 obtain ⟨k, ic, I, h1⟩ := h.2.2.2 f hm
 have e : (fs.map FiM.c).getD i [] = f.c := by rw [List.getD_eq_getElem?_getD, List.getElem?_map, hf]; rfl
 simp only [e]
 rw [sort_length]
 exact ⟨S, f.l, k, ic, I, h1, (hl f hm).2, (hl f hm).1⟩
def colP (bp i : Nat) : Nat := if i = bp then 1 else 0
theorem colP_at (bp : Nat) : colP bp bp = 1 := if_pos rfl
theorem colP_ne {bp i : Nat} (h : i ≠ bp) : colP bp i = 0 := if_neg h
theorem Fam.start1 {w : World} {B bp most left least : Nat} {P0 : World → (Nat → Prop) → Prop} (hB : B ≤ w.heap.size) (hp : B ≤ bp) (hg : Good B P0) (h0 : P0 w fun i => i < w.heap.size ∧ i ≠ bp) (h1 : Pu w bp most left least) :
  Fam w w B (colP bp) (colP bp) (MP P0 (PuP bp most left least) TT TT TT fun _ => TT) := by
 refine Fam.start hB (fun i hi => ?_) (MP.good hg (PuP.good ..) (TT.good B) (TT.good B) (TT.good B) fun _ => TT.good B) ?_
 ·by_cases e : i = bp
  ·rw [e]; exact hp
  ·exact absurd (colP_ne e) hi
 ·intro d
  match d with
  | 0 => exact hg.mono _ _ _ h0 fun i hi => ⟨colP_ne hi.2, hi.1⟩
  | 1 => exact ⟨⟨colP_at bp, h1.lt⟩, h1⟩
  | 2 => trivial
  | 3 => trivial
  | 4 => trivial
  | i + 5 => trivial
theorem Fam.turned {w w' : World} {B bp : Nat} {col : Nat → Nat} {P : Nat → World → (Nat → Prop) → Prop} (h : Fam w w' B (colP bp) col P) : Turns (fun i => i = bp ∨ w.heap.size ≤ i) StT B w w' :=
 h.frame.more fun k _ hk => hk.imp_left fun h2 => by
  by_cases e : k = bp
  ·exact e
  ·exact absurd (colP_ne e) h2
theorem Fam.new2 {w w' : World} {B bp : Nat} {col : Nat → Nat} {P : Nat → World → (Nat → Prop) → Prop} (h : Fam w w' B (colP bp) col P) {d i : Nat} (hd : 1 < d) (hi : Of w' col d i) : w.heap.size ≤ i := by
 by_cases hl : i < w.heap.size
 ·have := h.old i hl
  rw [hi.1] at this
  unfold colP at this
  split at this <;> omega
 ·omega
end Go.Proofs.YtcadjekcdokkjaaGreat
