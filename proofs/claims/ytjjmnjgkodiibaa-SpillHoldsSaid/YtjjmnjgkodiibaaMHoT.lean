/- What Add, Done, Cancel, New and Drop come to, of three writers and files over one store. -/
import Derived.Test.YtjjmnjgkodiibaaMHoS
namespace Go.Proofs.Ytjjmnjgkodiibaa
open Go.RowKit

namespace Held
variable {w w' : World} {B bs : Nat} {s s' : Pg.St} {on on' : Nat → Prop} {bw : Nat → Nat} {P P' : Nat → List Nat} {N N' : List Nat} {bf : List Nat} {F F' : List (List Nat)} {A : Option Addr} {nf c j j' : Nat} {E E' : List (Nat × TypeId × List Value)} {K : Nat} {col cw cf : Nat → Nat}
theorem later (h : Held w B bs s on bw P N bf F A nf c j E K col cw cf) (hj : j ≤ j') : Held w B bs s on bw P N bf F A nf c j' E K col cw cf :=
  ⟨h.sto, h.hB, h.low, fun k hk ho => (h.wr k hk ho).wide (fun _ hi => hi) hj, h.off, h.fil, h.fz, h.fl, h.fi, h.has, h.cwp, h.cfp, h.cww, h.cff, h.cwf, h.ext, h.kp⟩
theorem sub (h : Held w B bs s on bw P N bf F A nf c j E K col cw cf) (hE : ∀ x ∈ E', x ∈ E) : Held w B bs s on bw P N bf F A nf c j E' K col cw cf :=
  ⟨h.sto, h.hB, h.low, h.wr, h.off, h.fil, h.fz, h.fl, h.fi, h.has, h.cwp, h.cfp, h.cww, h.cff, h.cwf, fun x hx => h.ext x (hE x hx), h.kp⟩
/-- A writer is no longer looked at: it is ended. -/
theorem out (h : Held w B bs s on bw P N bf F A nf c j E K col cw cf) {k : Nat} (hP : P k = []) : Held w B bs s (fun q => on q ∧ q ≠ k) bw P N bf F A nf c j E K col cw cf :=
  ⟨h.sto, h.hB, h.low, fun q hq ho => h.wr q hq ho.1, fun q hq ho => by
    by_cases e : q = k
    · rw [e]; exact hP
    · exact h.off q hq fun h2 => ho ⟨h2, e⟩, h.fil, h.fz, h.fl, h.fi, h.has, fun q hq ho => h.cwp q hq ho.1, h.cfp, fun q q' hq hq' ho ho' => h.cww q q' hq hq' ho.1 ho'.1, h.cff, fun q i hq ho => h.cwf q i hq ho.1, h.ext, h.kp⟩

theorem all_of {d i : Nat} (h : (Of w col d i ∨ w.heap.size ≤ i) ∧ i < w'.heap.size) (hz : w.heap.size ≤ w'.heap.size) : Of w' (paint w col d) d i := by
  rcases h.1 with h1 | h1
  · exact h1.paint hz
  · exact ⟨paint_new h1, h.2⟩
theorem ne_file (h : Held w B bs s on bw P N bf F A nf c j E K col cw cf) {k i x : Nat} (hk : k < 3) (ho : on k) (hx : bf[i]? = some x) : cf i ≠ cw k := fun e =>
  h.cwf k i hk ho (by have := (List.getElem?_eq_some_iff.1 hx).1; have := h.bl; omega) e.symm

/-- A writer has been at work. -/
theorem turnW (h : Held w B bs s on bw P [] bf F A nf c j E K col cw cf) {k : Nat} (hk : k < 3) (ho : on k) (hT : Turns (fun i => Of w col (cw k) i ∨ w.heap.size ≤ i) StT B w w') (hs : Sto w' B bs s')
    (hj : j ≤ j') (hon : ∀ q, on' q → on q) (hq : ∀ q, q ≠ k → on q → on' q) (l' : List Nat) (hl : ¬ on' k → l' = [])
    (hW : on' k → Wr w' (Of w' (paint w col (cw k)) (cw k)) bs (bw k) l' j') (hhas : Pg.Has s' (N' ++ (l' ++ (Pg.tot (Pg.upd P k []) ++ F.flatten)))) :
    Held w' B bs s' on' bw (Pg.upd P k l') N' bf F A nf c j' E K (paint w col (cw k)) cw cf := by
  refine h.turn (h.cwp k hk ho).1 hT hs hj hon (fun q hq3 hnq => ?_) (fun q hq3 hoq => ?_) h.fl (fun i x y h1 h2 => .inl ⟨h.ne_file hk ho h1, h2⟩) (hhas.perm (List.Perm.append_left _ ?_))
  · by_cases e : q = k
    · rw [e, Pg.upd_same]; exact hl (e ▸ hnq)
    · rw [Pg.upd_other _ _ e]; exact h.off q hq3 fun h2 => hnq (hq q e h2)
  · by_cases e : q = k
    · rw [e, Pg.upd_same]; exact .inr (hW (e ▸ hoq))
    · rw [Pg.upd_other _ _ e]; exact .inl ⟨fun h2 => e (h.cww q k hq3 hk (hon q hoq) ho h2), rfl⟩
  · have := (Pg.tot_at (Pg.upd P k l') hk F.flatten).symm
    rw [Pg.upd_same, Pg.upd_upd] at this
    exact this
theorem has_at (h : Held w B bs s on bw P [] bf F A nf c j E K col cw cf) {k : Nat} (hk : k < 3) : Pg.Has s (P k ++ (Pg.tot (Pg.upd P k []) ++ F.flatten)) := h.has.perm (Pg.tot_at P hk F.flatten)
end Held

/-- Three writers and files, whatever the colours, the writers' pages and the store's are. -/
def HS (w : World) (B bs : Nat) (on : Nat → Prop) (bw : Nat → Nat) (bf : List Nat) (F : List (List Nat)) (A : Option Addr) (nf c j : Nat) (E : List (Nat × TypeId × List Value)) : Prop :=
  ∃ s P K col cw cf, Held w B bs s on bw P [] bf F A nf c j E K col cw cf
/-- And a file besides, that is in no list yet. -/
def HP (w : World) (B bs : Nat) (on : Nat → Prop) (bw : Nat → Nat) (bf : List Nat) (F : List (List Nat)) (A : Option Addr) (nf c j : Nat) (E : List (Nat × TypeId × List Value)) (x : Nat) (l : List Nat) : Prop :=
  ∃ s P K col cw cf d, Held w B bs s on bw P l bf F A nf c j E K col cw cf ∧ Fi w (Of w col d) bs x l ∧ 0 < d ∧ d < K ∧ (∀ k, k < 3 → on k → cw k ≠ d) ∧ ∀ i, i < nf → cf i ≠ d
/-- A writer that is ended. -/
def Ended (w : World) (bs bw : Nat) : Prop := ∃ (S : Nat → Prop) (l : List Nat) (k ic : Nat) (I : Option Addr) (rest : List UInt8) (n rc : Nat) (R : Option Addr) (many : Int), WrAt w S bs bw l k ic I rest n rc R many true

section
variable {w w' : World} {B bs : Nat} {on on' : Nat → Prop} {bw : Nat → Nat} {bf : List Nat} {F F' : List (List Nat)} {A : Option Addr} {nf c j j' : Nat} {E E' : List (Nat × TypeId × List Value)}
theorem HS.next (h : HS w B bs on bw bf F A nf c j E) (hb : Below w.heap.size w w') (hE : ∀ x ∈ E', w.heap.size ≤ x.1 ∧ Blk w' x.1 x.2.1 x.2.2 ∧ x.2.1 ∉ 39 :: StT) : HS w' B bs on bw bf F A nf c j (E' ++ E) := by
  obtain ⟨s, P, K, col, cw, cf, h⟩ := h
  exact ⟨s, P, K, _, cw, cf, h.next hb hE⟩
theorem HS.below (h : HS w B bs on bw bf F A nf c j E) (hb : Below w.heap.size w w') : HS w' B bs on bw bf F A nf c j E := h.next (E' := []) hb (by simp)
theorem HS.sub (h : HS w B bs on bw bf F A nf c j E) (hE : ∀ x ∈ E', x ∈ E) : HS w B bs on bw bf F A nf c j E' := by
  obtain ⟨s, P, K, col, cw, cf, h⟩ := h
  exact ⟨s, P, K, _, cw, cf, h.sub hE⟩
theorem HS.later (h : HS w B bs on bw bf F A nf c j E) (hj : j ≤ j') : HS w B bs on bw bf F A nf c j' E := by
  obtain ⟨s, P, K, col, cw, cf, h⟩ := h
  exact ⟨s, P, K, _, cw, cf, h.later hj⟩
theorem HS.ext (h : HS w B bs on bw bf F A nf c j E) : ∀ x ∈ E, Blk w x.1 x.2.1 x.2.2 := by
  obtain ⟨s, P, K, col, cw, cf, h⟩ := h
  exact fun x hx => (h.ext x hx).1
theorem HS.fil (h : HS w B bs on bw bf F A nf c j E) : Own w B 39 1 A nf c (Ptrs bf) := by
  obtain ⟨s, P, K, col, cw, cf, h⟩ := h
  exact h.fil
theorem HS.hB (h : HS w B bs on bw bf F A nf c j E) : B ≤ w.heap.size := by
  obtain ⟨s, P, K, col, cw, cf, h⟩ := h
  exact h.hB
theorem HS.lens (h : HS w B bs on bw bf F A nf c j E) : bf.length = nf ∧ F.length = nf := by
  obtain ⟨s, P, K, col, cw, cf, h⟩ := h
  exact ⟨h.bl, h.fl⟩
theorem HS.file (h : HS w B bs on bw bf F A nf c j E) {i x : Nat} {y : List Nat} (h1 : bf[i]? = some x) (h2 : F[i]? = some y) : ∃ (S : Nat → Prop) (k ic : Nat) (I : Option Addr) (many : Int), FiAt w S bs x y k ic I many := by
  obtain ⟨s, P, K, col, cw, cf, h⟩ := h
  obtain ⟨k, ic, I, many, h⟩ := h.fi i x y h1 h2
  exact ⟨_, k, ic, I, many, h⟩
theorem HS.used (h : HS w B bs on bw bf F A nf c j E) : ∃ s t, Sto w B bs s ∧ Pg.used s = t + F.flatten.length ∧ F.flatten.Nodup ∧ (∀ i ∈ F.flatten, i < 4097) ∧ F.flatten.length ≤ 4096 ∧ t ≤ 4096 ∧ ((∀ k, k < 3 → ¬ on k) → t = 0) := by
  obtain ⟨s, P, K, col, cw, cf, h⟩ := h
  have h1 := h.has.used
  have h2 := h.has.nodup
  have h3 := sto_len h.sto
  have h4 := Pg.used_le s
  rw [List.nil_append] at h1 h2
  rw [List.length_append] at h1
  refine ⟨s, (Pg.tot P).length, h.sto, h1, (List.nodup_append.1 h2).2.1, fun i hi => ?_, by omega, by omega, fun ho => ?_⟩
  · have := h.has.lt i (by rw [List.nil_append]; exact List.mem_append.2 (.inr hi))
    omega
  · unfold Pg.tot
    rw [h.off 0 (by omega) (ho 0 (by omega)), h.off 1 (by omega) (ho 1 (by omega)), h.off 2 (by omega) (ho 2 (by omega))]
    rfl
/-- A writer that is there may be let out, if it is ended. -/
theorem HS.out (h : HS w B bs on bw bf F A nf c j E) {k : Nat} (hk : ¬ on k) (hq : ∀ q, on' q ↔ on q) : HS w B bs on' bw bf F A nf c j E := by
  obtain rfl : on' = on := funext fun q => propext (hq q)
  exact h
end

set_option maxRecDepth 100000 in
theorem add_h {w : World} {B bs : Nat} {on : Nat → Prop} {bw : Nat → Nat} {bf : List Nat} {F : List (List Nat)} {A : Option Addr} {nf c j : Nat} {E : List (Nat × TypeId × List Value)} (h : HS w B bs on bw bf F A nf c j E) {k : Nat} (hk : k < 3) (ho : on k) (hj : j ≤ 1000) (r : RowM) (rl cx : Nat) (X : Option Addr) (hn : r.length = rl) (hX : Rd w X (rcells r)) (hok : ∀ v ∈ r, v.ok) (hc : rl ≤ cx) (hc9 : cx ≤ 9223372036854775807) :
    Calls Try.prog 12 #[.pointer (some ⟨bw k, 0, none⟩), .slice X rl cx] w fun e w' => (∃ er : Int, e = .returned (.int .i64 er)) ∧ HS w' B bs on bw bf F A nf c (j + 1) E ∧ Below B w w' := by
  obtain ⟨s, P, K, col, cw, cf, H⟩ := h
  obtain ⟨l, k', ic, I, rest, n, rc, R, many, ended, h1, h2, h3⟩ := H.wr k hk ho
  have hcp := H.cwp k hk ho
  have hh := H.has_at hk
  rcases h3 with ⟨rfl, hP, hn6⟩ | ⟨rfl, hP⟩
  · by_cases hm : mayR r = 0
    · obtain ⟨s', l', b', hlay⟩ : ∃ s' l' b', Pg.lay s l (rest ++ rowB r) = (s', l', b') := ⟨_, _, _, rfl⟩
      rw [hP] at hh
      have hh1 := Pg.Has.lay _ (Nat.le_refl _) (b := rest ++ rowB r) hh
      rw [hlay] at hh1
      refine (add_c (fun i => Of w col (cw k) i ∨ w.heap.size ≤ i) B bs (bw k) s s' l l' k' ic I rest b' n rc R many r rl cx X w (h1.wide fun i hi => .inl hi) H.sto H.hB hh.mine (fun i hi => .inr hi) (by omega) (by omega) hn hX hok hm hlay).mono ?_
      rintro e w' ⟨⟨k2, ic2, I2, n2, rc2, R2, ⟨hb', rfl, hs', hw'⟩ | ⟨hb', rfl, hs', hw'⟩⟩, hT⟩
      · have hnl := hw'.nlen
        exact ⟨⟨0, rfl⟩, ⟨s', _, K, _, cw, cf, H.turnW (N' := []) hk ho hT hs' (Nat.le_succ j) (fun _ h => h) (fun _ _ h => h) l' (fun h => absurd ho h) (fun _ => ⟨l', k2, ic2, I2, b', n2, rc2, R2, many + 1, false, hw'.bound.wide fun i hi => Held.all_of hi hT.size, by omega, .inl ⟨rfl, rfl, by omega⟩⟩) hh1⟩, H.below hcp.1 hT⟩
      · exact ⟨⟨4, rfl⟩, ⟨_, _, K, _, cw, cf, H.turnW (N' := []) hk ho hT hs' (Nat.le_succ j) (fun _ h => h) (fun _ _ h => h) [] (fun _ => rfl) (fun _ => ⟨l', k2, ic2, I2, b', n2, rc2, R2, many + 1, true, hw'.bound.wide fun i hi => Held.all_of hi hT.size, by omega, .inr ⟨rfl, rfl⟩⟩) (Pg.Has.drop l' hh1)⟩, H.below hcp.1 hT⟩
    · refine (add_bad _ bs (bw k) l k' ic I rest n rc R many r rl cx X w h1 hn hX hc hc9 hm).mono ?_
      rintro e w' ⟨rfl, hb⟩
      exact ⟨⟨_, rfl⟩, ⟨s, P, K, _, cw, cf, (H.next (E' := []) hb (by simp)).later (Nat.le_succ j)⟩, hb.mono H.hB⟩
  · refine (add_ended _ bs (bw k) l k' ic I rest n rc R many X rl cx w h1).mono ?_
    rintro e w' ⟨rfl, rfl⟩
    exact ⟨⟨2, rfl⟩, ⟨s, P, K, _, cw, cf, H.later (Nat.le_succ j)⟩, Below.refl _ _⟩

theorem last_has {s s' : Pg.St} {l l' M b : List _} {er : Int} (h : Pg.Has s (l ++ M)) (hl : Pg.last s l b = (s', l', er)) : Pg.Has s' (l' ++ M) := by
  rcases last_cases hl with ⟨_, e1, e2, _⟩ | ⟨_, _, e1, e2, _⟩ | ⟨_, i, hf, e1, e2, _⟩
  · rw [e1, e2]; exact h
  · rw [e1, e2]; exact h
  · rw [e1, e2]; exact h.step hf _

set_option maxRecDepth 100000 in
theorem done_h {w : World} {B bs : Nat} {on : Nat → Prop} {bw : Nat → Nat} {bf : List Nat} {F : List (List Nat)} {A : Option Addr} {nf c j : Nat} {E : List (Nat × TypeId × List Value)} (h : HS w B bs on bw bf F A nf c j E) {k : Nat} (hk : k < 3) (ho : on k) :
    Calls Try.prog 13 #[.pointer (some ⟨bw k, 0, none⟩)] w fun e w' => ((∃ x l, e = .returned (.tuple #[.pointer (some ⟨x, 0, none⟩), .int .i64 0]) ∧ HP w' B bs (fun q => on q ∧ q ≠ k) bw bf F A nf c j E x l) ∨
      (∃ er : Int, (er == 0) = false ∧ e = .returned (.tuple #[.pointer none, .int .i64 er]) ∧ HS w' B bs (fun q => on q ∧ q ≠ k) bw bf F A nf c j E)) ∧ Ended w' bs (bw k) ∧ Below B w w' := by
  obtain ⟨s, P, K, col, cw, cf, H⟩ := h
  obtain ⟨l, k', ic, I, rest, n, rc, R, many, ended, h1, h2, h3⟩ := H.wr k hk ho
  have hcp := H.cwp k hk ho
  have hh := H.has_at hk
  rcases h3 with ⟨rfl, hP, hn6⟩ | ⟨rfl, hP⟩
  · obtain ⟨s', l', er, hlast⟩ : ∃ s' l' er, Pg.last s l rest = (s', l', er) := ⟨_, _, _, rfl⟩
    rw [hP] at hh
    have hh1 := last_has hh hlast
    refine (done_c (fun i => Of w col (cw k) i ∨ w.heap.size ≤ i) B bs (bw k) s s' l l' k' ic I rest n rc R many er w (h1.wide fun i hi => .inl hi) H.sto H.hB hh.mine (fun i hi => .inr hi) (by omega) hlast).mono ?_
    rintro e w' ⟨⟨_, x, k2, ic2, I2, rfl, hs', hf', hw'⟩ | ⟨_, rfl, hs', k2, ic2, I2, hw'⟩, hT⟩
    · refine ⟨.inl ⟨x, l', rfl, s', _, K, _, cw, cf, cw k, H.turnW (on' := fun q => on q ∧ q ≠ k) (N' := l') hk ho hT hs' (Nat.le_refl _) (fun _ h => h.1) (fun _ h1 h2 => ⟨h2, h1⟩) [] (fun _ => rfl) (fun h => absurd rfl h.2) hh1, ⟨k2, ic2, I2, _, hf'.bound.wide fun i hi => Held.all_of hi hT.size⟩, hcp.1, hcp.2, fun q hq3 hq e => hq.2 (H.cww q k hq3 hk hq.1 ho e), fun i hi e => H.cwf k i hk ho hi e.symm⟩, ⟨_, _, _, _, _, _, _, _, _, _, hw'⟩, H.below hcp.1 hT⟩
    · exact ⟨.inr ⟨4, rfl, rfl, _, _, K, _, cw, cf, H.turnW (on' := fun q => on q ∧ q ≠ k) (N' := []) hk ho hT hs' (Nat.le_refl _) (fun _ h => h.1) (fun _ h1 h2 => ⟨h2, h1⟩) [] (fun _ => rfl) (fun h => absurd rfl h.2) (Pg.Has.drop l' hh1)⟩, ⟨_, _, _, _, _, _, _, _, _, _, hw'⟩, H.below hcp.1 hT⟩
  · refine (done_ended _ bs (bw k) l k' ic I rest n rc R many w h1).mono ?_
    rintro e w' ⟨rfl, rfl⟩
    exact ⟨.inr ⟨2, rfl, rfl, s, P, K, col, cw, cf, H.out hP⟩, ⟨_, _, _, _, _, _, _, _, _, _, h1⟩, Below.refl _ _⟩

set_option maxRecDepth 100000 in
theorem cancel_h {w : World} {B bs : Nat} {on : Nat → Prop} {bw : Nat → Nat} {bf : List Nat} {F : List (List Nat)} {A : Option Addr} {nf c j : Nat} {E : List (Nat × TypeId × List Value)} (h : HS w B bs on bw bf F A nf c j E) {k : Nat} (hk : k < 3) (ho : on k) :
    Calls Try.prog 14 #[.pointer (some ⟨bw k, 0, none⟩)] w fun e w' => e = .returned (.tuple #[]) ∧ HS w' B bs (fun q => on q ∧ q ≠ k) bw bf F A nf c j E ∧ Ended w' bs (bw k) ∧ Below B w w' := by
  obtain ⟨s, P, K, col, cw, cf, H⟩ := h
  obtain ⟨l, k', ic, I, rest, n, rc, R, many, ended, h1, h2, h3⟩ := H.wr k hk ho
  have hcp := H.cwp k hk ho
  have hh := H.has_at hk
  rcases h3 with ⟨rfl, hP, hn6⟩ | ⟨rfl, hP⟩
  · rw [hP] at hh
    have h40 := sto_len H.sto
    have hmx := hh.mine.max
    have hkl := h1.klen
    refine (cancel_c (fun i => Of w col (cw k) i ∨ w.heap.size ≤ i) B bs (bw k) s l k' ic I rest n rc R many w (h1.wide fun i hi => .inl hi) H.sto H.hB hh.mine.in_ (by omega)).mono ?_
    rintro e w' ⟨rfl, hs', hw', hT⟩
    exact ⟨rfl, ⟨_, _, K, _, cw, cf, H.turnW (on' := fun q => on q ∧ q ≠ k) (N' := []) hk ho hT hs' (Nat.le_refl _) (fun _ h => h.1) (fun _ h1 h2 => ⟨h2, h1⟩) [] (fun _ => rfl) (fun h => absurd rfl h.2) (Pg.Has.drop l hh)⟩, ⟨_, _, _, _, _, _, _, _, _, _, hw'⟩, H.below hcp.1 hT⟩
  · refine (cancel_ended _ bs (bw k) l k' ic I rest n rc R many w h1).mono ?_
    rintro e w' ⟨rfl, rfl⟩
    exact ⟨rfl, ⟨s, P, K, col, cw, cf, H.out hP⟩, ⟨_, _, _, _, _, _, _, _, _, _, h1⟩, Below.refl _ _⟩

set_option maxRecDepth 100000 in
theorem fdrop_h {w : World} {B bs : Nat} {on : Nat → Prop} {bw : Nat → Nat} {bf : List Nat} {F : List (List Nat)} {A : Option Addr} {nf c j : Nat} {E : List (Nat × TypeId × List Value)} (h : HS w B bs on bw bf F A nf c j E) {i x : Nat} (hx : bf[i]? = some x) :
    Calls Try.prog 15 #[.pointer (some ⟨x, 0, none⟩)] w fun e w' => e = .returned (.tuple #[]) ∧ HS w' B bs on bw bf (F.set i []) A nf c j E ∧ (∃ S, FiAt w' S bs x [] 0 0 none 0) ∧ Below B w w' := by
  obtain ⟨s, P, K, col, cw, cf, H⟩ := h
  have hi : i < nf := by have := (List.getElem?_eq_some_iff.1 hx).1; have := H.bl; omega
  have hFi : F[i]? = some (F[i]'(by rw [H.fl]; exact hi)) := List.getElem?_eq_getElem _
  generalize (F[i]'(by rw [H.fl]; exact hi)) = l at *
  obtain ⟨k, ic, I, many, h1⟩ := H.fi i x l hx hFi
  have hcp := H.cfp i hi
  have hperm := Pg.flat_at F i l hFi
  have hh : Pg.Has s (l ++ (Pg.tot P ++ (F.set i []).flatten)) := H.has.perm (by
    rw [List.nil_append]
    refine (List.Perm.append_left _ hperm).trans ?_
    rw [← List.append_assoc, ← List.append_assoc]
    exact List.perm_append_comm.append_right _)
  have h40 := sto_len H.sto
  have hmx := hh.mine.max
  have hkl := h1.klen
  refine (fdrop_c (fun q => Of w col (cf i) q ∨ w.heap.size ≤ q) B bs x s l k ic I many w (h1.wide fun q hq => .inl hq) H.sto H.hB (fun q hq => by have := hh.mine.in_ q hq; omega) (by omega)).mono ?_
  rintro e w' ⟨rfl, hs', hf', hT⟩
  refine ⟨rfl, ⟨_, P, K, _, cw, cf, H.turn hcp.1 hT hs' (Nat.le_refl _) (fun _ h => h) H.off (fun q hq3 hoq => .inl ⟨fun e => H.cwf q i hq3 hoq hi e, rfl⟩) (by rw [List.length_set]; exact H.fl) (fun q y z g1 g2 => ?_) (Pg.Has.drop l hh)⟩, ⟨_, hf'⟩, H.below hcp.1 hT⟩
  by_cases e : q = i
  · subst e
    rw [hx] at g1
    injection g1 with g1
    subst g1
    rw [List.getElem?_set_self (by rw [H.fl]; exact hi)] at g2
    injection g2 with g2
    subst g2
    exact .inr ⟨0, 0, none, 0, hf'.bound.wide fun i hi => Held.all_of hi hT.size⟩
  · rw [List.getElem?_set_ne (fun e2 => e e2.symm)] at g2
    exact .inl ⟨fun e2 => e (H.cff q i (by have := (List.getElem?_eq_some_iff.1 g1).1; have := H.bl; omega) hi e2), g2⟩

/-- The file is put into the list. -/
theorem push_h {w w' : World} {B bs : Nat} {on : Nat → Prop} {bw : Nat → Nat} {bf : List Nat} {F : List (List Nat)} {A A' : Option Addr} {nf c c' j x : Nat} {l : List Nat} {E : List (Nat × TypeId × List Value)} (h : HP w B bs on bw bf F A nf c j E x l) (ho : Own w' B 39 1 A' (nf + 1) c' (Ptrs (bf ++ [x]))) (hg : w.grownBy w' (Value.slice A nf c).ownBlock) (hat : (Value.slice A' (nf + 1) c').ownBlock = (Value.slice A nf c).ownBlock ∨ (Value.slice A' (nf + 1) c').ownBlock = some w.heap.size) : HS w' B bs on bw (bf ++ [x]) (F ++ [l]) A' (nf + 1) c' j E := by
  obtain ⟨s, P, K, col, cw, cf, d, H, hf, hd, hdK, hdw, hdf⟩ := h
  have hk := Own.apd_keeps H.fil hg
  have hz := hk.size
  have hbl := H.bl
  have hfl := H.fl
  refine ⟨s, P, K, paint w col 0, cw, Pg.upd cf nf d, H.sto.keeps hk (by decide), Nat.le_trans H.hB hz, fun i hi => ?_, fun k hk3 ho => ((H.wr k hk3 ho).keeps (by decide) hk).wide (fun i hi => hi.paint hz) (Nat.le_refl _), H.off, ho, ?_, by rw [List.length_append, H.fl]; rfl, fun i y z h1 h2 => ?_, H.has.perm ?_, H.cwp, fun i hi => ?_, H.cww, fun i i' hi hi' e => ?_, fun k i hk3 hok hi => ?_, fun y hy => ?_, H.kp⟩
  · by_cases hl : i < w.heap.size
    · rw [paint_old hl] at hi
      exact H.low i hi
    · rw [paint_new (by omega)] at hi
      exact absurd rfl hi
  · refine own_inS hat (own_zero H.fil) (fun b o e => ?_) (paint_new (Nat.le_refl _))
    show paint w col 0 b = 0
    rw [paint_old (H.flt e)]
    exact H.fz b o e
  · rw [List.getElem?_append] at h1 h2
    by_cases hi : i < nf
    · rw [if_pos (by omega)] at h1 h2
      rw [Pg.upd_other _ _ (by omega)]
      exact ((H.fi i y z h1 h2).keeps (by decide) hk).wide fun i hi => hi.paint hz
    · rw [if_neg (by omega)] at h1 h2
      have hin : i = nf := by
        have := (List.getElem?_eq_some_iff.1 h1).1
        simp at this
        omega
      subst hin
      rw [hbl, Nat.sub_self] at h1
      rw [hfl, Nat.sub_self] at h2
      injection h1 with h1
      injection h2 with h2
      subst h1; subst h2
      rw [Pg.upd_same]
      exact (hf.keeps (by decide) hk).wide fun i hi => hi.paint hz
  · simp only [List.flatten_append, List.flatten_cons, List.flatten_nil, List.append_nil, List.nil_append]
    rw [← List.append_assoc (Pg.tot P)]
    exact List.perm_append_comm
  · by_cases e : i = nf
    · rw [e, Pg.upd_same]; exact ⟨hd, hdK⟩
    · rw [Pg.upd_other _ _ e]; exact H.cfp i (by omega)
  · by_cases e1 : i = nf
    · by_cases e2 : i' = nf
      · rw [e1, e2]
      · rw [e1, Pg.upd_same, Pg.upd_other _ _ e2] at e
        exact absurd e.symm (hdf i' (by omega))
    · by_cases e2 : i' = nf
      · rw [e2, Pg.upd_same, Pg.upd_other _ _ e1] at e
        exact absurd e (hdf i (by omega))
      · rw [Pg.upd_other _ _ e1, Pg.upd_other _ _ e2] at e
        exact H.cff i i' (by omega) (by omega) e
  · by_cases e : i = nf
    · rw [e, Pg.upd_same]; exact hdw k hk3 hok
    · rw [Pg.upd_other _ _ e]; exact H.cwf k i hk3 hok (by omega)
  · obtain ⟨h1, h2, h3⟩ := H.ext y hy
    exact ⟨h1.keeps (fun hm => h3 (by rw [List.mem_singleton.1 hm]; exact List.mem_cons_self ..)) hk, by rw [paint_old h1.lt]; exact h2, h3⟩
theorem HP.below {w w' : World} {B bs : Nat} {on : Nat → Prop} {bw : Nat → Nat} {bf : List Nat} {F : List (List Nat)} {A : Option Addr} {nf c j x : Nat} {l : List Nat} {E : List (Nat × TypeId × List Value)} (h : HP w B bs on bw bf F A nf c j E x l) (hb : Below w.heap.size w w') : HP w' B bs on bw bf F A nf c j E x l := by
  obtain ⟨s, P, K, col, cw, cf, d, H, hf, h2⟩ := h
  exact ⟨s, P, K, _, cw, cf, d, H.next (E' := []) hb (by simp), (hf.below hb).wide fun i hi => hi.paint hb.size, h2⟩
theorem HP.fil {w : World} {B bs : Nat} {on : Nat → Prop} {bw : Nat → Nat} {bf : List Nat} {F : List (List Nat)} {A : Option Addr} {nf c j x : Nat} {l : List Nat} {E : List (Nat × TypeId × List Value)} (h : HP w B bs on bw bf F A nf c j E x l) : Own w B 39 1 A nf c (Ptrs bf) ∧ B ≤ w.heap.size := by
  obtain ⟨s, P, K, col, cw, cf, d, H, _⟩ := h
  exact ⟨H.fil, H.hB⟩
theorem HP.ext {w : World} {B bs : Nat} {on : Nat → Prop} {bw : Nat → Nat} {bf : List Nat} {F : List (List Nat)} {A : Option Addr} {nf c j x : Nat} {l : List Nat} {E : List (Nat × TypeId × List Value)} (h : HP w B bs on bw bf F A nf c j E x l) : ∀ x ∈ E, Blk w x.1 x.2.1 x.2.2 := by
  obtain ⟨s, P, K, col, cw, cf, d, H, _⟩ := h
  exact fun x hx => (H.ext x hx).1
theorem Ended.keeps {T : List TypeId} {B : Nat} {w w' : World} {bs bw : Nat} (h : Ended w bs bw) (hT : ∀ t ∈ [83, 3, 5], t ∉ T) (hk : Keeps T B w w') : Ended w' bs bw := by
  obtain ⟨S, l, k, ic, I, rest, n, rc, R, many, h⟩ := h
  exact ⟨S, l, k, ic, I, rest, n, rc, R, many, h.keeps hT hk⟩
theorem Ended.below {w w' : World} {bs bw : Nat} (h : Ended w bs bw) (hb : Below w.heap.size w w') : Ended w' bs bw := by
  obtain ⟨S, l, k, ic, I, rest, n, rc, R, many, h⟩ := h
  exact ⟨S, l, k, ic, I, rest, n, rc, R, many, h.below hb⟩
theorem Ended.add {w : World} {bs bw : Nat} (h : Ended w bs bw) (A : Option Addr) (n c : Nat) : Calls Try.prog 12 #[.pointer (some ⟨bw, 0, none⟩), .slice A n c] w fun e w' => e = .returned (.int .i64 2) ∧ w = w' := by
  obtain ⟨S, l, k, ic, I, rest, n', rc, R, many, h⟩ := h
  exact add_ended S bs bw l k ic I rest n' rc R many A n c w h
theorem Ended.done {w : World} {bs bw : Nat} (h : Ended w bs bw) : Calls Try.prog 13 #[.pointer (some ⟨bw, 0, none⟩)] w fun e w' => e = .returned (.tuple #[.pointer none, .int .i64 2]) ∧ w = w' := by
  obtain ⟨S, l, k, ic, I, rest, n', rc, R, many, h⟩ := h
  exact done_ended S bs bw l k ic I rest n' rc R many w h

/-- A new writer is put into the array. -/
theorem put_h {w w' : World} {B bs : Nat} {on on' : Nat → Prop} {bw : Nat → Nat} {bf : List Nat} {F : List (List Nat)} {A : Option Addr} {nf c j : Nat} {E : List (Nat × TypeId × List Value)} {b6 : Nat} {cs : List Value} (h : HS w B bs on bw bf F A nf c j ((b6, 29, cs) :: E)) {k : Nat} (hk : k < 3) (ho : ¬ on k) (hon : ∀ q, on' q ↔ on q ∨ q = k) (hE : ∀ x ∈ E, x.1 ≠ b6)
    (hb : Below w.heap.size w w') {nb : Nat} (hnb : w.heap.size ≤ nb) (hnew : Blk w' nb 83 [.pointer (some ⟨bs, 0, none⟩), .slice none 0 0, .slice none 0 0, .int .i64 0, .bool false]) :
    HS (w'.setCell ⟨b6, k, none⟩ (.pointer (some ⟨nb, 0, none⟩))) B bs on' (Pg.upd bw k nb) bf F A nf c j ((b6, 29, cs.set k (.pointer (some ⟨nb, 0, none⟩))) :: E) := by
  obtain ⟨s, P, K, col, cw, cf, H⟩ := h
  have H1 := H.next (E' := []) hb (by simp)
  have hz := hb.size
  obtain ⟨hb6, hc6, ht6⟩ := H1.ext (b6, 29, cs) (by simp)
  have hb60 := (H.ext (b6, 29, cs) (by simp)).1.lt
  have hkk : Keeps [29] 0 w' (w'.setCell ⟨b6, k, none⟩ (.pointer (some ⟨nb, 0, none⟩))) := (Keeps.refl _ _ _).setCell hb6 (by simp) (Nat.zero_le _) _
  have hnl := hnew.lt
  have hne : b6 ≠ nb := by omega
  have hsz : (w'.setCell ⟨b6, k, none⟩ (.pointer (some ⟨nb, 0, none⟩))).heap.size = w'.heap.size := by simp [World.setCell]
  have hmono : ∀ (q : Nat), q < K → 0 < q → ∀ i, Of w col q i → Of (w'.setCell ⟨b6, k, none⟩ (.pointer (some ⟨nb, 0, none⟩))) (Pg.upd (paint w col 0) nb K) q i := fun q hq h0 i hi => ⟨by rw [Pg.upd_other _ _ (by have := hi.2; omega), paint_old hi.2]; exact hi.1, by rw [hsz]; exact Nat.lt_of_lt_of_le hi.2 hz⟩
  have hold : ∀ (q : Nat), q ≠ k → on' q → on q := fun q hq h => ((hon q).1 h).resolve_right hq
  refine ⟨s, P, K + 1, Pg.upd (paint w col 0) nb K, Pg.upd cw k K, cf, H1.sto.keeps hkk (by decide), by rw [hsz]; exact H1.hB, fun i hi => ?_, fun q hq3 hoq => ?_, fun q hq3 hnq => H.off q hq3 fun h2 => hnq ((hon q).2 (.inl h2)), Own.keeps H1.fil (by decide) hkk, fun b o e => ?_, H.fl, fun i y z h1 h2 => ?_, H.has, fun q hq3 hoq => ?_, fun i hi => ?_, fun q q' hq hq' hoq hoq' e => ?_, H.cff, fun q i hq3 hoq hi => ?_, fun x hx => ?_, Nat.succ_pos _⟩
  · by_cases e : i = nb
    · have := H.hB; omega
    · rw [Pg.upd_other _ _ e] at hi
      exact H1.low i hi
  · by_cases e : q = k
    · subst e
      rw [Pg.upd_same, Pg.upd_same, H.off q hq3 ho]
      have hin : Of (w'.setCell ⟨b6, q, none⟩ (.pointer (some ⟨nb, 0, none⟩))) (Pg.upd (paint w col 0) nb K) K nb := ⟨Pg.upd_same _ _ _, by rw [hsz]; exact hnl⟩
      exact ⟨[], 0, 0, none, [], 0, 0, none, 0, false, ⟨hin, hnew.far (fun e2 => hne e2.symm) _, Own.nil _ _ _ _, InS.nil _, OwnX.nil _ _ _, InS.nil _⟩, Nat.zero_le _, .inl ⟨rfl, rfl, by omega⟩⟩
    · rw [Pg.upd_other _ _ e, Pg.upd_other _ _ e]
      have hoq' := hold q e hoq
      have hcp := H.cwp q hq3 hoq'
      exact (((H.wr q hq3 hoq').below hb).keeps (by decide) hkk).wide (hmono _ hcp.2 hcp.1) (Nat.le_refl _)
  · have hl := H.flt e
    show Pg.upd (paint w col 0) nb K b = 0
    rw [Pg.upd_other _ _ (by omega)]
    exact H1.fz b o e
  · have hi : i < nf := by have := (List.getElem?_eq_some_iff.1 h1).1; have := H.bl; omega
    have hcp := H.cfp i hi
    exact (((H.fi i y z h1 h2).below hb).keeps (by decide) hkk).wide (hmono _ hcp.2 hcp.1)
  · by_cases e : q = k
    · rw [e, Pg.upd_same]
      have := H.kp
      omega
    · rw [Pg.upd_other _ _ e]
      have := H.cwp q hq3 (hold q e hoq)
      omega
  · have := H.cfp i hi
    omega
  · by_cases e1 : q = k
    · by_cases e2 : q' = k
      · rw [e1, e2]
      · rw [e1, Pg.upd_same, Pg.upd_other _ _ e2] at e
        have := H.cwp q' hq' (hold q' e2 hoq')
        omega
    · by_cases e2 : q' = k
      · rw [e2, Pg.upd_same, Pg.upd_other _ _ e1] at e
        have := H.cwp q hq (hold q e1 hoq)
        omega
      · rw [Pg.upd_other _ _ e1, Pg.upd_other _ _ e2] at e
        exact H.cww q q' hq hq' (hold q e1 hoq) (hold q' e2 hoq') e
  · by_cases e : q = k
    · rw [e, Pg.upd_same]
      have := H.cfp i hi
      omega
    · rw [Pg.upd_other _ _ e]
      exact H.cwf q i hq3 (hold q e hoq) hi
  · rcases List.mem_cons.1 hx with rfl | hx
    · exact ⟨hb6.set_ k _, by rw [Pg.upd_other _ _ hne]; exact hc6, ht6⟩
    · obtain ⟨h1, h2, h3⟩ := H1.ext x (by simp [hx])
      have hlx := (H.ext x (List.mem_cons_of_mem _ hx)).1.lt
      exact ⟨h1.far (hE x hx) _, by rw [Pg.upd_other _ _ (by omega)]; exact h2, h3⟩

/-- In the beginning: no writer, no file. -/
theorem HS.start {w : World} {B bs n : Nat} (bw : Nat → Nat) (hs : Sto w B bs (List.replicate n none)) (hB : B ≤ w.heap.size) : HS w B bs (fun _ => False) bw [] [] none 0 0 0 [] :=
  ⟨_, fun _ => [], 1, fun _ => 0, fun _ => 0, fun _ => 0, hs, hB, fun i h => absurd rfl h, fun _ _ h => h.elim, fun _ _ _ => rfl, Own.nil _ _ _ _, InS.nil _, rfl, fun i x y h => by simp at h, Pg.Has.none_ n, fun _ _ h => h.elim, fun i h => by omega, fun _ _ _ _ h => h.elim, fun i i' h => by omega, fun _ _ _ h => h.elim, fun x h => by simp at h, by omega⟩
end Go.Proofs.Ytjjmnjgkodiibaa
