/- A map from values to slices: map[api.Value][]api.Row, of the call's own. -/
import Derived.Test.YtghaffafglfdlaaJoY
import Derived.Maps.Own
import Derived.Maps.OwnSet
import Derived.Maps.Views
import Derived.Maps.Keyed
import Derived.WideKeyEntry
import Derived.DeepKeys4
namespace Go.Proofs.Ytghaffafglfdlaa
open Go.RowKit Go.ChangeMaps Go.MapKept Go.WideShapes

theorem joLaid : laidOutB Try.prog = true := by kernel_rfl
theorem joRow : (30 : TypeId) < Try.prog.types.size := of_decide_eq_true (by kernel_rfl)
theorem joWide : (match Try.prog.underlying 30 with | some (.array _ _) | some (.struct _) => true | _ => false) = true := by rw [Try.underlying30]
set_option maxRecDepth 100000 in
theorem joLaw : WideMaps.KeyLaw Try.prog 30 := deep_law_laid joLaid (m := 3) (by omega) joRow (by kernel_rfl) joWide
theorem joKeyed : Maps.Keyed Try.prog 30 := Maps.Keyed.of_law joLaw

theorem u8_wf {z : Int} (h : 0 ≤ z ∧ z ≤ 255) : (Lit.int .u8 z).wf = true := by
  simp [Lit.wf, IntKind.min, IntKind.max, IntKind.signed, IntKind.bits]
  omega
theorem i64_wf {z : Int} (h : -9223372036854775808 ≤ z ∧ z ≤ 9223372036854775807) : (Lit.int .i64 z).wf = true := by
  simp [Lit.wf, IntKind.min, IntKind.max, IntKind.signed, IntKind.bits]
  omega
theorem joKeyType : Try.prog.keyType 30 = true := by kernel_rfl
theorem joSize : ∃ m, Try.prog.types.size + 1 = m + 2 := by
  obtain ⟨k, hk⟩ := Nat.exists_eq_add_of_lt joRow
  exact ⟨30 + k, by rw [hk]⟩
theorem va_key (v : Va) (h : v.ok) : ∃ l, keyOf Try.prog 30 v.agg = some l := by
  have hf : v.agg.formed Try.prog 30 = true := by unfold Va.agg; simp [Value.formed, Try.underlying30]; kernel_rfl
  have h1 := u8_wf h.k
  have h2 := i64_wf h.n
  have h3 : (St8 v.s).size ≤ maxLen := by rw [St8_size]; unfold maxLen; exact Nat.le_trans h.s (by omega)
  obtain ⟨m, hm⟩ := joSize
  have hL : ∃ L, Try.prog.keyLits (Try.prog.types.size + 1) 30 v.agg.cells.toList = some L := by
    rw [hm]
    unfold Va.agg
    have c0 : Try.prog.cellsOf 30 = 3 := by kernel_rfl
    have c1 : Try.prog.cellsOf 5 = 1 := by kernel_rfl
    have c2 : Try.prog.cellsOf 3 = 1 := by kernel_rfl
    have c3 : Try.prog.cellsOf 9 = 1 := by kernel_rfl
    simp [Program.keyLits, Try.underlying30, Try.underlying5, Try.underlying3, Try.underlying9, Value.cells, c0, c1, c2, c3, h1, h2, h3]
  obtain ⟨L, hL⟩ := hL
  unfold keyOf
  rw [Try.underlying30, joKeyType, hf, hL]
  exact ⟨_, rfl⟩

theorem va_agg_inj {u v : Va} (h : u.agg = v.agg) : u = v := by
  unfold Va.agg at h
  injection h with h
  simp at h
  obtain ⟨h1, h2, h3⟩ := h
  exact Va.ext' h1 h2 (St8_inj h3)
/-- What a value reads as, as a key. -/
theorem someLit : Nonempty Lit := ⟨.bool false⟩
noncomputable def klit (v : Va) : Lit := @Classical.epsilon Lit someLit fun l => keyOf Try.prog 30 v.agg = some l
theorem klit_key {v : Va} (h : v.ok) : keyOf Try.prog 30 v.agg = some (klit v) := Classical.epsilon_spec (va_key v h)
theorem klit_is {v : Va} (h : v.ok) : WideAt.IsKeyLit (klit v) := by
  have hk := klit_key h
  generalize klit v = l at *
  exact joKeyed.key hk
theorem klit_inj {u v : Va} (hu : u.ok) (hv : v.ok) (h : klit u = klit v) : u = v := by
  have h1 := klit_key hu
  rw [h] at h1
  exact va_agg_inj (joKeyed.inj h1 (klit_key hv))

/-- An element of the map is held as it is. -/
def heldV (v : Value) : Option (DataW Value × List MemPlace) := some (.held v, [])
/-- The map at block b: of each value what it holds. -/
def MapAt (w : World) (b n : Nat) (F : Va → Value) : Prop :=
  ∃ D : DataW Value, w.ownsMap Try.prog 30 heldV b n D ∧ ∀ v : Va, v.ok → D.atKey (klit v) (.held (.slice none 0 0)) = .held (F v)
def upd (F : Va → Value) (v : Va) (x : Value) : Va → Value := fun u => if u = v then x else F u

/-- Nothing of w has turned but for maps from block B on. -/
structure Cel (B : Nat) (w w' : World) : Prop where
  below : Below B w w'
  cells : ∀ (k : Nat) (c : Array Value) (t : TypeId) (f : Nat × Nat), w.heap[k]? = some (.cells c t f) → w'.heap[k]? = w.heap[k]?
  size : w'.heap.size = w.heap.size
namespace Cel
variable {w w' w'' : World} {B : Nat}
theorem blk {g : Nat} {t : TypeId} {xs : List Value} (h : Cel B w w') (hb : Blk w g t xs) : Blk w' g t xs := hb.of_heap (h.cells _ _ _ _ hb)
theorem own {base : Nat} {e : TypeId} {size : Nat} {A : Option Addr} {n c : Nat} {xs : List Value} (h : Cel B w w') (ho : Own w base e size A n c xs) : Own w' base e size A n c xs := by
  refine ⟨ho.1, ?_⟩
  rcases ho.2 with hn | ⟨g, cap, cur, hv, hg, hh, rest⟩
  · exact .inl hn
  · refine .inr ⟨g, cap, cur, hv, hg, ?_, rest⟩
    rw [h.cells _ _ _ _ hh]
    exact hh
theorem cell {p : Addr} {v : Value} (h : Cel B w w') (hc : w.cell? p = some v) : w'.cell? p = some v := by
  cases eb : w.heap[p.block]? with
  | none => simp [World.cell?, eb] at hc
  | some ob =>
    cases ob with
    | cells c t f =>
      have := h.cells p.block c t f eb
      rw [← hc]
      unfold World.cell?
      rw [this]
    | _ => simp [World.cell?, eb] at hc
end Cel

theorem pw_uniq : ∀ {l : List MapEntry}, l.Pairwise (fun x y => x.key ≠ y.key) → ∀ {a b : MapEntry}, a ∈ l → b ∈ l → a.key = b.key → a = b
  | [], _, a, b, h, _, _ => by cases h
  | x :: l, hp, a, b, ha, hb, e => by
    have h1 := List.pairwise_cons.1 hp
    rcases List.mem_cons.1 ha with ea | ha'
    · rcases List.mem_cons.1 hb with eb | hb'
      · rw [ea, eb]
      · exact absurd (ea ▸ e) (h1.1 b hb')
    · rcases List.mem_cons.1 hb with eb | hb'
      · exact absurd (eb ▸ e).symm (h1.1 a ha')
      · exact pw_uniq h1.2 ha' hb' e
namespace MapAt
variable {w w' : World} {b n : Nat} {F : Va → Value}
theorem made (w : World) : MapAt (w.alloc (.map #[] 0)) w.heap.size 0 fun _ => .slice none 0 0 :=
  ⟨.map [], World.ownsMap_made w _ _ _, fun v _ => rfl⟩
theorem lt (h : MapAt w b n F) : b < w.heap.size := by
  obtain ⟨D, ho, _⟩ := h
  exact ho.lt
theorem same (h : MapAt w b n F) (e : w'.heap[b]? = w.heap[b]?) : MapAt w' b n F := by
  obtain ⟨D, ⟨es, cl, hb, h1⟩, hC⟩ := h
  exact ⟨D, ⟨es, cl, by rw [e]; exact hb, h1⟩, hC⟩
theorem below (h : MapAt w b n F) (hb : Below w.heap.size w w') : MapAt w' b n F := h.same (hb.block b h.lt)
theorem keeps {T : List TypeId} {B : Nat} (h : MapAt w b n F) (hk : Keeps T B w w') : MapAt w' b n F := by
  obtain ⟨D, ⟨es, cl, hb, h1⟩, hC⟩ := h
  refine ⟨D, ⟨es, cl, ?_, h1⟩, hC⟩
  rw [hk.block b (Array.getElem?_eq_some_iff.1 hb).1 (.inr fun c t f e => by rw [hb] at e; cases e)]
  exact hb
theorem look (h : MapAt w b n F) {v : Va} (hv : v.ok) : (Instr.lookup 83 (.map (some b)) v.agg false).run Try.prog w = .ok (F v) w := by
  obtain ⟨D, ho, hC⟩ := h
  obtain ⟨x, ps, hrun, hx⟩ := ho.lookup joKeyed (t := 83) (e := 22) (by kernel_rfl) (z := .slice none 0 0) (by kernel_rfl) (zd := .held (.slice none 0 0)) (zp := []) rfl (klit_key hv)
  rw [hC v hv] at hx
  rw [hrun]
  unfold heldV at hx
  simp at hx
  rw [hx.1]
/-- m[v] = f(m[v]): the entry is read, and stored anew in whatever world still has it. -/
theorem entry (h : MapAt w b n F) {B : Nat} (hB : B ≤ b) (hn : n < maxLen) {v : Va} (hv : v.ok) :
    ∃ (w1 : World) (st : Nat), (Instr.mapEntry 83 (.map (some b)) v.agg).run Try.prog w = .ok (.tuple #[F v, .int .i64 (st : Int)]) w1 ∧ Cel B w w1 ∧ (∃ es cl, w1.heap[b]? = some (.map es cl)) ∧
      ∀ (w2 : World) (val : Value), w2.heap[b]? = w1.heap[b]? → ∃ w3, (Instr.entryStore 83 (.map (some b)) (.int .i64 (st : Int)) val).run Try.prog w2 = .ok () w3 ∧ MapAt w3 b (n + 1) (upd F v val) ∧ Cel B w2 w3 := by
  have hl := h.look hv
  obtain ⟨D, ⟨es, cl, hb, hF, hs, hD⟩, hC⟩ := h
  have hm : Try.prog.underlying 83 = some (.map 30 22) := by kernel_rfl
  obtain ⟨v0, st, es1, cl1, hrun, hv0, hst⟩ := WideElems.entry_then_store joLaw hm (z := .slice none 0 0) (fun u => by kernel_rfl) hb hF (klit_key hv)
  have hlook := Maps.fit_look false joKeyed hm (z := .slice none 0 0) (by kernel_rfl) hb hF (klit_key hv)
  have huniq : es.toList.Pairwise (fun x y => x.key ≠ y.key) := ((stamped_iff es cl).1 hF.stamped).2.2
  have hFv : v0 = F v := by
    rcases hlook with ⟨h1, h2, _⟩ | ⟨e1, y, h1, h2, h3, _⟩
    · rw [hl] at h1
      rcases hv0 with ⟨e0, h4, h5, _⟩ | ⟨_, rfl⟩
      · exact absurd h5 (h2 e0 h4)
      · exact (Result.ok.inj h1).1.symm
    · rw [hl] at h3
      rcases hv0 with ⟨e0, h4, h5, rfl⟩ | ⟨h4, _⟩
      · refine Eq.trans ?_ (Result.ok.inj h3).1.symm
        exact congrArg MapEntry.val (pw_uniq huniq h4 h1 (h5.trans h2.symm))
      · exact absurd h2 (h4 e1 h1)
  rw [hFv] at hrun
  refine ⟨_, st, hrun, ?_, ?_, ?_⟩
  · refine ⟨⟨rfl, rfl, rfl, by simp [setBlock], fun k hk => heap_setBlock_other hb _ (by omega)⟩, fun k c t f e => heap_setBlock_other hb _ ?_, by simp [setBlock]⟩
    rintro rfl
    rw [hb] at e
    cases e
  · exact ⟨_, _, heap_setBlock_same hb _⟩
  · intro w2 val h2
    rw [heap_setBlock_same hb] at h2
    obtain ⟨es', cl', hs2, hu⟩ := hst w2 val h2
    obtain ⟨w', hu', ho', _⟩ := World.ownsMap.store (R := heldV) ⟨es, cl, hb, hF, hs, hD⟩ joKeyed hm hn (klit_key hv) (val := val) (d := .held val) (ps := []) rfl
    rw [hu] at hu'
    obtain rfl := (Result.ok.inj hu').2
    refine ⟨_, hs2, ⟨D.put (klit v) (.held val), ?_, fun u hu => ?_⟩, ?_⟩
    · obtain ⟨es3, cl3, hb3, h3⟩ := ho'
      rw [heap_setBlock_same hb] at hb3
      exact ⟨es3, cl3, by rw [heap_setBlock_same h2]; exact hb3, h3⟩
    · have hD' : Maps.IsMap D := World.ownsMap.isMap (R := heldV) ⟨es, cl, hb, hF, hs, hD⟩
      by_cases e : u = v
      · rw [e]
        have hki := klit_is hv
        have hu2 : upd F v val v = val := if_pos rfl
        rw [hu2]
        generalize klit v = l at *
        exact Maps.atKey_put_same hD' hki _ _
      · have hne : klit u ≠ klit v := fun e2 => e (klit_inj hu hv e2)
        rw [Maps.atKey_put_other hne, hC u hu]
        show _ = DataW.held (if u = v then val else F u)
        rw [if_neg e]
    · refine ⟨⟨rfl, rfl, rfl, by simp [setBlock], fun k hk => heap_setBlock_other h2 _ (by omega)⟩, fun k c t f e => heap_setBlock_other h2 _ ?_, by simp [setBlock]⟩
      rintro rfl
      rw [h2] at e
      cases e
end MapAt
end Go.Proofs.Ytghaffafglfdlaa
