/- Arguments that came in, as lists: slices of bytes and of numbers. Arguments that came in: what it says of a value that it can be read as data, type by type. A slice that came in, of elements of k cells each, as a list. -/
import Derived.Test.YtipnglidepfkbaaDoorMGrA
import Derived.ProofKit
import Derived.OpenShut
import Derived.ShutString
import Derived.ChangeOld
import Derived.Deep.Fields
namespace Go.Proofs.YtipnglidepfkbaaDoor
set_option linter.unusedVariables false
set_option linter.unusedSimpArgs false
open Go.RowKit

/-- A slice of integers that came in: nil, or a row of cap cells, of which the first len are its elements. -/
def IsRow (k : IntKind) (w : World) (a : Option Addr) (len cap : Nat) (zs : List Int) : Prop :=
  (a = none ∧ len = 0 ∧ cap = 0 ∧ zs = []) ∨
  ∃ x, a = some x ∧ len ≤ cap ∧ cap ≤ maxLen ∧ zs.length = cap ∧ (∀ i, i < zs.length → w.cell? (x.add i) = some (.int k (zs.getD i 0))) ∧ ∀ n ∈ zs, (Lit.int k n).wf = true

theorem rd_of_cells {w : World} {x : Addr} {xs : List Value} (h : ∀ i u, xs[i]? = some u → w.cell? (x.add i) = some u) : Rd w (some x) xs := fun hn => by
  obtain ⟨u, us, rfl⟩ := List.exists_cons_of_ne_nil hn
  have h0 := h 0 u rfl
  have hx : x.add 0 = x := by simp [Addr.add]
  rw [hx] at h0
  obtain ⟨b, o, sp⟩ := x
  have hsp : sp = none := by
    cases sp with
    | none => rfl
    | some q =>
      unfold World.cell? at h0
      split at h0
      · simp at h0
      · cases h0
  subst hsp
  exact ⟨b, o, rfl, fun j v hv => by rw [← Addr.add_mid]; exact h j v hv⟩

theorem IsRow.ints {k : IntKind} {w : World} {a : Option Addr} {len cap : Nat} {zs : List Int} (h : IsRow k w a len cap zs) :
    ∃ l : List Int, l.length = len ∧ Rd w a (l.map (Value.int k)) ∧ len ≤ cap ∧ cap ≤ maxLen ∧ ∀ n ∈ l, (Lit.int k n).wf = true := by
  rcases h with ⟨rfl, rfl, rfl, rfl⟩ | ⟨x, rfl, hl, hm, hz, hc, hw⟩
  · exact ⟨[], rfl, Rd.nil _ _, Nat.le_refl _, Nat.zero_le _, by simp⟩
  · refine ⟨zs.take len, by rw [List.length_take]; omega, rd_of_cells fun i u hu => ?_, hl, hm, fun n hn => hw n (List.mem_of_mem_take hn)⟩
    rw [List.getElem?_map] at hu
    obtain ⟨z, hz', rfl⟩ := Option.map_eq_some_iff.1 hu
    rw [List.getElem?_take] at hz'
    split at hz'
    · have hi := (List.getElem?_eq_some_iff.1 hz').1
      rw [hc i hi, List.getD, hz']
      rfl
    · cases hz'

/-- Numbers that are bytes. -/
theorem bytes_of (zs : List Int) (h : ∀ n ∈ zs, (Lit.int .u8 n).wf = true) : ∃ l : List UInt8, zs = l.map fun c => (c.toNat : Int) := by
  induction zs with
  | nil => exact ⟨[], rfl⟩
  | cons z zs ih =>
    obtain ⟨l, rfl⟩ := ih (fun n hn => h n (List.mem_cons_of_mem _ hn))
    have hz := h z List.mem_cons_self
    have hb : 0 ≤ z ∧ z ≤ 255 := by
      simp [Lit.wf, IntKind.min, IntKind.max, IntKind.signed, IntKind.bits] at hz
      omega
    refine ⟨UInt8.ofNat z.toNat :: l, ?_⟩
    rw [List.map_cons]
    congr 1
    rw [UInt8.toNat_ofNat']
    omega
theorem IsRow.bytes {w : World} {a : Option Addr} {len cap : Nat} {zs : List Int} (h : IsRow .u8 w a len cap zs) :
    ∃ l : List UInt8, l.length = len ∧ Rd w a (Bs l) ∧ len ≤ cap ∧ cap ≤ maxLen := by
  obtain ⟨l, hl, hr, hc, hm, hw⟩ := h.ints
  obtain ⟨b, rfl⟩ := bytes_of l hw
  refine ⟨b, by simpa using hl, ?_, hc, hm⟩
  rw [List.map_map] at hr
  exact hr
end Go.Proofs.YtipnglidepfkbaaDoor
namespace Go.Proofs.YtipnglidepfkbaaDoor
set_option linter.unusedVariables false
set_option linter.unusedSimpArgs false
open Go.RowKit Go.WideShapes

/-- The cells cs can be read as data of type t. -/
def Reads (P : Program) (w : World) (t : TypeId) (cs : List Value) : Prop :=
  ∃ (H : Type) (enc : TypeId × Value → H) (fuel : Nat) (x : DataW H × List MemPlace), DataW.trod enc P w 0 (fun _ => true) true fuel t cs = some x

/-- A value that came in. -/
def Arg (P : Program) (w : World) (t : TypeId) (v : Value) : Prop := (∃ b, Value.okWide P w .any b t v) ∧ Reads P w t v.cells.toList

theorem Arg.mk' {P : Program} {w : World} {t : TypeId} {v : Value} {b : Nat} (h : Value.okWide P w .any b t v) {H : Type} {enc : TypeId × Value → H} {d : DataW H} {p : List MemPlace} (k : DataW.Trod enc P w 0 (fun _ => true) true t v d p) : Arg P w t v := by
  obtain ⟨fuel, k⟩ := k
  exact ⟨⟨b, h⟩, H, enc, fuel, _, k⟩

section
variable {P : Program} {w : World} {t e : TypeId} {cs : List Value} {v : Value}

theorem Reads.int {k : IntKind} (ht : P.underlying t = some (.int k)) (h : Reads P w t cs) : ∃ n, cs = [.int k n] ∧ (Lit.int k n).wf = true := by
  obtain ⟨H, enc, fuel, x, h⟩ := h
  obtain ⟨n, h1, _, h2⟩ := DataW.trod_int ht h
  exact ⟨n, h1, h2⟩
theorem Reads.bool (ht : P.underlying t = some .bool) (h : Reads P w t cs) : ∃ b, cs = [.bool b] := by
  obtain ⟨H, enc, fuel, x, h⟩ := h
  obtain ⟨n, h1, _⟩ := DataW.trod_bool ht h
  exact ⟨n, h1⟩
theorem Reads.struct {fs : Array Field} (ht : P.underlying t = some (.struct fs)) (h : Reads P w t cs) :
    cs.length = P.cellsOf t ∧ ∀ (i : Nat) (f : Field), fs[i]? = some f → Reads P w f.type ((cs.drop f.offset).take (P.cellsOf f.type)) := by
  obtain ⟨H, enc, fuel, x, h⟩ := h
  obtain ⟨xs, n, _, _, h1, h2, h3⟩ := DataW.trod_struct ht h
  refine ⟨h1, fun i f hf => ⟨H, enc, n, xs[i]'(by rw [h2]; exact (Array.getElem?_eq_some_iff.1 hf).1), ?_⟩⟩
  rw [h3 i f hf, List.getElem?_eq_getElem]
/-- A struct each of whose fields is one cell. -/
theorem Reads.cells {fs : Array Field} (ht : P.underlying t = some (.struct fs)) (ho : Deep.oneCellFields P fs = true) (hc : P.cellsOf t = fs.size) (h : Reads P w t cs) :
    cs.length = fs.size ∧ ∀ (i : Nat) (f : Field), fs[i]? = some f → ∃ c, cs[i]? = some c ∧ Reads P w f.type [c] := by
  obtain ⟨h1, h2⟩ := h.struct ht
  refine ⟨h1.trans hc, fun i f hf => ?_⟩
  obtain ⟨e1, e2⟩ := Deep.hone_of ho i f hf
  have hi := (Array.getElem?_eq_some_iff.1 hf).1
  have := h2 i f hf
  rw [e1, e2, List.drop_eq_getElem_cons (by omega)] at this
  exact ⟨_, List.getElem?_eq_getElem (by omega), this⟩
/-- A slice: its elements, each of cellsOf e cells. -/
theorem Reads.slice (ht : P.underlying t = some (.slice e)) (h : Reads P w t cs) :
    ∃ (A : Option Addr) (len cap : Nat), cs = [.slice A len cap] ∧ len ≤ cap ∧ cap ≤ maxLen ∧ (A = none → len = 0 ∧ cap = 0) ∧
      ∀ i, i < len → ∃ a cs', A = some a ∧ cs'.length = P.cellsOf e ∧ (∀ j, j < P.cellsOf e → w.cell? ((a.add (i * P.cellsOf e)).add j) = cs'[j]?) ∧ Reads P w e cs' := by
  obtain ⟨H, enc, fuel, x, h⟩ := h
  rcases DataW.trod_slice ht h with ⟨rfl, _⟩ | ⟨a, len, cap, elems, rest, n, _, rfl, _, _, hl, hm, hlen, hel, _⟩
  · exact ⟨none, 0, 0, rfl, Nat.le_refl _, Nat.zero_le _, fun _ => ⟨rfl, rfl⟩, fun i hi => absurd hi (by omega)⟩
  · refine ⟨some a, len, cap, rfl, hl, hm, (fun h => by cases h), fun i hi => ?_⟩
    have h1 := hel i hi
    rw [List.getElem?_eq_getElem (by omega)] at h1
    obtain ⟨cs', hc, hr⟩ := Option.bind_eq_some_iff.1 h1
    obtain ⟨_, hc1, hc2⟩ := World.cells?_some hc
    exact ⟨a, cs', rfl, hc1, hc2, H, enc, n, _, hr⟩

theorem Arg.int {k : IntKind} (ht : P.underlying t = some (.int k)) (h : Arg P w t v) : ∃ n, v = .int k n ∧ (Lit.int k n).wf = true := by
  obtain ⟨⟨b, hb⟩, hr⟩ := h
  obtain ⟨n, rfl⟩ := okWide_int ht hb
  obtain ⟨m, h1, h2⟩ := hr.int ht
  simp [Value.cells] at h1
  subst h1
  exact ⟨n, rfl, h2⟩
theorem Arg.bool (ht : P.underlying t = some .bool) (h : Arg P w t v) : ∃ b, v = .bool b := by
  obtain ⟨⟨b, hb⟩, _⟩ := h
  exact okWide_bool ht hb
theorem Arg.slice (ht : P.underlying t = some (.slice e)) (h : Arg P w t v) : ∃ (A : Option Addr) (len cap : Nat), v = .slice A len cap ∧ Reads P w t [.slice A len cap] := by
  obtain ⟨⟨b, hb⟩, hr⟩ := h
  obtain ⟨A, len, cap, rfl⟩ := okWide_slice ht hb
  exact ⟨A, len, cap, rfl, hr⟩
theorem Arg.struct {fs : Array Field} (ht : P.underlying t = some (.struct fs)) (h : Arg P w t v) : ∃ cs : List Value, v = .agg cs.toArray ∧ Reads P w t cs := by
  obtain ⟨⟨b, hb⟩, hr⟩ := h
  obtain ⟨cs, rfl, _⟩ := okWide_struct ht hb
  exact ⟨cs.toList, by simp, hr⟩
end

/-- A slice of integers. -/
theorem Reads.ints {P : Program} {w : World} {t e : TypeId} {k : IntKind} {cs : List Value} (ht : P.underlying t = some (.slice e)) (he : P.underlying e = some (.int k)) (hc : P.cellsOf e = 1) (h : Reads P w t cs) :
    ∃ (A : Option Addr) (len cap : Nat) (l : List Int), cs = [.slice A len cap] ∧ l.length = len ∧ Rd w A (l.map (Value.int k)) ∧ len ≤ cap ∧ cap ≤ maxLen ∧ ∀ n ∈ l, (Lit.int k n).wf = true := by
  obtain ⟨A, len, cap, hcs, hl, hm, hA, hel⟩ := h.slice ht
  have hz : ∀ i, i < len → ∃ z : Int, (Lit.int k z).wf = true ∧ ∃ a, A = some a ∧ w.cell? (a.add i) = some (.int k z) := by
    intro i hi
    obtain ⟨a, cs', ha, hl', hcell, hr⟩ := hel i hi
    obtain ⟨z, rfl, hw⟩ := hr.int he
    refine ⟨z, hw, a, ha, ?_⟩
    have h0 := hcell 0 (by omega)
    rw [hc, Nat.mul_one] at h0
    have e0 : (a.add i).add 0 = a.add i := by simp [Addr.add]
    rw [e0] at h0
    exact h0
  have key : ∀ m, m ≤ len → ∃ l : List Int, l.length = m ∧ (∀ n ∈ l, (Lit.int k n).wf = true) ∧ ∀ i z, l[i]? = some z → ∃ a, A = some a ∧ w.cell? (a.add i) = some (.int k z) := by
    intro m
    induction m with
    | zero => intro _; exact ⟨[], rfl, by simp, by simp⟩
    | succ m ih =>
      intro hm'
      obtain ⟨l, h1, h2, h3⟩ := ih (by omega)
      obtain ⟨z, hw, ha⟩ := hz m (by omega)
      refine ⟨l ++ [z], by simp [h1], fun n hn => ?_, fun i y hy => ?_⟩
      · rcases List.mem_append.1 hn with hn | hn
        · exact h2 n hn
        · rw [List.mem_singleton.1 hn]; exact hw
      · rw [List.getElem?_append] at hy
        split at hy
        · exact h3 i y hy
        · have hi : i = m := by
            have := (List.getElem?_eq_some_iff.1 hy).1
            simp at this
            omega
          subst hi
          simp [h1] at hy
          subst hy
          exact ha
  obtain ⟨l, h1, h2, h3⟩ := key len (Nat.le_refl _)
  refine ⟨A, len, cap, l, hcs, h1, ?_, hl, hm, h2⟩
  cases A with
  | none =>
    obtain ⟨h0, _⟩ := hA rfl
    have : l = [] := List.eq_nil_of_length_eq_zero (by omega)
    subst this
    exact Rd.nil _ _
  | some a =>
    refine rd_of_cells fun i u hu => ?_
    rw [List.getElem?_map] at hu
    obtain ⟨z, hz', rfl⟩ := Option.map_eq_some_iff.1 hu
    obtain ⟨a', e, hc'⟩ := h3 i z hz'
    injection e with e
    subst e
    exact hc'

theorem Reads.bytes {P : Program} {w : World} {t e : TypeId} {cs : List Value} (ht : P.underlying t = some (.slice e)) (he : P.underlying e = some (.int .u8)) (hc : P.cellsOf e = 1) (h : Reads P w t cs) :
    ∃ (A : Option Addr) (len cap : Nat) (l : List UInt8), cs = [.slice A len cap] ∧ l.length = len ∧ Rd w A (Bs l) ∧ len ≤ cap ∧ cap ≤ maxLen := by
  obtain ⟨A, len, cap, l, h1, h2, h3, h4, h5, h6⟩ := h.ints ht he hc
  obtain ⟨b, rfl⟩ := bytes_of l h6
  refine ⟨A, len, cap, b, h1, by simpa using h2, ?_, h4, h5⟩
  rw [List.map_map] at h3
  exact h3
/-- The nil slice has no room. -/
theorem Reads.nil0 {P : Program} {w : World} {t e : TypeId} {len cap : Nat} (ht : P.underlying t = some (.slice e)) (h : Reads P w t [.slice none len cap]) : len = 0 ∧ cap = 0 := by
  obtain ⟨A, l, c, hcs, _, _, hA, _⟩ := h.slice ht
  cases hcs
  exact hA rfl
theorem wf_i64_bounds {n : Int} (h : (Lit.int .i64 n).wf = true) : -9223372036854775808 ≤ n ∧ n ≤ 9223372036854775807 := by
  simp [Lit.wf, IntKind.min, IntKind.max, IntKind.signed, IntKind.bits] at h
  omega
theorem wf_u8_bounds {n : Int} (h : (Lit.int .u8 n).wf = true) : 0 ≤ n ∧ n ≤ 255 := by
  simp [Lit.wf, IntKind.min, IntKind.max, IntKind.signed, IntKind.bits] at h
  omega
theorem wf_u16_bounds {n : Int} (h : (Lit.int .u16 n).wf = true) : 0 ≤ n ∧ n ≤ 65535 := by
  simp [Lit.wf, IntKind.min, IntKind.max, IntKind.signed, IntKind.bits] at h
  omega
theorem wf_u32_bounds {n : Int} (h : (Lit.int .u32 n).wf = true) : 0 ≤ n ∧ n ≤ 4294967295 := by
  simp [Lit.wf, IntKind.min, IntKind.max, IntKind.signed, IntKind.bits] at h
  omega
end Go.Proofs.YtipnglidepfkbaaDoor
namespace Go.Proofs.YtipnglidepfkbaaDoor
set_option linter.unusedVariables false
set_option linter.unusedSimpArgs false
open Go.RowKit Go.WideShapes

theorem addr_add_add' (a : Addr) (i j : Nat) : (a.add i).add j = a.add (i + j) := by
  by_cases hi : i = 0
  · subst hi; simp [Addr.add]
  · by_cases hj : j = 0
    · subst hj; simp [Addr.add]
    · simp [Addr.add, hi, hj, Nat.add_assoc]
theorem flat_len {α : Type} (enc : α → List Value) (k : Nat) (henc : ∀ x, (enc x).length = k) : ∀ l : List α, (l.flatMap enc).length = l.length * k
  | [] => by simp
  | x :: l => by
    rw [List.flatMap_cons, List.length_append, flat_len enc k henc l, henc, List.length_cons, Nat.succ_mul, Nat.add_comm]
theorem flat_get {α : Type} (enc : α → List Value) (k : Nat) (henc : ∀ x, (enc x).length = k) : ∀ (l : List α) (j : Nat) (x : α) (t : Nat), l[j]? = some x → t < k → (l.flatMap enc)[j * k + t]? = (enc x)[t]?
  | [], j, x, t, h, _ => by simp at h
  | y :: l, 0, x, t, h, ht => by
    obtain rfl : y = x := by simpa using h
    rw [List.flatMap_cons, Nat.zero_mul, Nat.zero_add, List.getElem?_append_left (by rw [henc]; exact ht)]
  | y :: l, j + 1, x, t, h, ht => by
    have h1 := flat_get enc k henc l j x t (by simpa using h) ht
    have h2 : (j + 1) * k + t = k + (j * k + t) := by rw [Nat.succ_mul]; omega
    rw [List.flatMap_cons, h2, List.getElem?_append_right (by rw [henc]; omega), henc, Nat.add_sub_cancel_left]
    exact h1
/-- A field of a struct that came in: k cells from off on. -/
theorem Reads.field {P : Program} {w : World} {t : TypeId} {cs : List Value} {fs : Array Field} (ht : P.underlying t = some (.struct fs)) (h : Reads P w t cs) (i : Nat) {f : Field} (hf : fs[i]? = some f) {u : TypeId} {off k : Nat} (hu : f.type = u) (ho : f.offset = off) (hk : P.cellsOf u = k) : Reads P w u ((cs.drop off).take k) := by
  have := (h.struct ht).2 i f hf
  rw [hu, ho, hk] at this
  exact this
/-- Elements read one by one. -/
theorem Reads.list {P : Program} {w : World} {t e : TypeId} {α : Type} (enc : α → List Value) (ok : α → Prop) (k : Nat) (hk : 0 < k) (henc : ∀ x, (enc x).length = k)
    (ht : P.underlying t = some (.slice e)) (hce : P.cellsOf e = k) (hone : ∀ cs, Reads P w e cs → ∃ x, cs = enc x ∧ ok x) {X : Option Addr} {n c : Nat} (h : Reads P w t [.slice X n c]) :
    ∃ l : List α, l.length = n ∧ Rd w X (l.flatMap enc) ∧ (∀ x ∈ l, ok x) ∧ n ≤ c ∧ c ≤ maxLen := by
  obtain ⟨X', n', c', hcs, hnc, hcm, hX, hel⟩ := h.slice ht
  cases hcs
  rw [hce] at hel
  have key : ∀ m, m ≤ n → ∃ r : List α, r.length = m ∧ (∀ v ∈ r, ok v) ∧ ∀ i v, r[i]? = some v → ∃ ad, X = some ad ∧ ∀ t, t < k → w.cell? (ad.add (i * k + t)) = (enc v)[t]? := by
    intro m
    induction m with
    | zero => intro _; exact ⟨[], rfl, by simp, by simp⟩
    | succ m ih =>
      intro hm
      obtain ⟨r, h1, h2, h4⟩ := ih (by omega)
      obtain ⟨ad, cs, hx, _, hc, hr⟩ := hel m (by omega)
      obtain ⟨v, rfl, hv⟩ := hone cs hr
      refine ⟨r ++ [v], by simp [h1], fun y hy => ?_, fun i y hy => ?_⟩
      · rcases List.mem_append.1 hy with hy | hy
        · exact h2 y hy
        · rw [List.mem_singleton.1 hy]; exact hv
      · rw [List.getElem?_append] at hy
        split at hy
        · exact h4 i y hy
        · have hi : i = m := by
            have := (List.getElem?_eq_some_iff.1 hy).1
            simp at this
            omega
          subst hi
          simp [h1] at hy
          subst hy
          refine ⟨ad, hx, fun t ht => ?_⟩
          have := hc t ht
          rwa [addr_add_add'] at this
  obtain ⟨r, h1, h2, h4⟩ := key n (Nat.le_refl _)
  refine ⟨r, h1, ?_, h2, hnc, hcm⟩
  cases X with
  | none =>
    have : r = [] := List.eq_nil_of_length_eq_zero (by have := (hX rfl).1; omega)
    subst this
    exact Rd.nil _ _
  | some ad =>
    refine rd_of_cells fun i u hu => ?_
    have hdm := Nat.div_add_mod i k
    have hmul : k * (i / k) = i / k * k := Nat.mul_comm _ _
    have hlt : i / k < r.length := by
      have h0 := (List.getElem?_eq_some_iff.1 hu).1
      rw [flat_len enc k henc] at h0
      exact (Nat.div_lt_iff_lt_mul hk).2 h0
    have hml := Nat.mod_lt i hk
    obtain ⟨ad', e, hc⟩ := h4 (i / k) _ (List.getElem?_eq_getElem hlt)
    injection e with e
    subst e
    have h := hc (i % k) hml
    rw [show i / k * k + i % k = i from by omega] at h
    rw [h]
    have := flat_get enc k henc r (i / k) _ (i % k) (List.getElem?_eq_getElem hlt) hml
    rw [show i / k * k + i % k = i from by omega, hu] at this
    exact this.symm
end Go.Proofs.YtipnglidepfkbaaDoor
