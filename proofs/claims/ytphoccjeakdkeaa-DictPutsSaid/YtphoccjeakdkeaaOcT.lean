/- Walks: numbers that may be below nothing, texts and values as bytes. -/
import Derived.Test.YtphoccjeakdkeaaOcP
namespace Go.Proofs.Ytphoccjeakdkeaa
open Go.RowKit

attribute [local go_sem ↓] Go.wp_at_zero Go.wp_at_succ

theorem strCells_St8 (l : List UInt8) : Lib.strCells (St8 l) = Bs l := rfl
/-- append of a text's bytes onto a row of bytes. -/
theorem wpList_aps {ops : Array Oper} {rest : List Oper} {o : Oper} {a : Act} {w : World} {Q : Exit → Act → World → Prop} (hgd : o.guard = none) (s x : Operand)
    (ho : o.op = .call { callee := .builtin .append, args := #[s, x], argTypes := #[40, 9] }) (base : Nat) (A : Option Addr) (n c : Nat) (l m : List UInt8) (hs : a.eval s = .slice A n c) (hown : Own w base 5 1 A n c (Bs l))
    (hx : a.eval x = .string (St8 m)) (k : Nat) (hm : m.length = k) (hb : n + k ≤ 140737488355328) (hbase : base ≤ w.heap.size)
    (h : ∀ A' c' w', Own w' base 5 1 A' (n + k) c' (Bs (l ++ m)) → w.grownBy w' (Value.slice A n c).ownBlock → wpList Try.prog ops Q rest (a.put o.dst (.slice A' (n + k) c')) w') : wpList Try.prog ops Q (o :: rest) a w := by
  obtain ⟨hu, ⟨i, hi, hz, hsz, hby⟩, _, _⟩ := E8
  have hss : (St8 m).size = k := by rw [St8_size, hm]
  obtain ⟨v', w', hrun, how, hg, _⟩ := Lib.run_append_own_string (P := Try.prog) w base 40 9 o.type 5 i hu Try.underlying9 hi hz hsz hby _ n (Bs l) hown (St8 m) (by rw [hss]; unfold maxLen; omega) (by rw [hss]; omega) hbase
  rw [hss] at how
  refine Lib.wpList_append_run w hgd s x _ _ ho _ _ hs hx v' w' hrun ?_
  have hl : Bs l ++ Lib.strCells (St8 m) = Bs (l ++ m) := by rw [strCells_St8]; exact (List.map_append ..).symm
  rw [hl] at how
  rcases how.2 with ⟨rfl, h0⟩ | ⟨g, cap, cur, rfl, rest'⟩
  · have h0' : n + k = 0 := h0
    have := h none 0 w'
    rw [h0'] at this how
    exact this how hg
  · exact h _ _ _ how hg

theorem run_byo (w : World) (l : List UInt8) :
    ∃ c w', (convert 9 40 (.string (St8 l))).run Try.prog w = .ok (.slice (some ⟨w.heap.size, 0, none⟩) l.length c) w' ∧ w'.rangeAt w.heap.size 0 (Bs l) ∧ Below w.heap.size w w' := by
  have hs : Try.prog.underlying 40 = some (.slice 5) := by kernel_rfl
  have he : Try.prog.underlying 5 = some (.int .u8) := by kernel_rfl
  have hd : Try.prog.underlying 9 = some .string := by kernel_rfl
  have h := run_bytes_of_string w 9 40 5 (St8 l) hd hs he
  rw [St8_size] at h
  have hh := heap_alloc_new w.drew (.cells (bytesRow (St8 l) (grownCap w l.length 0 5)) 5 ((bytesRow (St8 l) (grownCap w l.length 0 5)).size, (bytesRow (St8 l) (grownCap w l.length 0 5)).size + 1))
  have hrow : ∀ (j : Nat) (v : Value), (Bs l)[j]? = some v → (bytesRow (St8 l) (grownCap w l.length 0 5))[j]? = some v := by
    intro j v hj
    have hlt := (List.getElem?_eq_some_iff.1 hj).1
    rw [List.length_map] at hlt
    unfold bytesRow St8
    rw [Array.getElem?_append_left (by simpa using hlt)]
    rw [List.getElem?_map, List.getElem?_eq_getElem hlt] at hj
    simpa [hlt] using hj
  refine ⟨_, _, h, ?_, ?_⟩
  · intro j v hj
    rw [Nat.zero_add]
    exact (cell_of_row _ w.heap.size j _ _ _ hh).trans (hrow j v hj)
  · exact (Below.refl w.heap.size w).drew.alloc (Nat.le_refl _) _

set_option maxHeartbeats 4000000 in
theorem text_any (b s : List UInt8) (bl bc k : Nat) (A : Option Addr) (w : World) (hb : b.length = bl) (hs : s.length = k) (hr : Rd w A (Bs b)) (hbl : bl ≤ 1000000) (hk : k ≤ 1000000) :
    Calls Try.prog 44 #[.slice A bl bc, .string (St8 s)] w fun e w' => ∃ A' c', e = .returned (.slice A' (bl + (numB k).length + k) c') ∧ Own w' w.heap.size 5 1 A' (bl + (numB k).length + k) c' (Bs (b ++ (numB k ++ s))) ∧ Below w.heap.size w w' := by
  have hsz := St8_size s
  rw [hs] at hsz
  have Hs := Lib.hid hs
  have hc := Lib.hid (onum_any b bl bc k A w hb hr hbl (by omega))
  have hL := numB_len (n := k) (by omega)
  have hwk : IntKind.u64.wrap (k : Int) = (k : Int) := by rw [IntKind.wrap_u64]; omega
  generalize (numB k).length = L at *
  clear hb hr hs
  go_enter Try.func44, Try.ntmps44
  go_wp2_with fail
  refine hc.out.mono ?_
  rintro e w1 ⟨A1, c1, rfl, ho, hb⟩
  go_wp2_with (first | (at_builtin; refine hold ?_) | (at_make; refine hold ?_))
  (with_reducible refine unhold ?_)
  refine wpList_aps rfl _ _ rfl w.heap.size A1 (bl + L) c1 (b ++ numB k) s rfl ho rfl k Hs.out (by omega) hb.size ?_
  intro A3 c3 w3 ho3 hg3
  have hb3 := hb.grown hg3 hb.size ho.row_ge
  rw [List.append_assoc] at ho3
  go_wp2_with fail
  go_ret
  exact ⟨_, _, rfl, ho3, hb3⟩

set_option maxHeartbeats 4000000 in
theorem rtext_any (b s : List UInt8) (bl bc k : Nat) (A : Option Addr) (w : World) (hb : b.length = bl) (hs : s.length = k) (hr : Rd w A (Bs b)) (hbl : bl ≤ 1000000) (hk : k ≤ 1000000) :
    Calls Try.prog 53 #[.slice A bl bc, .string (St8 s)] w fun e w' => ∃ A' c', e = .returned (.slice A' (bl + (numB k).length + k) c') ∧ Own w' w.heap.size 5 1 A' (bl + (numB k).length + k) c' (Bs (b ++ (numB k ++ s))) ∧ Below w.heap.size w w' := by
  have hsz := St8_size s
  rw [hs] at hsz
  have Hs := Lib.hid hs
  have hc := Lib.hid (rnum_any b bl bc k A w hb hr hbl (by omega))
  have hL := numB_len (n := k) (by omega)
  have hwk : IntKind.u64.wrap (k : Int) = (k : Int) := by rw [IntKind.wrap_u64]; omega
  generalize (numB k).length = L at *
  clear hb hr hs
  go_enter Try.func53, Try.ntmps53
  go_wp2_with fail
  refine hc.out.mono ?_
  rintro e w1 ⟨A1, c1, rfl, ho, hb⟩
  obtain ⟨cc, w2, hcv, hrg, hb2⟩ := run_byo w1 s
  rw [Hs.out] at hcv
  have hb02 := hb.trans (hb2.mono hb.size)
  have ho2 := Own.below ho hb2
  clear hb2 ho hb
  go_wp2_with (first | (at_builtin; refine hold ?_) | (at_make; refine hold ?_))
  (with_reducible refine unhold ?_)
  refine wpList_apd rfl _ _ _ rfl E8 w.heap.size _ (bl + L) _ (Bs (b ++ numB k)) rfl ho2 _ k _ (Bs s) rfl (by rw [List.length_map, Hs.out, Nat.mul_one]) (fun _ => ⟨_, _, rfl, hrg⟩) (Bs_one s) (bl + L + k) rfl (Bs (b ++ (numB k ++ s))) (by show List.map Ytphoccjeakdkeaa.B _ ++ List.map Ytphoccjeakdkeaa.B _ = List.map Ytphoccjeakdkeaa.B _; rw [← List.map_append, List.append_assoc]) (by omega) (by omega) hb02.size ?_
  intro A3 c3 w3 ho3 hg3 _
  have hb3 := hb02.grown hg3 hb02.size ho2.row_ge
  go_wp2_with fail
  go_ret
  exact ⟨_, _, rfl, ho3, hb3⟩
end Go.Proofs.Ytphoccjeakdkeaa
