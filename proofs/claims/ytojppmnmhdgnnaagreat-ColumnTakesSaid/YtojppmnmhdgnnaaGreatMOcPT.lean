/- Walks: a value that may be, boxed and unboxed; numbers and texts as bytes. Walks: numbers that may be below nothing, texts and values as bytes. Walks: a value that may not be, boxed; which values may be. -/
import Derived.Test.YtojppmnmhdgnnaaGreatMOcLW
import Derived.Lib.AppendStr
import Derived.Lib.AppendZeros
import Derived.Deep.RegionLaw
namespace Go.Proofs.YtojppmnmhdgnnaaGreat
set_option linter.unusedVariables false
set_option linter.unusedSimpArgs false
open Go.RowKit

attribute [local go_sem ↓] Go.wp_at_zero Go.wp_at_succ

/-- What a value that may be is. -/
theorem right_kinds {v : Va} (h : rightV v = true) : (v = ⟨0, 0, []⟩) ∨ (∃ t : Bool, v = ⟨1, if t then 1 else 0, []⟩) ∨ (∃ n, v = ⟨2, n, []⟩) ∨ (∃ s : List UInt8, v = ⟨3, 0, s⟩ ∧ s.length ≤ 1024) := by
  obtain ⟨k, n, s⟩ := v
  unfold rightV at h
  dsimp only at h
  split at h
  · rename_i hk
    obtain ⟨h1, h2⟩ := of_decide_eq_true h
    exact .inl (by rw [hk, h1, h2])
  · split at h
    · rename_i hk
      obtain ⟨h1, h2⟩ := of_decide_eq_true h
      rcases h1 with h1 | h1
      · exact .inr (.inl ⟨false, by rw [hk, h1, h2]; rfl⟩)
      · exact .inr (.inl ⟨true, by rw [hk, h1, h2]; rfl⟩)
    · split at h
      · rename_i hk
        exact .inr (.inr (.inl ⟨n, by rw [hk, of_decide_eq_true h]⟩))
      · split at h
        · rename_i hk
          obtain ⟨h1, h2⟩ := of_decide_eq_true h
          exact .inr (.inr (.inr ⟨s, by rw [hk, h1], h2⟩))
        · cases h

theorem ta_hit_bool (v : Value) (w : World) : (Instr.typeAssert (.iface 4 v) 20 4 true).run Tryz.prog w = .ok (.tuple #[v, .bool true]) w := by
  simp [Instr.typeAssert, run_underlying Tryz.underlying4, Result.andThen]
theorem ta_hit_int (v : Value) (w : World) : (Instr.typeAssert (.iface 3 v) 20 3 true).run Tryz.prog w = .ok (.tuple #[v, .bool true]) w := by
  simp [Instr.typeAssert, run_underlying Tryz.underlying3, Result.andThen]
theorem ta_hit_str (v : Value) (w : World) : (Instr.typeAssert (.iface 9 v) 20 9 true).run Tryz.prog w = .ok (.tuple #[v, .bool true]) w := by
  simp [Instr.typeAssert, run_underlying Tryz.underlying9, Result.andThen]
theorem ta_one_str (v : Value) (w : World) : (Instr.typeAssert (.iface 9 v) 20 9 false).run Tryz.prog w = .ok v w := by
  simp [Instr.typeAssert, run_underlying Tryz.underlying9, Result.andThen]
theorem ta_miss_bool {t : TypeId} (h : t ≠ 4) (v : Value) (w : World) : (Instr.typeAssert (.iface t v) 20 4 true).run Tryz.prog w = .ok (.tuple #[.bool false, .bool false]) w := by
  have hz : (zeroValue 4).run Tryz.prog w = .ok (.bool false) w := by kernel_rfl
  simp [Instr.typeAssert, run_underlying Tryz.underlying4, Result.andThen, h, hz]
theorem ta_miss_int {t : TypeId} (h : t ≠ 3) (v : Value) (w : World) : (Instr.typeAssert (.iface t v) 20 3 true).run Tryz.prog w = .ok (.tuple #[.int .i64 0, .bool false]) w := by
  have hz : (zeroValue 3).run Tryz.prog w = .ok (.int .i64 0) w := by kernel_rfl
  simp [Instr.typeAssert, run_underlying Tryz.underlying3, Result.andThen, h, hz]

set_option maxHeartbeats 4000000 in
set_option maxRecDepth 100000 in
theorem box_nil (w : World) : Calls Tryz.prog 88 #[.agg #[.int .u8 0, .int .i64 0, .string (St8 [])]] w fun e w' => e = .returned (.nilIface) ∧ Below w.heap.size w w' := by
  have e5 := St8_empty []
  rw [decide_eq_true rfl] at e5
  go_enter Tryz.func88, Tryz.ntmps88
  go_wp2_with fail
  go_ret
  exact ⟨rfl, by go_grown⟩

set_option maxHeartbeats 4000000 in
set_option maxRecDepth 100000 in
theorem unbox_nil (w : World) : Calls Tryz.prog 87 #[.nilIface] w fun e w' => e = .returned (.tuple #[.agg #[.int .u8 0, .int .i64 0, .string ⟨#[]⟩], .bool true]) ∧ Below w.heap.size w w' := by
  have t1 := ta_hit_bool
  have t2 := ta_hit_int
  have t3 := ta_hit_str
  have m1 := ta_miss_bool (t := 3) (by decide)
  have m2 := ta_miss_bool (t := 9) (by decide)
  have m3 := ta_miss_int (t := 9) (by decide)
  go_enter Tryz.func87, Tryz.ntmps87
  go_wp2_with fail
  go_returns
  exact ⟨rfl, by go_grown⟩

set_option maxHeartbeats 4000000 in
set_option maxRecDepth 100000 in
theorem box_no (w : World) : Calls Tryz.prog 88 #[.agg #[.int .u8 1, .int .i64 0, .string (St8 [])]] w fun e w' => e = .returned (.iface 4 (.bool false)) ∧ Below w.heap.size w w' := by
  have e5 := St8_empty []
  rw [decide_eq_true rfl] at e5
  go_enter Tryz.func88, Tryz.ntmps88
  go_wp2_with fail
  go_ret
  exact ⟨rfl, by go_grown⟩

set_option maxHeartbeats 4000000 in
set_option maxRecDepth 100000 in
theorem unbox_no (w : World) : Calls Tryz.prog 87 #[.iface 4 (.bool false)] w fun e w' => e = .returned (.tuple #[.agg #[.int .u8 1, .int .i64 0, .string ⟨#[]⟩], .bool true]) ∧ Below w.heap.size w w' := by
  have t1 := ta_hit_bool
  have t2 := ta_hit_int
  have t3 := ta_hit_str
  have m1 := ta_miss_bool (t := 3) (by decide)
  have m2 := ta_miss_bool (t := 9) (by decide)
  have m3 := ta_miss_int (t := 9) (by decide)
  go_enter Tryz.func87, Tryz.ntmps87
  go_wp2_with fail
  go_returns
  exact ⟨rfl, by go_grown⟩

set_option maxHeartbeats 4000000 in
set_option maxRecDepth 100000 in
theorem box_yes (w : World) : Calls Tryz.prog 88 #[.agg #[.int .u8 1, .int .i64 1, .string (St8 [])]] w fun e w' => e = .returned (.iface 4 (.bool true)) ∧ Below w.heap.size w w' := by
  have e5 := St8_empty []
  rw [decide_eq_true rfl] at e5
  go_enter Tryz.func88, Tryz.ntmps88
  go_wp2_with fail
  go_ret
  exact ⟨rfl, by go_grown⟩

set_option maxHeartbeats 4000000 in
set_option maxRecDepth 100000 in
theorem unbox_yes (w : World) : Calls Tryz.prog 87 #[.iface 4 (.bool true)] w fun e w' => e = .returned (.tuple #[.agg #[.int .u8 1, .int .i64 1, .string ⟨#[]⟩], .bool true]) ∧ Below w.heap.size w w' := by
  have t1 := ta_hit_bool
  have t2 := ta_hit_int
  have t3 := ta_hit_str
  have m1 := ta_miss_bool (t := 3) (by decide)
  have m2 := ta_miss_bool (t := 9) (by decide)
  have m3 := ta_miss_int (t := 9) (by decide)
  go_enter Tryz.func87, Tryz.ntmps87
  go_wp2_with fail
  go_returns
  exact ⟨rfl, by go_grown⟩

set_option maxHeartbeats 4000000 in
set_option maxRecDepth 100000 in
theorem box_int (n : Int) (w : World) : Calls Tryz.prog 88 #[.agg #[.int .u8 2, .int .i64 n, .string (St8 [])]] w fun e w' => e = .returned (.iface 3 (.int .i64 n)) ∧ Below w.heap.size w w' := by
  have e5 := St8_empty []
  rw [decide_eq_true rfl] at e5
  go_enter Tryz.func88, Tryz.ntmps88
  go_wp2_with fail
  go_ret
  exact ⟨rfl, by go_grown⟩

set_option maxHeartbeats 4000000 in
set_option maxRecDepth 100000 in
theorem unbox_int (n : Int) (w : World) : Calls Tryz.prog 87 #[.iface 3 (.int .i64 n)] w fun e w' => e = .returned (.tuple #[.agg #[.int .u8 2, .int .i64 n, .string ⟨#[]⟩], .bool true]) ∧ Below w.heap.size w w' := by
  have t1 := ta_hit_bool
  have t2 := ta_hit_int
  have t3 := ta_hit_str
  have m1 := ta_miss_bool (t := 3) (by decide)
  have m2 := ta_miss_bool (t := 9) (by decide)
  have m3 := ta_miss_int (t := 9) (by decide)
  go_enter Tryz.func87, Tryz.ntmps87
  go_wp2_with fail
  go_returns
  exact ⟨rfl, by go_grown⟩

set_option maxHeartbeats 4000000 in
set_option maxRecDepth 100000 in
theorem box_txt (s : List UInt8) (hl : s.length ≤ 1024) (w : World) : Calls Tryz.prog 88 #[.agg #[.int .u8 3, .int .i64 0, .string (St8 s)]] w fun e w' => e = .returned (.iface 9 (.string (St8 s))) ∧ Below w.heap.size w w' := by
  have e5 := St8_empty []
  rw [decide_eq_true rfl] at e5
  have hsz := St8_size s
  go_enter Tryz.func88, Tryz.ntmps88
  go_wp2_with fail
  go_ret
  exact ⟨rfl, by go_grown⟩

set_option maxHeartbeats 4000000 in
set_option maxRecDepth 100000 in
theorem unbox_txt (s : List UInt8) (hl : s.length ≤ 1024) (w : World) : Calls Tryz.prog 87 #[.iface 9 (.string (St8 s))] w fun e w' => e = .returned (.tuple #[.agg #[.int .u8 3, .int .i64 0, .string (St8 s)], .bool true]) ∧ Below w.heap.size w w' := by
  have hsz := St8_size s
  have t1 := ta_hit_bool
  have t2 := ta_hit_int
  have t3 := ta_hit_str
  have m1 := ta_miss_bool (t := 3) (by decide)
  have m2 := ta_miss_bool (t := 9) (by decide)
  have m3 := ta_miss_int (t := 9) (by decide)
  go_enter Tryz.func87, Tryz.ntmps87
  go_wp2_with fail
  go_returns
  exact ⟨rfl, by go_grown⟩

set_option maxHeartbeats 4000000 in
set_option maxRecDepth 100000 in
theorem cright_nil (w : World) : Calls Tryz.prog 66 #[.agg #[.int .u8 0, .int .i64 0, .string (St8 [])]] w fun e w' => e = .returned (.bool true) ∧ Below w.heap.size w w' := by
  have hS : St8 [] = ⟨#[]⟩ := rfl
  have hbx := Lib.hid (fun w' => box_nil w')
  have hub := Lib.hid (fun w' => unbox_nil w')
  go_enter Tryz.func66, Tryz.ntmps66
  go_wp2_with fail
  refine (hbx.out _).mono ?_
  rintro e w1 ⟨rfl, hb1⟩
  have h01 : Below w.heap.size w w1 := by
    have h0 : Below w.heap.size w (w.alloc (.cells #[.int .u8 0, .int .i64 0, .string (St8 [])] 60)) := by go_grown
    exact h0.trans (hb1.mono h0.size)
  have hk := (Blk.new w 60 #[.int .u8 0, .int .i64 0, .string (St8 [])]).below hb1
  have Hk := Lib.hid hk
  clear hb1 hk
  go_wp2_with fail
  refine (hub.out _).mono ?_
  rintro e w2 ⟨rfl, hb2⟩
  have h02 := h01.trans (hb2.mono h01.size)
  have hk2 := (Hk.out.below hb2).alloc (.cells #[.int .u8 0, .int .i64 0, .string ⟨#[]⟩] 60)
  have k0 := hk2.cell 0
  have k1 := hk2.cell 1
  have k2 := hk2.cell 2
  simp only [List.getElem?_cons_zero, List.getElem?_cons_succ] at k0 k1 k2
  clear hb2 h01 hk2
  go_wp2_with fail
  go_ret
  exact ⟨rfl, h02.alloc (by have := h02.size; omega) _⟩

set_option maxHeartbeats 4000000 in
set_option maxRecDepth 100000 in
theorem cright_no (w : World) : Calls Tryz.prog 66 #[.agg #[.int .u8 1, .int .i64 0, .string (St8 [])]] w fun e w' => e = .returned (.bool true) ∧ Below w.heap.size w w' := by
  have hS : St8 [] = ⟨#[]⟩ := rfl
  have hbx := Lib.hid (fun w' => box_no w')
  have hub := Lib.hid (fun w' => unbox_no w')
  go_enter Tryz.func66, Tryz.ntmps66
  go_wp2_with fail
  refine (hbx.out _).mono ?_
  rintro e w1 ⟨rfl, hb1⟩
  have h01 : Below w.heap.size w w1 := by
    have h0 : Below w.heap.size w (w.alloc (.cells #[.int .u8 1, .int .i64 0, .string (St8 [])] 60)) := by go_grown
    exact h0.trans (hb1.mono h0.size)
  have hk := (Blk.new w 60 #[.int .u8 1, .int .i64 0, .string (St8 [])]).below hb1
  have Hk := Lib.hid hk
  clear hb1 hk
  go_wp2_with fail
  refine (hub.out _).mono ?_
  rintro e w2 ⟨rfl, hb2⟩
  have h02 := h01.trans (hb2.mono h01.size)
  have hk2 := (Hk.out.below hb2).alloc (.cells #[.int .u8 1, .int .i64 0, .string ⟨#[]⟩] 60)
  have k0 := hk2.cell 0
  have k1 := hk2.cell 1
  have k2 := hk2.cell 2
  simp only [List.getElem?_cons_zero, List.getElem?_cons_succ] at k0 k1 k2
  clear hb2 h01 hk2
  go_wp2_with fail
  go_ret
  exact ⟨rfl, h02.alloc (by have := h02.size; omega) _⟩

set_option maxHeartbeats 4000000 in
set_option maxRecDepth 100000 in
theorem cright_yes (w : World) : Calls Tryz.prog 66 #[.agg #[.int .u8 1, .int .i64 1, .string (St8 [])]] w fun e w' => e = .returned (.bool true) ∧ Below w.heap.size w w' := by
  have hS : St8 [] = ⟨#[]⟩ := rfl
  have hbx := Lib.hid (fun w' => box_yes w')
  have hub := Lib.hid (fun w' => unbox_yes w')
  go_enter Tryz.func66, Tryz.ntmps66
  go_wp2_with fail
  refine (hbx.out _).mono ?_
  rintro e w1 ⟨rfl, hb1⟩
  have h01 : Below w.heap.size w w1 := by
    have h0 : Below w.heap.size w (w.alloc (.cells #[.int .u8 1, .int .i64 1, .string (St8 [])] 60)) := by go_grown
    exact h0.trans (hb1.mono h0.size)
  have hk := (Blk.new w 60 #[.int .u8 1, .int .i64 1, .string (St8 [])]).below hb1
  have Hk := Lib.hid hk
  clear hb1 hk
  go_wp2_with fail
  refine (hub.out _).mono ?_
  rintro e w2 ⟨rfl, hb2⟩
  have h02 := h01.trans (hb2.mono h01.size)
  have hk2 := (Hk.out.below hb2).alloc (.cells #[.int .u8 1, .int .i64 1, .string ⟨#[]⟩] 60)
  have k0 := hk2.cell 0
  have k1 := hk2.cell 1
  have k2 := hk2.cell 2
  simp only [List.getElem?_cons_zero, List.getElem?_cons_succ] at k0 k1 k2
  clear hb2 h01 hk2
  go_wp2_with fail
  go_ret
  exact ⟨rfl, h02.alloc (by have := h02.size; omega) _⟩

set_option maxHeartbeats 4000000 in
set_option maxRecDepth 100000 in
theorem cright_int (n : Int) (w : World) : Calls Tryz.prog 66 #[.agg #[.int .u8 2, .int .i64 n, .string (St8 [])]] w fun e w' => e = .returned (.bool true) ∧ Below w.heap.size w w' := by
  have hS : St8 [] = ⟨#[]⟩ := rfl
  have hbx := Lib.hid (fun w' => box_int n w')
  have hub := Lib.hid (fun w' => unbox_int n w')
  go_enter Tryz.func66, Tryz.ntmps66
  go_wp2_with fail
  refine (hbx.out _).mono ?_
  rintro e w1 ⟨rfl, hb1⟩
  have h01 : Below w.heap.size w w1 := by
    have h0 : Below w.heap.size w (w.alloc (.cells #[.int .u8 2, .int .i64 n, .string (St8 [])] 60)) := by go_grown
    exact h0.trans (hb1.mono h0.size)
  have hk := (Blk.new w 60 #[.int .u8 2, .int .i64 n, .string (St8 [])]).below hb1
  have Hk := Lib.hid hk
  clear hb1 hk
  go_wp2_with fail
  refine (hub.out _).mono ?_
  rintro e w2 ⟨rfl, hb2⟩
  have h02 := h01.trans (hb2.mono h01.size)
  have hk2 := (Hk.out.below hb2).alloc (.cells #[.int .u8 2, .int .i64 n, .string ⟨#[]⟩] 60)
  have k0 := hk2.cell 0
  have k1 := hk2.cell 1
  have k2 := hk2.cell 2
  simp only [List.getElem?_cons_zero, List.getElem?_cons_succ] at k0 k1 k2
  clear hb2 h01 hk2
  go_wp2_with fail
  go_ret
  exact ⟨rfl, h02.alloc (by have := h02.size; omega) _⟩

set_option maxHeartbeats 4000000 in
set_option maxRecDepth 100000 in
theorem cright_txt (s : List UInt8) (hl : s.length ≤ 1024) (w : World) : Calls Tryz.prog 66 #[.agg #[.int .u8 3, .int .i64 0, .string (St8 s)]] w fun e w' => e = .returned (.bool true) ∧ Below w.heap.size w w' := by
  have hS : St8 [] = ⟨#[]⟩ := rfl
  have hbx := Lib.hid (fun w' => box_txt s hl w')
  have hub := Lib.hid (fun w' => unbox_txt s hl w')
  go_enter Tryz.func66, Tryz.ntmps66
  go_wp2_with fail
  refine (hbx.out _).mono ?_
  rintro e w1 ⟨rfl, hb1⟩
  have h01 : Below w.heap.size w w1 := by
    have h0 : Below w.heap.size w (w.alloc (.cells #[.int .u8 3, .int .i64 0, .string (St8 s)] 60)) := by go_grown
    exact h0.trans (hb1.mono h0.size)
  have hk := (Blk.new w 60 #[.int .u8 3, .int .i64 0, .string (St8 s)]).below hb1
  have Hk := Lib.hid hk
  clear hb1 hk
  go_wp2_with fail
  refine (hub.out _).mono ?_
  rintro e w2 ⟨rfl, hb2⟩
  have h02 := h01.trans (hb2.mono h01.size)
  have hk2 := (Hk.out.below hb2).alloc (.cells #[.int .u8 3, .int .i64 0, .string (St8 s)] 60)
  have k0 := hk2.cell 0
  have k1 := hk2.cell 1
  have k2 := hk2.cell 2
  simp only [List.getElem?_cons_zero, List.getElem?_cons_succ] at k0 k1 k2
  clear hb2 h01 hk2
  go_wp2_with fail
  go_ret
  exact ⟨rfl, h02.alloc (by have := h02.size; omega) _⟩
end Go.Proofs.YtojppmnmhdgnnaaGreat
namespace Go.Proofs.YtojppmnmhdgnnaaGreat
set_option linter.unusedVariables false
set_option linter.unusedSimpArgs false
open Go.RowKit

attribute [local go_sem ↓] Go.wp_at_zero Go.wp_at_succ

theorem strCells_St8 (l : List UInt8) : Lib.strCells (St8 l) = Bs l := rfl
/-- append of a text's bytes onto a row of bytes. -/
theorem wpList_aps {ops : Array Oper} {rest : List Oper} {o : Oper} {a : Act} {w : World} {Q : Exit → Act → World → Prop} (hgd : o.guard = none) (s x : Operand)
    (ho : o.op = .call { callee := .builtin .append, args := #[s, x], argTypes := #[22, 9] }) (base : Nat) (A : Option Addr) (n c : Nat) (l m : List UInt8) (hs : a.eval s = .slice A n c) (hown : Own w base 5 1 A n c (Bs l))
    (hx : a.eval x = .string (St8 m)) (k : Nat) (hm : m.length = k) (hb : n + k ≤ 140737488355328) (hbase : base ≤ w.heap.size)
    (h : ∀ A' c' w', Own w' base 5 1 A' (n + k) c' (Bs (l ++ m)) → w.grownBy w' (Value.slice A n c).ownBlock → wpList Tryz.prog ops Q rest (a.put o.dst (.slice A' (n + k) c')) w') : wpList Tryz.prog ops Q (o :: rest) a w := by
  obtain ⟨hu, ⟨i, hi, hz, hsz, hby⟩, _, _⟩ := E8
  have hss : (St8 m).size = k := by rw [St8_size, hm]
  obtain ⟨v', w', hrun, how, hg, _⟩ := Lib.run_append_own_string (P := Tryz.prog) w base 22 9 o.type 5 i hu Tryz.underlying9 hi hz hsz hby _ n (Bs l) hown (St8 m) (by rw [hss]; unfold maxLen; omega) (by rw [hss]; omega) hbase
  rw [hss] at how
  refine Lib.wpList_append_run w hgd s x _ _ ho _ _ hs hx v' w' hrun ?_
  have hl : Bs l ++ Lib.strCells (St8 m) = Bs (l ++ m) := by rw [strCells_St8]; exact (List.map_append ..).symm
  rw [hl] at how
  rcases how.2 with ⟨rfl, h0⟩ | ⟨g, cap, cur, rfl, rest'⟩
  · have h0' : n + k = 0 := h0
    have := h none 0 w'
    rw [h0'] at this how
    exact this how hg
  · exact h _ _ _ how hg

theorem run_byo (w : World) (l : List UInt8) :
    ∃ c w', (convert 9 22 (.string (St8 l))).run Tryz.prog w = .ok (.slice (some ⟨w.heap.size, 0, none⟩) l.length c) w' ∧ w'.rangeAt w.heap.size 0 (Bs l) ∧ Below w.heap.size w w' := by
  have hs : Tryz.prog.underlying 22 = some (.slice 5) := by kernel_rfl
  have he : Tryz.prog.underlying 5 = some (.int .u8) := by kernel_rfl
  have hd : Tryz.prog.underlying 9 = some .string := by kernel_rfl
  have h := run_bytes_of_string w 9 22 5 (St8 l) hd hs he
  rw [St8_size] at h
  have hh := heap_alloc_new w.drew (.cells (bytesRow (St8 l) (grownCap w l.length 0 5)) 5 ((bytesRow (St8 l) (grownCap w l.length 0 5)).size, (bytesRow (St8 l) (grownCap w l.length 0 5)).size + 1))
  have hrow : ∀ (j : Nat) (v : Value), (Bs l)[j]? = some v → (bytesRow (St8 l) (grownCap w l.length 0 5))[j]? = some v := by
    intro j v hj
    have hlt := (List.getElem?_eq_some_iff.1 hj).1
    rw [List.length_map] at hlt
    unfold bytesRow St8
    rw [Array.getElem?_append_left (by simpa using hlt)]
    rw [List.getElem?_map, List.getElem?_eq_getElem hlt] at hj
    simpa [hlt] using hj
  refine ⟨_, _, h, ?_, ?_⟩
  · intro j v hj
    rw [Nat.zero_add]
    exact (cell_of_row _ w.heap.size j _ _ _ hh).trans (hrow j v hj)
  · exact (Below.refl w.heap.size w).drew.alloc (Nat.le_refl _) _

theorem int_any (b : List UInt8) (bl bc : Nat) (n : Int) (A : Option Addr) (w : World) (hb : b.length = bl) (hr : Rd w A (Bs b)) (hbl : bl ≤ 100000000) (hn : -9223372036854775808 ≤ n ∧ n ≤ 9223372036854775807) :
    Calls Tryz.prog 70 #[.slice A bl bc, .int .i64 n] w fun e w' => ∃ A' c', e = .returned (.slice A' (bl + (numB (zigN n)).length) c') ∧ Own w' w.heap.size 5 1 A' (bl + (numB (zigN n)).length) c' (Bs (b ++ numB (zigN n))) ∧ Below w.heap.size w w' := by
  have hz := Lib.hid (zig_any n w hn)
  have hc := Lib.hid (onum_any b bl bc (zigN n) A w hb hr hbl (zigN_lt hn))
  generalize (numB (zigN n)).length = L at *
  clear hb hr hn
  go_enter Tryz.func70, Tryz.ntmps70
  go_wp2_with fail
  refine hz.out.mono ?_
  rintro e w1 ⟨rfl, rfl⟩
  go_wp2_with fail
  refine hc.out.mono ?_
  rintro e w1 ⟨A1, c1, rfl, ho, hb⟩
  go_wp2_with fail
  go_ret
  exact ⟨_, _, rfl, ho, hb⟩

theorem rint_any (b : List UInt8) (bl bc : Nat) (n : Int) (A : Option Addr) (w : World) (hb : b.length = bl) (hr : Rd w A (Bs b)) (hbl : bl ≤ 100000000) (hn : -9223372036854775808 ≤ n ∧ n ≤ 9223372036854775807) :
    Calls Tryz.prog 75 #[.slice A bl bc, .int .i64 n] w fun e w' => ∃ A' c', e = .returned (.slice A' (bl + (numB (zigN n)).length) c') ∧ Own w' w.heap.size 5 1 A' (bl + (numB (zigN n)).length) c' (Bs (b ++ numB (zigN n))) ∧ Below w.heap.size w w' := by
  have hz := Lib.hid (zig_ref n w hn)
  have hc := Lib.hid (rnum_any b bl bc (zigN n) A w hb hr hbl (zigN_lt hn))
  generalize (numB (zigN n)).length = L at *
  clear hb hr hn
  go_enter Tryz.func75, Tryz.ntmps75
  go_wp2_with fail
  refine hz.out.mono ?_
  rintro e w1 ⟨rfl, rfl⟩
  go_wp2_with fail
  refine hc.out.mono ?_
  rintro e w1 ⟨A1, c1, rfl, ho, hb⟩
  go_wp2_with fail
  go_ret
  exact ⟨_, _, rfl, ho, hb⟩

set_option maxHeartbeats 4000000 in
theorem text_any (b s : List UInt8) (bl bc k : Nat) (A : Option Addr) (w : World) (hb : b.length = bl) (hs : s.length = k) (hr : Rd w A (Bs b)) (hbl : bl ≤ 100000000) (hk : k ≤ 100000000) :
    Calls Tryz.prog 71 #[.slice A bl bc, .string (St8 s)] w fun e w' => ∃ A' c', e = .returned (.slice A' (bl + (numB k).length + k) c') ∧ Own w' w.heap.size 5 1 A' (bl + (numB k).length + k) c' (Bs (b ++ (numB k ++ s))) ∧ Below w.heap.size w w' := by
  have hsz := St8_size s
  rw [hs] at hsz
  have Hs := Lib.hid hs
  have hc := Lib.hid (onum_any b bl bc k A w hb hr hbl (by omega))
  have hL := numB_len (n := k) (by omega)
  have hwk : IntKind.u64.wrap (k : Int) = (k : Int) := by rw [IntKind.wrap_u64]; omega
  generalize (numB k).length = L at *
  clear hb hr hs
  go_enter Tryz.func71, Tryz.ntmps71
  go_wp2_with fail
  refine hc.out.mono ?_
  rintro e w1 ⟨A1, c1, rfl, ho, hb⟩
  go_wp2_with (first | (at_builtin; refine hold ?_) | (at_make; refine hold ?_))
  (with_reducible refine unhold ?_)
  refine wpList_aps rfl _ _ rfl w.heap.size A1 (bl + L) c1 (b ++ numB k) s rfl ho rfl k Hs.out (by omega) hb.size ?_
  intro A3 c3 w3 ho3 hg3
  have hb3 := hb.grown hg3 hb.size ho.row_ge
  rw [List.append_assoc] at ho3
  go_wp2_with fail
  go_ret
  exact ⟨_, _, rfl, ho3, hb3⟩

set_option maxHeartbeats 4000000 in
theorem rtext_any (b s : List UInt8) (bl bc k : Nat) (A : Option Addr) (w : World) (hb : b.length = bl) (hs : s.length = k) (hr : Rd w A (Bs b)) (hbl : bl ≤ 100000000) (hk : k ≤ 100000000) :
    Calls Tryz.prog 84 #[.slice A bl bc, .string (St8 s)] w fun e w' => ∃ A' c', e = .returned (.slice A' (bl + (numB k).length + k) c') ∧ Own w' w.heap.size 5 1 A' (bl + (numB k).length + k) c' (Bs (b ++ (numB k ++ s))) ∧ Below w.heap.size w w' := by
  have hsz := St8_size s
  rw [hs] at hsz
  have Hs := Lib.hid hs
  have hc := Lib.hid (rnum_any b bl bc k A w hb hr hbl (by omega))
  have hL := numB_len (n := k) (by omega)
  have hwk : IntKind.u64.wrap (k : Int) = (k : Int) := by rw [IntKind.wrap_u64]; omega
  generalize (numB k).length = L at *
  clear hb hr hs
  go_enter Tryz.func84, Tryz.ntmps84
  go_wp2_with fail
  refine hc.out.mono ?_
  rintro e w1 ⟨A1, c1, rfl, ho, hb⟩
  obtain ⟨cc, w2, hcv, hrg, hb2⟩ := run_byo w1 s
  rw [Hs.out] at hcv
  have hb02 := hb.trans (hb2.mono hb.size)
  have ho2 := Own.below ho hb2
  clear hb2 ho hb
  go_wp2_with (first | (at_builtin; refine hold ?_) | (at_make; refine hold ?_))
  (with_reducible refine unhold ?_)
  refine wpList_apd rfl _ _ _ rfl E8 w.heap.size _ (bl + L) _ (Bs (b ++ numB k)) rfl ho2 _ k _ (Bs s) rfl (by rw [List.length_map, Hs.out, Nat.mul_one]) (fun _ => ⟨_, _, rfl, hrg⟩) (Bs_one s) (bl + L + k) rfl (Bs (b ++ (numB k ++ s))) (by show List.map YtojppmnmhdgnnaaGreat.B _ ++ List.map YtojppmnmhdgnnaaGreat.B _ = List.map YtojppmnmhdgnnaaGreat.B _; rw [← List.map_append, List.append_assoc]) (by omega) (by omega) hb02.size ?_
  intro A3 c3 w3 ho3 hg3 _
  have hb3 := hb02.grown hg3 hb02.size ho2.row_ge
  go_wp2_with fail
  go_ret
  exact ⟨_, _, rfl, ho3, hb3⟩
end Go.Proofs.YtojppmnmhdgnnaaGreat
namespace Go.Proofs.YtojppmnmhdgnnaaGreat
set_option linter.unusedVariables false
set_option linter.unusedSimpArgs false
open Go.RowKit

attribute [local go_sem ↓] Go.wp_at_zero Go.wp_at_succ

set_option maxHeartbeats 4000000 in
set_option maxRecDepth 100000 in
theorem box_bad (v : Va) (h : rightV v = false) (w : World) : Calls Tryz.prog 88 #[v.agg] w fun e w' => e = .returned (.nilIface) ∧ Below w.heap.size w w' := by
  have e1 := St8_nil_cmp v.s
  have e2 := St8_nil_eq v.s
  have e3 := St8_nil_iff v.s
  have e4 := St8_size v.s
  have e5 := St8_empty v.s
  obtain ⟨k, n, s⟩ := v
  unfold Va.agg
  dsimp only at *
  by_cases h1 : k = 1
  · subst h1
    by_cases hs : s = []
    · have hn0 : n ≠ 0 := fun e => by subst e; subst hs; simp [rightV] at h
      have hn1 : n ≠ 1 := fun e => by subst e; subst hs; simp [rightV] at h
      rw [decide_eq_true hs] at e1 e2 e5
      subst hs
      clear e1 e2 e3
      have z0 : (n == 0) = false := beq_eq_false_iff_ne.2 hn0
      have z1 : (n == 1) = false := beq_eq_false_iff_ne.2 hn1
      clear h
      go_enter Tryz.func88, Tryz.ntmps88
      go_wp2_with fail
      go_ret
      exact ⟨rfl, by go_grown⟩
    · rw [decide_eq_false hs] at e1 e2 e5
      have e3 := fun h => hs (e3.1 h)
      clear h
      go_enter Tryz.func88, Tryz.ntmps88
      go_wp2_with fail
      go_ret
      exact ⟨rfl, by go_grown⟩
  · by_cases h2 : k = 2
    · subst h2
      by_cases hs : s = []
      · exfalso; subst hs; simp [rightV] at h
      · rw [decide_eq_false hs] at e1 e2 e5
        have e3 := fun h => hs (e3.1 h)
        clear h
        go_enter Tryz.func88, Tryz.ntmps88
        go_wp2_with fail
        go_ret
        exact ⟨rfl, by go_grown⟩
    · by_cases h3 : k = 3
      · subst h3
        by_cases hn : n = 0
        · have hl : ¬ s.length ≤ 1024 := fun e => by subst hn; simp [rightV, e] at h
          subst hn
          have e6 : decide ((s.length : Int) ≤ 1024) = false := decide_eq_false (by omega)
          clear h
          go_enter Tryz.func88, Tryz.ntmps88
          go_wp2_with fail
          go_ret
          exact ⟨rfl, by go_grown⟩
        · have z0 : (n == 0) = false := beq_eq_false_iff_ne.2 hn
          clear h
          go_enter Tryz.func88, Tryz.ntmps88
          go_wp2_with fail
          go_ret
          exact ⟨rfl, by go_grown⟩
      · have z1 : (k == 1) = false := beq_eq_false_iff_ne.2 h1
        have z2 : (k == 2) = false := beq_eq_false_iff_ne.2 h2
        have z3 : (k == 3) = false := beq_eq_false_iff_ne.2 h3
        clear h
        go_enter Tryz.func88, Tryz.ntmps88
        go_wp2_with fail
        go_ret
        exact ⟨rfl, by go_grown⟩

set_option maxHeartbeats 4000000 in
set_option maxRecDepth 100000 in
theorem cright_bad (v : Va) (h : rightV v = false) (w : World) : Calls Tryz.prog 66 #[v.agg] w fun e w' => e = .returned (.bool false) ∧ Below w.heap.size w w' := by
  have hbx := Lib.hid (fun w' => box_bad v h w')
  have hub := Lib.hid (fun w' => unbox_nil w')
  have e1 := St8_nil_cmp v.s
  have e2 := St8_nil_eq v.s
  have e3 := St8_nil_iff v.s
  have e5 := St8_empty v.s
  obtain ⟨k, n, s⟩ := v
  unfold Va.agg at *
  dsimp only at *
  have hne : ¬ (k = 0 ∧ n = 0 ∧ s = []) := fun ⟨h1, h2, h3⟩ => by subst h1; subst h2; subst h3; simp [rightV] at h
  clear h
  go_enter Tryz.func66, Tryz.ntmps66
  go_wp2_with fail
  refine (hbx.out _).mono ?_
  rintro e w1 ⟨rfl, hb1⟩
  have h01 : Below w.heap.size w w1 := by
    have h0 : Below w.heap.size w (w.alloc (.cells #[.int .u8 k, .int .i64 n, .string (St8 s)] 60)) := by go_grown
    exact h0.trans (hb1.mono h0.size)
  have hk := (Blk.new w 60 #[.int .u8 k, .int .i64 n, .string (St8 s)]).below hb1
  have Hk := Lib.hid hk
  clear hb1 hk
  go_wp2_with fail
  refine (hub.out _).mono ?_
  rintro e w2 ⟨rfl, hb2⟩
  have h02 := h01.trans (hb2.mono h01.size)
  have hk2 := (Hk.out.below hb2).alloc (.cells #[.int .u8 0, .int .i64 0, .string ⟨#[]⟩] 60)
  have k0 := hk2.cell 0
  have k1 := hk2.cell 1
  have k2 := hk2.cell 2
  simp only [List.getElem?_cons_zero, List.getElem?_cons_succ] at k0 k1 k2
  clear hb2 h01 hk2
  by_cases hk : k = 0
  · subst hk
    by_cases hn : n = 0
    · subst hn
      have hs : s ≠ [] := fun e => hne ⟨rfl, rfl, e⟩
      rw [decide_eq_false hs] at e1 e2 e5
      have e3 := fun h => hs (e3.1 h)
      have e4 := fun (h : (⟨#[]⟩ : ByteArray) = St8 s) => e3 h.symm
      clear hne
      go_wp2_with fail
      go_ret
      exact ⟨rfl, h02.alloc (by have := h02.size; omega) _⟩
    · have z0 : (n == 0) = false := beq_eq_false_iff_ne.2 hn
      have z1 : ((0 : Int) == n) = false := beq_eq_false_iff_ne.2 (fun e => hn e.symm)
      clear hne
      go_wp2_with fail
      go_ret
      exact ⟨rfl, h02.alloc (by have := h02.size; omega) _⟩
  · have z0 : (k == 0) = false := beq_eq_false_iff_ne.2 hk
    have z1 : ((0 : Int) == k) = false := beq_eq_false_iff_ne.2 (fun e => hk e.symm)
    clear hne
    go_wp2_with fail
    go_ret
    exact ⟨rfl, h02.alloc (by have := h02.size; omega) _⟩

theorem cright_any (v : Va) (w : World) : Calls Tryz.prog 66 #[v.agg] w fun e w' => e = .returned (.bool (rightV v)) ∧ Below w.heap.size w w' := by
  cases h : rightV v
  · exact cright_bad v h w
  · rcases right_kinds h with rfl | ⟨t, rfl⟩ | ⟨n, rfl⟩ | ⟨s, rfl, hs⟩
    · exact cright_nil w
    · cases t
      · exact cright_no w
      · exact cright_yes w
    · exact cright_int n w
    · exact cright_txt s hs w
end Go.Proofs.YtojppmnmhdgnnaaGreat
