/- Walks: a value that may be, boxed and unboxed; numbers and texts as bytes. -/
import Derived.Test.YtheafcfbahdcfaaOcW
import Derived.Lib.AppendStr
import Derived.Lib.AppendZeros
import Derived.Deep.RegionLaw
namespace Go.Proofs.Ytheafcfbahdcfaa
open Go.RowKit

attribute [local go_sem ↓] Go.wp_at_zero Go.wp_at_succ

/-- What a value that may be is. -/
theorem right_kinds {v : Va} (h : rightV v = true) : (v = ⟨0, 0, []⟩) ∨ (∃ t : Bool, v = ⟨1, if t then 1 else 0, []⟩) ∨ (∃ n, v = ⟨2, n, []⟩) ∨ (∃ s : List UInt8, v = ⟨3, 0, s⟩ ∧ s.length ≤ 1024) := by
  obtain ⟨k, n, s⟩ := v
  unfold rightV at h
  dsimp only at h
  split at h
  · rename_i hk
    obtain ⟨h1, h2⟩ := of_decide_eq_true h
    exact .inl (by rw [hk, h1, h2])
  · split at h
    · rename_i hk
      obtain ⟨h1, h2⟩ := of_decide_eq_true h
      rcases h1 with h1 | h1
      · exact .inr (.inl ⟨false, by rw [hk, h1, h2]; rfl⟩)
      · exact .inr (.inl ⟨true, by rw [hk, h1, h2]; rfl⟩)
    · split at h
      · rename_i hk
        exact .inr (.inr (.inl ⟨n, by rw [hk, of_decide_eq_true h]⟩))
      · split at h
        · rename_i hk
          obtain ⟨h1, h2⟩ := of_decide_eq_true h
          exact .inr (.inr (.inr ⟨s, by rw [hk, h1], h2⟩))
        · cases h

theorem ta_hit_bool (v : Value) (w : World) : (Instr.typeAssert (.iface 4 v) 20 4 true).run Try.prog w = .ok (.tuple #[v, .bool true]) w := by
  simp [Instr.typeAssert, run_underlying Try.underlying4, Result.andThen]
theorem ta_hit_int (v : Value) (w : World) : (Instr.typeAssert (.iface 3 v) 20 3 true).run Try.prog w = .ok (.tuple #[v, .bool true]) w := by
  simp [Instr.typeAssert, run_underlying Try.underlying3, Result.andThen]
theorem ta_hit_str (v : Value) (w : World) : (Instr.typeAssert (.iface 9 v) 20 9 true).run Try.prog w = .ok (.tuple #[v, .bool true]) w := by
  simp [Instr.typeAssert, run_underlying Try.underlying9, Result.andThen]
theorem ta_one_str (v : Value) (w : World) : (Instr.typeAssert (.iface 9 v) 20 9 false).run Try.prog w = .ok v w := by
  simp [Instr.typeAssert, run_underlying Try.underlying9, Result.andThen]
theorem ta_miss_bool {t : TypeId} (h : t ≠ 4) (v : Value) (w : World) : (Instr.typeAssert (.iface t v) 20 4 true).run Try.prog w = .ok (.tuple #[.bool false, .bool false]) w := by
  have hz : (zeroValue 4).run Try.prog w = .ok (.bool false) w := by kernel_rfl
  simp [Instr.typeAssert, run_underlying Try.underlying4, Result.andThen, h, hz]
theorem ta_miss_int {t : TypeId} (h : t ≠ 3) (v : Value) (w : World) : (Instr.typeAssert (.iface t v) 20 3 true).run Try.prog w = .ok (.tuple #[.int .i64 0, .bool false]) w := by
  have hz : (zeroValue 3).run Try.prog w = .ok (.int .i64 0) w := by kernel_rfl
  simp [Instr.typeAssert, run_underlying Try.underlying3, Result.andThen, h, hz]

set_option maxHeartbeats 4000000 in
set_option maxRecDepth 100000 in
theorem box_nil (w : World) : Calls Try.prog 59 #[.agg #[.int .u8 0, .int .i64 0, .string (St8 [])]] w fun e w' => e = .returned (.nilIface) ∧ Below w.heap.size w w' := by
  have e5 := St8_empty []
  rw [decide_eq_true rfl] at e5
  go_enter Try.func59, Try.ntmps59
  go_wp2_with fail
  go_ret
  exact ⟨rfl, by go_grown⟩

set_option maxHeartbeats 4000000 in
set_option maxRecDepth 100000 in
theorem unbox_nil (w : World) : Calls Try.prog 58 #[.nilIface] w fun e w' => e = .returned (.tuple #[.agg #[.int .u8 0, .int .i64 0, .string ⟨#[]⟩], .bool true]) ∧ Below w.heap.size w w' := by
  have t1 := ta_hit_bool
  have t2 := ta_hit_int
  have t3 := ta_hit_str
  have m1 := ta_miss_bool (t := 3) (by decide)
  have m2 := ta_miss_bool (t := 9) (by decide)
  have m3 := ta_miss_int (t := 9) (by decide)
  go_enter Try.func58, Try.ntmps58
  go_wp2_with fail
  go_returns
  exact ⟨rfl, by go_grown⟩

set_option maxHeartbeats 4000000 in
set_option maxRecDepth 100000 in
theorem box_no (w : World) : Calls Try.prog 59 #[.agg #[.int .u8 1, .int .i64 0, .string (St8 [])]] w fun e w' => e = .returned (.iface 4 (.bool false)) ∧ Below w.heap.size w w' := by
  have e5 := St8_empty []
  rw [decide_eq_true rfl] at e5
  go_enter Try.func59, Try.ntmps59
  go_wp2_with fail
  go_ret
  exact ⟨rfl, by go_grown⟩

set_option maxHeartbeats 4000000 in
set_option maxRecDepth 100000 in
theorem unbox_no (w : World) : Calls Try.prog 58 #[.iface 4 (.bool false)] w fun e w' => e = .returned (.tuple #[.agg #[.int .u8 1, .int .i64 0, .string ⟨#[]⟩], .bool true]) ∧ Below w.heap.size w w' := by
  have t1 := ta_hit_bool
  have t2 := ta_hit_int
  have t3 := ta_hit_str
  have m1 := ta_miss_bool (t := 3) (by decide)
  have m2 := ta_miss_bool (t := 9) (by decide)
  have m3 := ta_miss_int (t := 9) (by decide)
  go_enter Try.func58, Try.ntmps58
  go_wp2_with fail
  go_returns
  exact ⟨rfl, by go_grown⟩

set_option maxHeartbeats 4000000 in
set_option maxRecDepth 100000 in
theorem box_yes (w : World) : Calls Try.prog 59 #[.agg #[.int .u8 1, .int .i64 1, .string (St8 [])]] w fun e w' => e = .returned (.iface 4 (.bool true)) ∧ Below w.heap.size w w' := by
  have e5 := St8_empty []
  rw [decide_eq_true rfl] at e5
  go_enter Try.func59, Try.ntmps59
  go_wp2_with fail
  go_ret
  exact ⟨rfl, by go_grown⟩

set_option maxHeartbeats 4000000 in
set_option maxRecDepth 100000 in
theorem unbox_yes (w : World) : Calls Try.prog 58 #[.iface 4 (.bool true)] w fun e w' => e = .returned (.tuple #[.agg #[.int .u8 1, .int .i64 1, .string ⟨#[]⟩], .bool true]) ∧ Below w.heap.size w w' := by
  have t1 := ta_hit_bool
  have t2 := ta_hit_int
  have t3 := ta_hit_str
  have m1 := ta_miss_bool (t := 3) (by decide)
  have m2 := ta_miss_bool (t := 9) (by decide)
  have m3 := ta_miss_int (t := 9) (by decide)
  go_enter Try.func58, Try.ntmps58
  go_wp2_with fail
  go_returns
  exact ⟨rfl, by go_grown⟩

set_option maxHeartbeats 4000000 in
set_option maxRecDepth 100000 in
theorem box_int (n : Int) (w : World) : Calls Try.prog 59 #[.agg #[.int .u8 2, .int .i64 n, .string (St8 [])]] w fun e w' => e = .returned (.iface 3 (.int .i64 n)) ∧ Below w.heap.size w w' := by
  have e5 := St8_empty []
  rw [decide_eq_true rfl] at e5
  go_enter Try.func59, Try.ntmps59
  go_wp2_with fail
  go_ret
  exact ⟨rfl, by go_grown⟩

set_option maxHeartbeats 4000000 in
set_option maxRecDepth 100000 in
theorem unbox_int (n : Int) (w : World) : Calls Try.prog 58 #[.iface 3 (.int .i64 n)] w fun e w' => e = .returned (.tuple #[.agg #[.int .u8 2, .int .i64 n, .string ⟨#[]⟩], .bool true]) ∧ Below w.heap.size w w' := by
  have t1 := ta_hit_bool
  have t2 := ta_hit_int
  have t3 := ta_hit_str
  have m1 := ta_miss_bool (t := 3) (by decide)
  have m2 := ta_miss_bool (t := 9) (by decide)
  have m3 := ta_miss_int (t := 9) (by decide)
  go_enter Try.func58, Try.ntmps58
  go_wp2_with fail
  go_returns
  exact ⟨rfl, by go_grown⟩

set_option maxHeartbeats 4000000 in
set_option maxRecDepth 100000 in
theorem box_txt (s : List UInt8) (hl : s.length ≤ 1024) (w : World) : Calls Try.prog 59 #[.agg #[.int .u8 3, .int .i64 0, .string (St8 s)]] w fun e w' => e = .returned (.iface 9 (.string (St8 s))) ∧ Below w.heap.size w w' := by
  have e5 := St8_empty []
  rw [decide_eq_true rfl] at e5
  have hsz := St8_size s
  go_enter Try.func59, Try.ntmps59
  go_wp2_with fail
  go_ret
  exact ⟨rfl, by go_grown⟩

set_option maxHeartbeats 4000000 in
set_option maxRecDepth 100000 in
theorem unbox_txt (s : List UInt8) (hl : s.length ≤ 1024) (w : World) : Calls Try.prog 58 #[.iface 9 (.string (St8 s))] w fun e w' => e = .returned (.tuple #[.agg #[.int .u8 3, .int .i64 0, .string (St8 s)], .bool true]) ∧ Below w.heap.size w w' := by
  have hsz := St8_size s
  have t1 := ta_hit_bool
  have t2 := ta_hit_int
  have t3 := ta_hit_str
  have m1 := ta_miss_bool (t := 3) (by decide)
  have m2 := ta_miss_bool (t := 9) (by decide)
  have m3 := ta_miss_int (t := 9) (by decide)
  go_enter Try.func58, Try.ntmps58
  go_wp2_with fail
  go_returns
  exact ⟨rfl, by go_grown⟩

set_option maxHeartbeats 4000000 in
set_option maxRecDepth 100000 in
theorem cright_nil (w : World) : Calls Try.prog 43 #[.agg #[.int .u8 0, .int .i64 0, .string (St8 [])]] w fun e w' => e = .returned (.bool true) ∧ Below w.heap.size w w' := by
  have hS : St8 [] = ⟨#[]⟩ := rfl
  have hbx := Lib.hid (fun w' => box_nil w')
  have hub := Lib.hid (fun w' => unbox_nil w')
  go_enter Try.func43, Try.ntmps43
  go_wp2_with fail
  refine (hbx.out _).mono ?_
  rintro e w1 ⟨rfl, hb1⟩
  have h01 : Below w.heap.size w w1 := by
    have h0 : Below w.heap.size w (w.alloc (.cells #[.int .u8 0, .int .i64 0, .string (St8 [])] 49)) := by go_grown
    exact h0.trans (hb1.mono h0.size)
  have hk := (Blk.new w 49 #[.int .u8 0, .int .i64 0, .string (St8 [])]).below hb1
  have Hk := Lib.hid hk
  clear hb1 hk
  go_wp2_with fail
  refine (hub.out _).mono ?_
  rintro e w2 ⟨rfl, hb2⟩
  have h02 := h01.trans (hb2.mono h01.size)
  have hk2 := (Hk.out.below hb2).alloc (.cells #[.int .u8 0, .int .i64 0, .string ⟨#[]⟩] 49)
  have k0 := hk2.cell 0
  have k1 := hk2.cell 1
  have k2 := hk2.cell 2
  simp only [List.getElem?_cons_zero, List.getElem?_cons_succ] at k0 k1 k2
  clear hb2 h01 hk2
  go_wp2_with fail
  go_ret
  exact ⟨rfl, h02.alloc (by have := h02.size; omega) _⟩

set_option maxHeartbeats 4000000 in
set_option maxRecDepth 100000 in
theorem cright_no (w : World) : Calls Try.prog 43 #[.agg #[.int .u8 1, .int .i64 0, .string (St8 [])]] w fun e w' => e = .returned (.bool true) ∧ Below w.heap.size w w' := by
  have hS : St8 [] = ⟨#[]⟩ := rfl
  have hbx := Lib.hid (fun w' => box_no w')
  have hub := Lib.hid (fun w' => unbox_no w')
  go_enter Try.func43, Try.ntmps43
  go_wp2_with fail
  refine (hbx.out _).mono ?_
  rintro e w1 ⟨rfl, hb1⟩
  have h01 : Below w.heap.size w w1 := by
    have h0 : Below w.heap.size w (w.alloc (.cells #[.int .u8 1, .int .i64 0, .string (St8 [])] 49)) := by go_grown
    exact h0.trans (hb1.mono h0.size)
  have hk := (Blk.new w 49 #[.int .u8 1, .int .i64 0, .string (St8 [])]).below hb1
  have Hk := Lib.hid hk
  clear hb1 hk
  go_wp2_with fail
  refine (hub.out _).mono ?_
  rintro e w2 ⟨rfl, hb2⟩
  have h02 := h01.trans (hb2.mono h01.size)
  have hk2 := (Hk.out.below hb2).alloc (.cells #[.int .u8 1, .int .i64 0, .string ⟨#[]⟩] 49)
  have k0 := hk2.cell 0
  have k1 := hk2.cell 1
  have k2 := hk2.cell 2
  simp only [List.getElem?_cons_zero, List.getElem?_cons_succ] at k0 k1 k2
  clear hb2 h01 hk2
  go_wp2_with fail
  go_ret
  exact ⟨rfl, h02.alloc (by have := h02.size; omega) _⟩

set_option maxHeartbeats 4000000 in
set_option maxRecDepth 100000 in
theorem cright_yes (w : World) : Calls Try.prog 43 #[.agg #[.int .u8 1, .int .i64 1, .string (St8 [])]] w fun e w' => e = .returned (.bool true) ∧ Below w.heap.size w w' := by
  have hS : St8 [] = ⟨#[]⟩ := rfl
  have hbx := Lib.hid (fun w' => box_yes w')
  have hub := Lib.hid (fun w' => unbox_yes w')
  go_enter Try.func43, Try.ntmps43
  go_wp2_with fail
  refine (hbx.out _).mono ?_
  rintro e w1 ⟨rfl, hb1⟩
  have h01 : Below w.heap.size w w1 := by
    have h0 : Below w.heap.size w (w.alloc (.cells #[.int .u8 1, .int .i64 1, .string (St8 [])] 49)) := by go_grown
    exact h0.trans (hb1.mono h0.size)
  have hk := (Blk.new w 49 #[.int .u8 1, .int .i64 1, .string (St8 [])]).below hb1
  have Hk := Lib.hid hk
  clear hb1 hk
  go_wp2_with fail
  refine (hub.out _).mono ?_
  rintro e w2 ⟨rfl, hb2⟩
  have h02 := h01.trans (hb2.mono h01.size)
  have hk2 := (Hk.out.below hb2).alloc (.cells #[.int .u8 1, .int .i64 1, .string ⟨#[]⟩] 49)
  have k0 := hk2.cell 0
  have k1 := hk2.cell 1
  have k2 := hk2.cell 2
  simp only [List.getElem?_cons_zero, List.getElem?_cons_succ] at k0 k1 k2
  clear hb2 h01 hk2
  go_wp2_with fail
  go_ret
  exact ⟨rfl, h02.alloc (by have := h02.size; omega) _⟩

set_option maxHeartbeats 4000000 in
set_option maxRecDepth 100000 in
theorem cright_int (n : Int) (w : World) : Calls Try.prog 43 #[.agg #[.int .u8 2, .int .i64 n, .string (St8 [])]] w fun e w' => e = .returned (.bool true) ∧ Below w.heap.size w w' := by
  have hS : St8 [] = ⟨#[]⟩ := rfl
  have hbx := Lib.hid (fun w' => box_int n w')
  have hub := Lib.hid (fun w' => unbox_int n w')
  go_enter Try.func43, Try.ntmps43
  go_wp2_with fail
  refine (hbx.out _).mono ?_
  rintro e w1 ⟨rfl, hb1⟩
  have h01 : Below w.heap.size w w1 := by
    have h0 : Below w.heap.size w (w.alloc (.cells #[.int .u8 2, .int .i64 n, .string (St8 [])] 49)) := by go_grown
    exact h0.trans (hb1.mono h0.size)
  have hk := (Blk.new w 49 #[.int .u8 2, .int .i64 n, .string (St8 [])]).below hb1
  have Hk := Lib.hid hk
  clear hb1 hk
  go_wp2_with fail
  refine (hub.out _).mono ?_
  rintro e w2 ⟨rfl, hb2⟩
  have h02 := h01.trans (hb2.mono h01.size)
  have hk2 := (Hk.out.below hb2).alloc (.cells #[.int .u8 2, .int .i64 n, .string ⟨#[]⟩] 49)
  have k0 := hk2.cell 0
  have k1 := hk2.cell 1
  have k2 := hk2.cell 2
  simp only [List.getElem?_cons_zero, List.getElem?_cons_succ] at k0 k1 k2
  clear hb2 h01 hk2
  go_wp2_with fail
  go_ret
  exact ⟨rfl, h02.alloc (by have := h02.size; omega) _⟩

set_option maxHeartbeats 4000000 in
set_option maxRecDepth 100000 in
theorem cright_txt (s : List UInt8) (hl : s.length ≤ 1024) (w : World) : Calls Try.prog 43 #[.agg #[.int .u8 3, .int .i64 0, .string (St8 s)]] w fun e w' => e = .returned (.bool true) ∧ Below w.heap.size w w' := by
  have hS : St8 [] = ⟨#[]⟩ := rfl
  have hbx := Lib.hid (fun w' => box_txt s hl w')
  have hub := Lib.hid (fun w' => unbox_txt s hl w')
  go_enter Try.func43, Try.ntmps43
  go_wp2_with fail
  refine (hbx.out _).mono ?_
  rintro e w1 ⟨rfl, hb1⟩
  have h01 : Below w.heap.size w w1 := by
    have h0 : Below w.heap.size w (w.alloc (.cells #[.int .u8 3, .int .i64 0, .string (St8 s)] 49)) := by go_grown
    exact h0.trans (hb1.mono h0.size)
  have hk := (Blk.new w 49 #[.int .u8 3, .int .i64 0, .string (St8 s)]).below hb1
  have Hk := Lib.hid hk
  clear hb1 hk
  go_wp2_with fail
  refine (hub.out _).mono ?_
  rintro e w2 ⟨rfl, hb2⟩
  have h02 := h01.trans (hb2.mono h01.size)
  have hk2 := (Hk.out.below hb2).alloc (.cells #[.int .u8 3, .int .i64 0, .string (St8 s)] 49)
  have k0 := hk2.cell 0
  have k1 := hk2.cell 1
  have k2 := hk2.cell 2
  simp only [List.getElem?_cons_zero, List.getElem?_cons_succ] at k0 k1 k2
  clear hb2 h01 hk2
  go_wp2_with fail
  go_ret
  exact ⟨rfl, h02.alloc (by have := h02.size; omega) _⟩
end Go.Proofs.Ytheafcfbahdcfaa
