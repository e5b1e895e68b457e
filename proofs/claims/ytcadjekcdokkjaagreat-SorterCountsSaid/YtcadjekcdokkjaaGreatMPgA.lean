/- The walks of package crc: each function computes what the plain functions say, and turns nothing that was there. Pages as plain functions: what a page's bytes are, and a store's state as a list. How a store of package pages lies in memory, and what each write does to it. -/
import Derived.Test.YtcadjekcdokkjaaGreatMStSt
import Derived.Test.YtcadjekcdokkjaaGreatChecked
import Derived.Test.YtcadjekcdokkjaaGreatMBaCr
namespace Go.Proofs.YtcadjekcdokkjaaGreat
set_option linter.unusedVariables false
set_option linter.unusedSimpArgs false
open Go.RowKit
theorem crc_turn (n : Nat) (w : World) (h : n < 4294967296) :
  Calls Tryz.prog 137 #[.int .u32 (n : Int)] w fun e w' => e = .returned (.int .u32 (Crc.turn n : Nat)) ∧ w = w' := by
 go_enter Tryz.func137, Tryz.ntmps137
 go_wp2
 go_loop [0, 4] (fun x i => ∃ (k : Nat), k ≤ 8 ∧ i = .int .i64 k ∧ x = .int .u32 (Crc.turnN k n : Nat)) (fun _ i => 8 - (intOf i).toNat)
 case atStart => exact ⟨0, by omega, rfl, rfl⟩
 case round =>
  obtain ⟨k, hk, rfl, rfl⟩ := hrel
  have hm : Crc.turnN k n < 4294967296 := Crc.turnN_lt k h
  by_cases hlt : k < 8
  ·have hs := Lib.hid (Crc.turnN_succ k n)
   generalize Crc.turnN k n = m at *
   go_wp2
   go_round
   case rel =>
    refine ⟨k + 1, by omega, by go_num, ?_⟩
    rw [hs.out]
    unfold Crc.turn1
    have e1 : ((m : Int) * 2 % 4294967296) = ((m * 2 % 4294967296 : Nat) : Int) := by omega
    have e2 : ((m : Int) / 2147483648 * 2168537515) = ((m / 2147483648 * 2168537515 : Nat) : Int) := by omega
    rw [e1, e2, u32_xor_nat _ _ (by omega) (by omega)]
   case measure => simp [intOf]; omega
  ·obtain rfl : k = 8 := by omega
   go_wp2
   go_ret
   exact ⟨rfl, rfl⟩
theorem crc_zero (w : World) : (zeroValue 172).run Tryz.prog w = .ok (.agg (Crc.zrow 256 (.int .u32 0))) w := by kernel_rfl
set_option maxRecDepth 100000 in
theorem crc_made (w : World) :
  Calls Tryz.prog 124 #[] w fun e w' => e = .returned (.pointer (some ⟨w.heap.size, 0, none⟩)) ∧ w.alloc (.cells (Crc.row 256) 172) = w' := by
 have hz := fun w => crc_zero w
 rw [← Crc.row_zero] at hz
 go_enter Tryz.func124, Tryz.ntmps124
 go_wp2_with fail
 clear hz
 go_loopw [4] (fun i wr => ∃ (k : Nat), k ≤ 256 ∧ i = .int .i64 k ∧ wr = w.alloc (.cells (Crc.row k) 172)) (fun i _ => 256 - (intOf i).toNat)
 case atStart => exact ⟨0, by omega, rfl, rfl⟩
 case round =>
  obtain ⟨k, hk, rfl, rfl⟩ := hrel
  by_cases hlt : k < 256
  ·have hc := Crc.row_get k k hlt
   rw [if_neg (by omega)] at hc
   have hs := Lib.hid (Crc.row_set k hlt)
   generalize Crc.row k = R at *
   go_wp2_with fail
   have e0 : ((k : Int) * 16777216) = ((k * 16777216 : Nat) : Int) := by omega
   rw [e0]
   clear e0
   refine (crc_turn _ _ (by omega)).mono ?_
   rintro e w' ⟨rfl, rfl⟩
   go_wp2
   go_roundw
   case rel => exact ⟨k + 1, by omega, by go_num, by rw [← hs.out]; rfl⟩
   case measure => simp [intOf]; omega
  ·obtain rfl : k = 256 := by omega
   go_wp2
   go_ret
   exact ⟨rfl, rfl⟩
set_option maxRecDepth 100000 in
theorem crc_more (s0 : Nat) (A : Option Addr) (l : List UInt8) (c : Nat) (w : World) (h0 : s0 < 4294967296) (hr : Rd w A (Bs l)) (hl : l.length ≤ 140737488355328) :
  Calls Tryz.prog 108 #[.int .u32 (s0 : Int), .slice A l.length c] w fun e w' => e = .returned (.int .u32 (Crc.more s0 l : Nat)) ∧ w.alloc (.cells (Crc.row 256) 172) = w' := by
 go_enter Tryz.func108, Tryz.ntmps108
 go_wp2_with fail
 refine (crc_made _).mono ?_
 rintro e w' ⟨rfl, rfl⟩
 go_wp2_with fail
 go_loop [0, 11] (fun x i => ∃ (k : Nat), k ≤ l.length ∧ i = .int .i64 k ∧ x = .int .u32 (Crc.more s0 (l.take k) : Nat)) (fun _ i => l.length - (intOf i).toNat)
 case atStart => exact ⟨0, by omega, rfl, rfl⟩
 case round =>
  obtain ⟨k, hk, rfl, rfl⟩ := hrel
  have hm : Crc.more s0 (l.take k) < 4294967296 := Crc.more_lt _ h0
  by_cases hlt : k < l.length
  ·obtain ⟨b, o, rfl, hb, hrr, hc⟩ := hr.get (k := k) (by simpa using hlt)
   clear hr hrr
   have hs := Lib.hid (Crc.more_snoc s0 (l.take k) l[k])
   rw [List.getElem_map] at hc
   rw [← List.take_succ_eq_append_getElem hlt] at hs
   generalize hmm : Crc.more s0 (l.take k) = m at *
   clear hmm
   unfold Crc.byte at hs
   generalize l[k] = ch at *
   have hi := Crc.idx_lt hm ch
   have hcb := ch.toNat_lt
   have hcx : bits .xor .u8 ((m : Int) / 16777216) (ch.toNat : Int) = ((m / 16777216 ^^^ ch.toNat : Nat) : Int) := by
    rw [show ((m : Int) / 16777216) = ((m / 16777216 : Nat) : Int) from by omega]
    exact u8_xor_nat _ _ (by omega) (by omega)
   generalize (m / 16777216) ^^^ ch.toNat = x at *
   have hcell := Crc.row_get 256 x hi
   rw [if_pos hi] at hcell
   have htl := Crc.tab_lt hi
   generalize Crc.tab x = y at *
   have hxx : bits .xor .u32 ((m : Int) * 256 % 4294967296) (y : Int) = ((m * 256 % 4294967296 ^^^ y : Nat) : Int) := by
    rw [show ((m : Int) * 256 % 4294967296) = ((m * 256 % 4294967296 : Nat) : Int) from by omega]
    exact u32_xor_nat _ _ (by omega) htl
   unfold B at hc
   generalize Crc.row 256 = R at *
   go_wp2_with fail
   go_round
   case rel => exact ⟨k + 1, by omega, by go_num, by rw [hs.out]⟩
   case measure => simp [intOf]; omega
  ·obtain rfl : k = l.length := by omega
   go_wp2_with fail
   go_ret
   exact ⟨rfl, rfl⟩
theorem crc_of (A : Option Addr) (l : List UInt8) (c : Nat) (w : World) (hr : Rd w A (Bs l)) (hl : l.length ≤ 140737488355328) :
  Calls Tryz.prog 88 #[.slice A l.length c] w fun e w' => e = .returned (.int .u32 (Crc.of l : Nat)) ∧ w.alloc (.cells (Crc.row 256) 172) = w' := by
 go_enter Tryz.func88, Tryz.ntmps88
 go_wp2_with fail
 refine (crc_more 4294967295 A l c w (by omega) hr hl).mono ?_
 rintro e w' ⟨rfl, rfl⟩
 go_wp2_with fail
 go_ret
 exact ⟨rfl, rfl⟩
set_option maxRecDepth 100000 in
theorem crc_seal (A : Option Addr) (l : List UInt8) (n c : Nat) (w : World) (hn : l.length = n) (hr : Rd w A (Bs l)) (hl : n ≤ 1000000) :
  Calls Tryz.prog 70 #[.slice A n c] w fun e w' => ∃ A' c', e = .returned (.slice A' (n + 4) c') ∧ Own w' w.heap.size 5 1 A' (n + 4) c' (Bs (Crc.seal_ l)) ∧ Below w.heap.size w w' := by
 subst hn
 have hs := Crc.of_lt l
 go_enter Tryz.func70, Tryz.ntmps70
 go_wp2_with fail
 refine (crc_of A l c w hr (by omega)).mono ?_
 rintro e w' ⟨rfl, rfl⟩
 have hb0 : Below w.heap.size w (w.alloc (.cells (Crc.row 256) 172)) := (Below.refl _ _).alloc (Nat.le_refl _) _
 generalize w.alloc (.cells (Crc.row 256) 172) = w0 at *
 have hz0 := hb0.size
 go_wp2_with (first | (at_builtin; refine hold ?_) | (at_make; refine hold ?_))
 (with_reducible refine unhold ?_)
 refine wpList_mk0 rfl _ _ _ rfl E8 w.heap.size _ _ _ (l.length + 4) rfl rfl (by omega) (by omega) (by unfold maxLen; omega) hb0.size ?_
 intro w1 ho1 hb1 hlt1
 have hb01 := hb0.trans (hb1.mono hz0)
 have hr1 : Rd w1 A (Bs l) := hr.below hb01
 have hz1 := hb01.size
 go_wp2_with (first | (at_builtin; refine hold ?_) | (at_make; refine hold ?_))
 (with_reducible refine unhold ?_)
 refine wpList_apd rfl _ _ _ rfl E8 w.heap.size _ 0 _ [] rfl ho1 A l.length c (Bs l) rfl (by simp) hr1 (Bs_one l) l.length (by omega) (Bs l) rfl (by omega) (by omega) hz1 ?_
 intro A2 c2 w2 ho2 hg2 hat2
 have hb2 : Below w.heap.size w w2 := hb01.grown hg2 hz1 ho1.row_ge
 have hz2 := hb2.size
 go_wp2_with (first | (at_builtin; refine hold ?_) | (at_make; refine hold ?_))
 (with_reducible refine unhold ?_)
 refine wpList_apd rfl _ _ _ rfl E8 w.heap.size A2 l.length c2 (Bs l) rfl (ho2.alloc _) _ 4 _ _ rfl (by rfl) (Rd.new _ _ _) (by simp [Value.oneCell']) (l.length + 4) rfl (Bs (Crc.seal_ l)) ?_ (by omega) (by omega) (by simp; omega) ?_
 ·exact Crc.seal_cells l
 intro A3 c3 w3 ho3 hg3 hat3
 have hb3 : Below w.heap.size w w3 := (hb2.alloc hz2 _).grown hg3 (by simp; omega) (fun k hk => ho2.row_ge k hk)
 go_wp2_with fail
 go_ret
 exact ⟨A3, c3, rfl, ho3, hb3⟩
end Go.Proofs.YtcadjekcdokkjaaGreat
namespace Go.Proofs.YtcadjekcdokkjaaGreat
set_option linter.unusedVariables false
set_option linter.unusedSimpArgs false
namespace Pg
def front (id : Nat) (l : List UInt8) : List UInt8 := l ++ List.replicate (56 - l.length) 0 ++ [Crc.part id 3, Crc.part id 2, Crc.part id 1, Crc.part id 0]
def page (id : Nat) (l : List UInt8) : List UInt8 := Crc.seal_ (front id l)
theorem length_front (id : Nat) {l : List UInt8} (h : l.length ≤ 56) : (front id l).length = 60 := by simp [front]; omega
theorem length_page (id : Nat) {l : List UInt8} (h : l.length ≤ 56) : (page id l).length = 64 := by rw [page, Crc.length_seal, length_front id h]
theorem front_cells (id : Nat) (l : List UInt8) (h : id < 4294967296) :
  Bs (l ++ List.replicate (56 - l.length) 0) ++ [.int .u8 ((id : Int) / 16777216), .int .u8 ((id : Int) / 65536 % 256), .int .u8 ((id : Int) / 256 % 256), .int .u8 ((id : Int) % 256)] = Bs (front id l) := by
 unfold front
 simp only [List.map_append, List.map_cons, List.map_nil, B, Crc.part_toNat]
 have e3 : ((id : Int) / 16777216) = ((id / 256 ^ 3 % 256 : Nat) : Int) := by omega
 have e2 : ((id : Int) / 65536 % 256) = ((id / 256 ^ 2 % 256 : Nat) : Int) := by omega
 have e1 : ((id : Int) / 256 % 256) = ((id / 256 ^ 1 % 256 : Nat) : Int) := by omega
 have e0 : ((id : Int) % 256) = ((id / 256 ^ 0 % 256 : Nat) : Int) := by omega
 rw [e3, e2, e1, e0]
theorem set4 (pre : List Value) (h : pre.length = 56) (x a b c d : Value) : ((((pre ++ [x, x, x, x]).set 59 d).set 58 c).set 57 b).set 56 a = pre ++ [a, b, c, d] := by
 rw [List.set_append_right _ _ (by omega), List.set_append_right _ _ (by omega), List.set_append_right _ _ (by omega), List.set_append_right _ _ (by omega), h]
 rfl
abbrev St := List (Option (List UInt8))
def used (s : St) : Nat := s.countP Option.isSome
def at_ (s : St) (i : Int) : Option (List UInt8) := if 0 ≤ i then (s[i.toNat]?).join else none
def isFree (s : St) (i : Nat) : Bool := s[i]? == some none
def ids (s : St) (n : Nat) : List Nat := ((List.range s.length).filter (isFree s)).take n
def fill (s : St) (l : List Nat) : St := l.foldl (fun s i => s.set i (some (page i []))) s
def flip (l : List UInt8) (k : Nat) (m : UInt8) : List UInt8 := l.set k (l.getD k 0 ^^^ m)
theorem used_le (s : St) : used s ≤ s.length := List.countP_le_length
theorem at_some {s : St} {i : Int} {l : List UInt8} (h : at_ s i = some l) : 0 ≤ i ∧ i.toNat < s.length ∧ s[i.toNat]? = some (some l) := by
 unfold at_ at h
 split at h
 ·rename_i h0
  cases e : s[i.toNat]? with
  | none => rw [e] at h; cases h
  | some o =>
   rw [e] at h
   obtain rfl : o = some l := h
   exact ⟨h0, (List.getElem?_eq_some_iff.1 e).1, rfl⟩
 ·cases h
theorem at_nat (s : St) (i : Nat) : at_ s i = (s[i]?).join := by simp [at_]
theorem at_none {s : St} {i : Int} (h : at_ s i = none) (h0 : 0 ≤ i) (h1 : i.toNat < s.length) : s[i.toNat]? = some none := by
 unfold at_ at h
 rw [if_pos h0] at h
 rw [List.getElem?_eq_getElem h1] at h ⊢
 cases e : s[i.toNat] with
 | none => rfl
 | some l => rw [e] at h; cases h
theorem length_fill : ∀ (l : List Nat) (s : St), (fill s l).length = s.length
 | [], _ => rfl
 | i :: l, s => by rw [fill, List.foldl_cons]; exact (length_fill l _).trans (List.length_set ..)
theorem fill_snoc (s : St) (l : List Nat) (i : Nat) : fill s (l ++ [i]) = (fill s l).set i (some (page i [])) := by simp [fill]
def upTo (s : St) (k : Nat) : List Nat := (List.range k).filter (isFree s)
theorem upTo_succ (s : St) (k : Nat) : upTo s (k + 1) = upTo s k ++ if isFree s k then [k] else [] := by
 unfold upTo
 rw [List.range_succ, List.filter_append]
 by_cases h : isFree s k = true <;> simp [h]
theorem upTo_lt {s : St} {k i : Nat} (h : i ∈ upTo s k) : i < k := by simpa using (List.mem_filter.1 h).1
theorem fill_get : ∀ (l : List Nat) (s : St) (k : Nat), k ∉ l → (fill s l)[k]? = s[k]?
 | [], _, _, _ => rfl
 | i :: l, s, k, h => by
  rw [fill, List.foldl_cons]
  refine (fill_get l _ k (fun m => h (List.mem_cons_of_mem _ m))).trans ?_
  rw [List.getElem?_set_ne (fun e => h (by rw [e]; exact List.mem_cons_self))]
theorem upTo_len (s : St) : ∀ k, k ≤ s.length → (upTo s k).length = k - (s.take k).countP Option.isSome ∧ (s.take k).countP Option.isSome ≤ k
 | 0, _ => by simp [upTo]
 | k + 1, h => by
  obtain ⟨h1, h2⟩ := upTo_len s k (by omega)
  rw [upTo_succ, List.length_append, h1, List.take_succ_eq_append_getElem (by omega), List.countP_append]
  unfold isFree
  rw [List.getElem?_eq_getElem (by omega)]
  cases e : s[k] with
  | none => simp; omega
  | some l => simp; omega
theorem upTo_all (s : St) : (upTo s s.length).length = s.length - used s := by
 have h := (upTo_len s s.length (Nat.le_refl _)).1
 rwa [List.take_length] at h
theorem upTo_pre (s : St) {k m : Nat} (h : k ≤ m) : upTo s k <+: upTo s m := by
 obtain ⟨d, rfl⟩ := Nat.exists_eq_add_of_le h
 clear h
 induction d with
 | zero => exact List.prefix_refl _
 | succ d ih =>
  rw [← Nat.add_assoc, upTo_succ]
  exact ih.trans (List.prefix_append _ _)
theorem upTo_ids {s : St} {k n : Nat} (hk : k ≤ s.length) (hn : (upTo s k).length = n) : upTo s k = ids s n := by
 have h := upTo_pre s hk
 rw [List.prefix_iff_eq_take, hn] at h
 exact h
theorem length_ids {s : St} {n : Nat} (h : n ≤ s.length - used s) : (ids s n).length = n := by
 have := upTo_all s
 unfold upTo at this
 unfold ids
 rw [List.length_take]
 omega
theorem fill_free (s : St) {k i : Nat} (h : k ≤ i) : (fill s (upTo s k))[i]? = s[i]? := fill_get _ s i (fun m => by have := upTo_lt m; omega)
theorem used_set {s : St} {i : Nat} {l : List UInt8} (h : s[i]? = some none) : used (s.set i (some l)) = used s + 1 := by
 have hi : i < s.length := (List.getElem?_eq_some_iff.1 h).1
 have he : s[i] = none := by rw [List.getElem?_eq_getElem hi] at h; exact Option.some.inj h
 unfold used
 rw [List.countP_set hi, he]
 simp
theorem used_same {s : St} {i : Nat} {l m : List UInt8} (h : s[i]? = some (some m)) : used (s.set i (some l)) = used s := by
 have hi : i < s.length := (List.getElem?_eq_some_iff.1 h).1
 have he : s[i] = some m := by rw [List.getElem?_eq_getElem hi] at h; exact Option.some.inj h
 have hp : 0 < s.countP Option.isSome := List.countP_pos_iff.2 ⟨some m, he ▸ List.getElem_mem hi, rfl⟩
 unfold used
 rw [List.countP_set hi, he]
 simp
 omega
theorem used_drop {s : St} {i : Nat} {m : List UInt8} (h : s[i]? = some (some m)) : used (s.set i none) + 1 = used s := by
 have hi : i < s.length := (List.getElem?_eq_some_iff.1 h).1
 have he : s[i] = some m := by rw [List.getElem?_eq_getElem hi] at h; exact Option.some.inj h
 have hp : 0 < s.countP Option.isSome := List.countP_pos_iff.2 ⟨some m, he ▸ List.getElem_mem hi, rfl⟩
 unfold used
 rw [List.countP_set hi, he]
 simp
 omega
theorem used_upTo (s : St) : ∀ k, k ≤ s.length → used (fill s (upTo s k)) = used s + (upTo s k).length
 | 0, _ => by simp [upTo, fill]
 | k + 1, h => by
  have ih := used_upTo s k (by omega)
  rw [upTo_succ]
  by_cases hf : isFree s k = true
  ·have hsk : s[k]? = some none := by simpa [isFree] using hf
   rw [if_pos hf, fill_snoc, used_set ((fill_free s (Nat.le_refl k)).trans hsk), ih, List.length_append]
   rfl
  ·rw [if_neg hf, List.append_nil]
   exact ih
theorem upTo_find (s : St) : ∀ (m n : Nat), n ≤ (upTo s m).length → ∃ k, k ≤ m ∧ (upTo s k).length = n
 | 0, n, h => ⟨0, Nat.le_refl _, by simp [upTo] at h ⊢; exact h.symm⟩
 | m + 1, n, h => by
  by_cases hn : n ≤ (upTo s m).length
  ·obtain ⟨k, hk, e⟩ := upTo_find s m n hn
   exact ⟨k, by omega, e⟩
  ·refine ⟨m + 1, Nat.le_refl _, ?_⟩
   rw [upTo_succ, List.length_append] at h ⊢
   split at h <;> rename_i hf
   ·rw [if_pos hf]
    simp only [List.length_cons, List.length_nil] at h ⊢
    omega
   ·simp only [List.length_nil] at h
    omega
theorem ids_upTo {s : St} {n : Nat} (h : n ≤ s.length - used s) : ∃ k, k ≤ s.length ∧ ids s n = upTo s k ∧ (upTo s k).length = n := by
 obtain ⟨k, hk, e⟩ := upTo_find s s.length n (by rw [upTo_all]; exact h)
 exact ⟨k, hk, (upTo_ids hk e).symm, e⟩
theorem used_fill {s : St} {n : Nat} (h : n ≤ s.length - used s) : used (fill s (ids s n)) = used s + n := by
 obtain ⟨k, hk, e, el⟩ := ids_upTo h
 rw [e, used_upTo s k hk, el]
theorem mem_ids {s : St} {n i : Nat} (h : i ∈ ids s n) : i < s.length ∧ s[i]? = some none := by
 have := List.mem_filter.1 (List.mem_of_mem_take h)
 exact ⟨by simpa using this.1, by simpa [isFree] using this.2⟩
theorem nodup_ids (s : St) (n : Nat) : (ids s n).Nodup := (List.nodup_range.filter _).sublist (List.take_sublist ..)
theorem fill_at : ∀ (l : List Nat) (s : St) (i : Nat), i ∈ l → i < s.length → (fill s l)[i]? = some (some (page i []))
 | j :: l, s, i, h, hi => by
  by_cases hm : i ∈ l
  ·rw [fill, List.foldl_cons]
   exact fill_at l _ i hm (by simpa using hi)
  ·have e : i = j := by
    rcases List.mem_cons.1 h with h | h
    ·exact h
    ·exact absurd h hm
   subst e
   rw [fill, List.foldl_cons]
   refine (fill_get l _ i hm).trans ?_
   rw [List.getElem?_set_self hi]
def need (n : Nat) : Nat := if n < 1 then 0 else (n - 1) / 56 + 1
def lays : St → List Nat → List UInt8 → St
 | s, [], _ => s
 | s, i :: l, b => lays (s.set i (some (page i (b.take 56)))) l (b.drop 56)
theorem lays_snoc : ∀ (l : List Nat) (s : St) (b : List UInt8) (i : Nat), lays s (l ++ [i]) b = (lays s l b).set i (some (page i ((b.drop (56 * l.length)).take 56)))
 | [], s, b, i => by simp [lays]
 | j :: l, s, b, i => by
  rw [List.cons_append, lays, lays_snoc l, lays, List.length_cons, List.drop_drop, show 56 * (l.length + 1) = 56 + 56 * l.length from by omega]
theorem length_lays : ∀ (l : List Nat) (s : St) (b : List UInt8), (lays s l b).length = s.length
 | [], _, _ => rfl
 | i :: l, s, b => by rw [lays, length_lays l, List.length_set]
theorem lays_get : ∀ (l : List Nat) (s : St) (b : List UInt8) (k : Nat), k ∉ l → (lays s l b)[k]? = s[k]?
 | [], _, _, _, _ => rfl
 | i :: l, s, b, k, h => by
  rw [lays, lays_get l _ _ k (fun m => h (List.mem_cons_of_mem _ m)), List.getElem?_set_ne (fun e => h (by rw [e]; exact List.mem_cons_self))]
theorem lays_taken : ∀ (l : List Nat) (s : St) (b : List UInt8) (k : Nat) (m : List UInt8), s[k]? = some (some m) → ∃ m', (lays s l b)[k]? = some (some m')
 | [], _, _, _, m, h => ⟨m, h⟩
 | i :: l, s, b, k, m, h => by
  rw [lays]
  by_cases e : i = k
  ·subst e
   exact lays_taken l _ _ i _ (List.getElem?_set_self (List.getElem?_eq_some_iff.1 h).1)
  ·exact lays_taken l _ _ k m ((List.getElem?_set_ne e).trans h)
theorem used_lays : ∀ (l : List Nat) (s : St) (b : List UInt8), (∀ i ∈ l, ∃ m, s[i]? = some (some m)) → used (lays s l b) = used s
 | [], _, _, _ => rfl
 | i :: l, s, b, h => by
  obtain ⟨m, hm⟩ := h i List.mem_cons_self
  rw [lays, used_lays l, used_same hm]
  intro j hj
  by_cases e : i = j
  ·subst e
   exact ⟨_, List.getElem?_set_self (List.getElem?_eq_some_iff.1 hm).1⟩
  ·obtain ⟨m', hm'⟩ := h j (List.mem_cons_of_mem _ hj)
   exact ⟨m', (List.getElem?_set_ne e).trans hm'⟩
theorem need_lt {n k : Nat} (h : k < need n) : 56 * k < n := by
 unfold need at h
 split at h <;> omega
/-! The methods as functions of the pages. -/
def freeE (s : St) (i : Int) : Int := match at_ s i with | none => 2 | some _ => 0
def freeS (s : St) (i : Int) : St := match at_ s i with | none => s | some _ => s.set i.toNat none
def dropS (s : St) (l : List Int) : St := l.foldl freeS s
def allocE (s : St) (n : Int) : Int := if n < 0 then 1 else if (s.length : Int) - used s < n then 4 else 0
def allocL (s : St) (n : Int) : List Nat := if allocE s n = 0 then ids s n.toNat else []
def allocS (s : St) (n : Int) : St := if allocE s n = 0 then fill s (ids s n.toNat) else s
def putL (s : St) (b : List UInt8) : List Nat := allocL s (need b.length : Nat)
def putE (s : St) (b : List UInt8) : Int := allocE s (need b.length : Nat)
def putS (s : St) (b : List UInt8) : St := lays (allocS s (need b.length : Nat)) (putL s b) b
theorem length_freeS (s : St) (i : Int) : (freeS s i).length = s.length := by unfold freeS; split <;> simp
theorem length_dropS : ∀ (l : List Int) (s : St), (dropS s l).length = s.length
 | [], _ => rfl
 | i :: l, s => (length_dropS l (freeS s i)).trans (length_freeS s i)
theorem length_allocS (s : St) (n : Int) : (allocS s n).length = s.length := by unfold allocS; split <;> simp [length_fill]
theorem dropS_snoc (s : St) (l : List Int) (i : Int) : dropS s (l ++ [i]) = freeS (dropS s l) i := by simp [dropS]
end Pg
end Go.Proofs.YtcadjekcdokkjaaGreat
namespace Go.Proofs.YtcadjekcdokkjaaGreat
set_option linter.unusedVariables false
set_option linter.unusedSimpArgs false
open Go.RowKit
def ptrV (q : Option Nat) : Value := .pointer (q.map fun g => ⟨g, 0, none⟩)
def ptrAt (qs : List (Option Nat)) (i : Int) : Option Nat := if 0 ≤ i then (qs[i.toNat]?).join else none
theorem ptrAt_out {qs : List (Option Nat)} {i : Int} (h : i < 0 ∨ (qs.length : Int) ≤ i) : ptrAt qs i = none := by
 unfold ptrAt
 split
 ·rw [List.getElem?_eq_none (by omega)]
  rfl
 ·rfl
theorem ptrAt_in {qs : List (Option Nat)} {k : Nat} (_h : k < qs.length) : ptrAt qs (k : Int) = qs.getD k none := by
 unfold ptrAt
 rw [if_pos (by omega), Int.toNat_natCast, List.getD]
 cases qs[k]? <;> rfl
abbrev StT : List TypeId := [72, 88, 105]
structure StoAt (w : World) (B bs bp : Nat) (qs : List (Option Nat)) (s : Pg.St) (u : Int) : Prop where
 hs : B ≤ bs
 hp : B ≤ bp
 st : Blk w bs 72 [.slice (some ⟨bp, 0, none⟩) s.length s.length, .int .i64 u]
 row : Blk w bp 88 (qs.map ptrV)
 len : qs.length = s.length
 most : s.length ≤ 4096
 some_ : ∀ (i : Nat) (l : List UInt8), s[i]? = some (some l) → ∃ g, qs[i]? = some (some g) ∧ B ≤ g ∧ Blk w g 105 (Bs l) ∧ l.length = 64
 none_ : ∀ (i : Nat), s[i]? = some none → qs[i]? = some none
 inj : ∀ (i j g : Nat), qs[i]? = some (some g) → qs[j]? = some (some g) → i = j
namespace StoAt
variable {w w' : World} {B bs bp : Nat} {qs : List (Option Nat)} {s : Pg.St} {u : Int}
theorem keep (h : StoAt w B bs bp qs s u) (hb : ∀ (k : Nat) (o : Obj), w.heap[k]? = some o → w'.heap[k]? = some o) : StoAt w' B bs bp qs s u := by
 have hk : ∀ g t xs, Blk w g t xs → Blk w' g t xs := fun g t xs hh => hb _ _ hh
 refine ⟨h.hs, h.hp, hk _ _ _ h.st, hk _ _ _ h.row, h.len, h.most, fun i l hi => ?_, h.none_, h.inj⟩
 obtain ⟨g, h1, h2, h3, h4⟩ := h.some_ i l hi
 exact ⟨g, h1, h2, hk _ _ _ h3, h4⟩
theorem below (h : StoAt w B bs bp qs s u) (hb : Below w.heap.size w w') : StoAt w' B bs bp qs s u :=
 h.keep fun k o e => by rw [hb.block k (Array.getElem?_eq_some_iff.1 e).1, e]
theorem keeps {T : List TypeId} {B' : Nat} (h : StoAt w B bs bp qs s u) (hk : Keeps T B' w w') (hT : ∀ t ∈ StT, t ∉ T) : StoAt w' B bs bp qs s u := by
 refine ⟨h.hs, h.hp, h.st.keeps (hT _ (by simp)) hk, h.row.keeps (hT _ (by simp)) hk, h.len, h.most, fun i l hi => ?_, h.none_, h.inj⟩
 obtain ⟨g, h1, h2, h3, h4⟩ := h.some_ i l hi
 exact ⟨g, h1, h2, h3.keeps (hT _ (by simp)) hk, h4⟩
theorem drewN (h : StoAt w B bs bp qs s u) (n : Nat) : StoAt (w.drewN n) B bs bp qs s u := h.keep fun _ _ e => e
theorem cell_ptr (h : StoAt w B bs bp qs s u) {i : Nat} (hi : i < s.length) : w.cell? ⟨bp, i, none⟩ = some (ptrV (qs.getD i none)) := by
 have hl := h.len
 rw [h.row.cell, List.getElem?_map, List.getElem?_eq_getElem (by omega)]
 simp [List.getD, List.getElem?_eq_getElem (show i < qs.length by omega)]
theorem ptr_none (h : StoAt w B bs bp qs s u) {i : Int} (hi : Pg.at_ s i = none) : ptrAt qs i = none := by
 have hl := h.len
 by_cases h0 : 0 ≤ i
 ·by_cases h1 : i.toNat < s.length
  ·have := h.none_ _ (Pg.at_none hi h0 h1)
   unfold ptrAt
   rw [if_pos h0, this]
   rfl
  ·exact ptrAt_out (.inr (by omega))
 ·exact ptrAt_out (.inl (by omega))
theorem ptr_some (h : StoAt w B bs bp qs s u) {i : Int} {l : List UInt8} (hi : Pg.at_ s i = some l) :
  ∃ k g, i = (k : Nat) ∧ k < s.length ∧ s[k]? = some (some l) ∧ qs[k]? = some (some g) ∧ ptrAt qs i = some g ∧ B ≤ g ∧ Blk w g 105 (Bs l) ∧ l.length = 64 := by
 obtain ⟨h0, h1, h2⟩ := Pg.at_some hi
 obtain ⟨g, q, b, k, hl⟩ := h.some_ _ _ h2
 refine ⟨i.toNat, g, by omega, h1, h2, q, ?_, b, k, hl⟩
 unfold ptrAt
 rw [if_pos h0, q]
 rfl
theorem ne1 (h : StoAt w B bs bp qs s u) : bs ≠ bp := h.st.ne_of_type h.row (by decide)
theorem put (h : StoAt w B bs bp qs s u) {i g : Nat} {l : List UInt8} (hi : i < s.length) (hg : B ≤ g) (hk : Blk w g 105 (Bs l)) (hl : l.length = 64) (hn : ∀ j : Nat, qs[j]? ≠ some (some g)) :
  StoAt (w.setCell ⟨bp, i, none⟩ (ptrV (some g))) B bs bp (qs.set i (some g)) (s.set i (some l)) u := by
 have hlen := h.len
 refine ⟨h.hs, h.hp, ?_, ?_, by simpa using hlen, by simpa using h.most, fun j m hj => ?_, fun j hj => ?_, fun j k g' hj hk' => ?_⟩
 ·have := h.st.far (p := ⟨bp, i, none⟩) h.ne1 (ptrV (some g))
  simpa using this
 ·rw [List.map_set]
  exact h.row.set_ i _
 ·rw [List.getElem?_set] at hj
  by_cases e : i = j
  ·subst e
   rw [if_pos rfl, if_pos hi] at hj
   injection hj with hj
   injection hj with hj
   subst hj
   exact ⟨g, by rw [List.getElem?_set_self (by omega)], hg, hk.far (p := ⟨bp, i, none⟩) (hk.ne_of_type h.row (by decide)) _, hl⟩
  ·rw [if_neg e] at hj
   obtain ⟨g', h1, h2, h3, h4⟩ := h.some_ j m hj
   exact ⟨g', by rw [List.getElem?_set_ne e, h1], h2, h3.far (p := ⟨bp, i, none⟩) (h3.ne_of_type h.row (by decide)) _, h4⟩
 ·rw [List.getElem?_set] at hj
  by_cases e : i = j
  ·subst e
   rw [if_pos rfl, if_pos hi] at hj
   cases hj
  ·rw [if_neg e] at hj
   rw [List.getElem?_set_ne e]
   exact h.none_ j hj
 ·rw [List.getElem?_set] at hj hk'
  by_cases e : i = j <;> by_cases e' : i = k
  ·omega
  ·rw [if_pos e, if_pos (by omega)] at hj
   rw [if_neg e'] at hk'
   injection hj with hj
   injection hj with hj
   subst hj
   exact absurd hk' (hn k)
  ·rw [if_neg e] at hj
   rw [if_pos e', if_pos (by omega)] at hk'
   injection hk' with hk'
   injection hk' with hk'
   subst hk'
   exact absurd hj (hn j)
  ·rw [if_neg e] at hj
   rw [if_neg e'] at hk'
   exact h.inj j k g' hj hk'
theorem drop (h : StoAt w B bs bp qs s u) {i : Nat} (hi : i < s.length) :
  StoAt (w.setCell ⟨bp, i, none⟩ (ptrV none)) B bs bp (qs.set i none) (s.set i none) u := by
 have hlen := h.len
 refine ⟨h.hs, h.hp, ?_, ?_, by simpa using hlen, by simpa using h.most, fun j m hj => ?_, fun j hj => ?_, fun j k g' hj hk' => ?_⟩
 ·have := h.st.far (p := ⟨bp, i, none⟩) h.ne1 (ptrV none)
  simpa using this
 ·rw [List.map_set]
  exact h.row.set_ i _
 ·rw [List.getElem?_set] at hj
  by_cases e : i = j
  ·subst e
   rw [if_pos rfl, if_pos hi] at hj
   cases hj
  ·rw [if_neg e] at hj
   obtain ⟨g', h1, h2, h3, h4⟩ := h.some_ j m hj
   exact ⟨g', by rw [List.getElem?_set_ne e, h1], h2, h3.far (p := ⟨bp, i, none⟩) (h3.ne_of_type h.row (by decide)) _, h4⟩
 ·rw [List.getElem?_set] at hj ⊢
  by_cases e : i = j
  ·subst e
   rw [if_pos rfl, if_pos (by omega)]
  ·rw [if_neg e] at hj ⊢
   exact h.none_ j hj
 ·rw [List.getElem?_set] at hj hk'
  by_cases e : i = j <;> by_cases e' : i = k
  ·omega
  ·rw [if_pos e, if_pos (by omega)] at hj
   cases hj
  ·rw [if_pos e', if_pos (by omega)] at hk'
   cases hk'
  ·rw [if_neg e] at hj
   rw [if_neg e'] at hk'
   exact h.inj j k g' hj hk'
theorem count (h : StoAt w B bs bp qs s u) (u' : Int) : StoAt (w.setCell ⟨bs, 1, none⟩ (.int .i64 u')) B bs bp qs s u' := by
 refine ⟨h.hs, h.hp, h.st.set_ 1 _, h.row.far (p := ⟨bs, 1, none⟩) (Ne.symm h.ne1) _, h.len, h.most, fun i l hi => ?_, h.none_, h.inj⟩
 obtain ⟨g, h1, h2, h3, h4⟩ := h.some_ i l hi
 exact ⟨g, h1, h2, h3.far (p := ⟨bs, 1, none⟩) (h3.ne_of_type h.st (by decide)) _, h4⟩
theorem byte (h : StoAt w B bs bp qs s u) {i g k : Nat} {l : List UInt8} (hi : s[i]? = some (some l)) (hq : qs[i]? = some (some g)) (c : UInt8) :
  StoAt (w.setCell ⟨g, k, none⟩ (YtcadjekcdokkjaaGreat.B c)) B bs bp qs (s.set i (some (l.set k c))) u := by
 have hlt : i < s.length := (List.getElem?_eq_some_iff.1 hi).1
 obtain ⟨g0, q0, b0, k0, l0⟩ := h.some_ i l hi
 rw [hq] at q0
 injection q0 with q0
 injection q0 with q0
 subst q0
 refine ⟨h.hs, h.hp, ?_, h.row.far (p := ⟨g, k, none⟩) (h.row.ne_of_type k0 (by decide)) _, by simpa using h.len, by simpa using h.most, fun j m hj => ?_, fun j hj => ?_, h.inj⟩
 ·have := h.st.far (p := ⟨g, k, none⟩) (h.st.ne_of_type k0 (by decide)) (YtcadjekcdokkjaaGreat.B c)
  simpa using this
 ·rw [List.getElem?_set] at hj
  by_cases e : i = j
  ·subst e
   rw [if_pos rfl, if_pos hlt] at hj
   injection hj with hj
   injection hj with hj
   subst hj
   refine ⟨g, hq, b0, ?_, by simpa using l0⟩
   have := k0.set_ k (YtcadjekcdokkjaaGreat.B c)
   rwa [← List.map_set] at this
  ·rw [if_neg e] at hj
   obtain ⟨g', h1, h2, h3, h4⟩ := h.some_ j m hj
   refine ⟨g', h1, h2, h3.far (p := ⟨g, k, none⟩) (fun eg => e ?_) _, h4⟩
   subst eg
   exact h.inj i j g' hq h1
 ·rw [List.getElem?_set] at hj
  by_cases e : i = j
  ·subst e
   rw [if_pos rfl, if_pos hlt] at hj
   cases hj
  ·rw [if_neg e] at hj
   exact h.none_ j hj
theorem fresh (h : StoAt w B bs bp qs s u) {g : Nat} (hg : w.heap.size ≤ g) : ∀ j : Nat, qs[j]? ≠ some (some g) := by
 intro j hj
 have hl := h.len
 have hlt : j < qs.length := (List.getElem?_eq_some_iff.1 hj).1
 cases e : s[j]? with
 | none => rw [List.getElem?_eq_none_iff] at e; omega
 | some o =>
  cases o with
  | none => rw [h.none_ j e] at hj; cases hj
  | some l =>
   obtain ⟨g', h1, _, h3, _⟩ := h.some_ j l e
   rw [h1] at hj
   injection hj with hj
   injection hj with hj
   subst hj
   have := h3.lt
   omega
end StoAt
def Sto (w : World) (B bs : Nat) (s : Pg.St) : Prop := ∃ bp qs, StoAt w B bs bp qs s (Pg.used s)
theorem Sto.below {w w' : World} {B bs : Nat} {s : Pg.St} (h : Sto w B bs s) (hb : Below w.heap.size w w') : Sto w' B bs s := by
 obtain ⟨bp, qs, h⟩ := h
 exact ⟨bp, qs, h.below hb⟩
theorem Sto.keeps {w w' : World} {B bs : Nat} {s : Pg.St} {T : List TypeId} {B' : Nat} (h : Sto w B bs s) (hk : Keeps T B' w w') (hT : ∀ t ∈ StT, t ∉ T) : Sto w' B bs s := by
 obtain ⟨bp, qs, h⟩ := h
 exact ⟨bp, qs, h.keeps hk hT⟩
theorem Sto.drewN {w : World} {B bs : Nat} {s : Pg.St} (h : Sto w B bs s) (n : Nat) : Sto (w.drewN n) B bs s := by
 obtain ⟨bp, qs, h⟩ := h
 exact ⟨bp, qs, h.drewN n⟩
end Go.Proofs.YtcadjekcdokkjaaGreat
