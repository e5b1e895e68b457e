/- The walks of the reference's store of pages. -/
import Derived.Test.YtjjmnjgkodiibaaRStS
namespace Go.Proofs.Ytjjmnjgkodiibaa
open Go.RowKit

attribute [local go_sem ↓] Go.wp_at_zero Go.wp_at_succ

theorem rnew_no (m : Int) (w : World) (h : m < 0 ∨ 4096 < m) (h1 : -9223372036854775808 ≤ m) (h2 : m ≤ 9223372036854775807) :
    Calls Try.prog 19 #[.int .i64 m] w fun e w' => e = .returned (.tuple #[.pointer none, .int .i64 1]) ∧ w = w' := by
  rcases h with h | h
  · go_enter Try.func19, Try.ntmps19
    go_wp2
    go_ret2
    exact ⟨rfl, rfl⟩
  · go_enter Try.func19, Try.ntmps19
    go_wp2
    go_ret2
    exact ⟨rfl, rfl⟩

theorem madeCells_two (a b : Value) : ∀ n : Nat, (madeCells #[a, b] (n * 2)).toList = (List.replicate n [a, b]).flatten
  | 0 => by simp [madeCells]
  | n + 1 => by
    have ih := madeCells_two a b n
    unfold madeCells at *
    rw [Array.toList_map, Array.toList_range] at *
    rw [show (n + 1) * 2 = n * 2 + 1 + 1 from by omega, List.range_succ, List.range_succ, List.map_append, List.map_append, ih, List.replicate_succ', List.flatten_append]
    simp [show (n * 2 + 1) % 2 = 1 from by omega]
theorem rows_new (n : Nat) : (madeCells #[.bool false, .string ⟨#[]⟩] (n * 2)).toList = Pg.rows (List.replicate n none) := by
  rw [madeCells_two]
  unfold Pg.rows
  rw [List.flatMap_replicate]
  rfl

theorem rnew_yes (n : Nat) (w : World) (h : n ≤ 4096) :
    Calls Try.prog 19 #[.int .i64 (n : Int)] w fun e w' => ∃ bs, e = .returned (.tuple #[.pointer (some ⟨bs, 0, none⟩), .int .i64 0]) ∧ RSto w' w.heap.size bs (List.replicate n none) ∧ Below w.heap.size w w' := by
  go_enter Try.func19, Try.ntmps19
  go_wp2_with (first | (at_builtin; refine hold ?_) | (at_make; refine hold ?_))
  (with_reducible refine unhold ?_)
  refine wpList_mkn rfl _ _ _ rfl Epage w.heap.size _ _ _ _ n rfl rfl rfl rfl (by omega) (by unfold maxLen; omega) (Nat.le_refl _) ?_
  intro w1 ho1 hb1 hlt1
  have hz := hb1.size
  have hk := ho1.blk.1
  rw [show (Value.cells (.agg #[.bool false, .string ⟨#[]⟩])) = #[.bool false, .string ⟨#[]⟩] from rfl, rows_new] at hk
  go_wp2_with fail
  go_ret2
  refine ⟨w1.heap.size, rfl, ⟨w.heap.size, hz, Nat.le_refl _, ?_, hk.alloc _, by simpa using h, fun k l hk => ?_⟩, hb1.alloc hz _⟩
  · rw [List.length_replicate]
    exact Blk.new _ _ _
  · rw [List.getElem?_replicate] at hk
    split at hk <;> cases hk

theorem rhas_any (B bs : Nat) (s : Pg.St) (i : Int) (w : World) (h : RSto w B bs s) (h1 : -9223372036854775808 ≤ i) (h2 : i ≤ 9223372036854775807) :
    Calls Try.prog 56 #[.pointer (some ⟨bs, 0, none⟩), .int .i64 i] w fun e w' => e = .returned (.bool (Pg.at_ s i).isSome) ∧ w = w' := by
  obtain ⟨bp, h⟩ := h
  have hc := h.st.cell 0
  simp only [List.getElem?_cons_zero] at hc
  have hm := h.most
  by_cases h0 : i < 0
  · have hr : Hid ((Pg.at_ s i).isSome = false) := by show _ = _; unfold Pg.at_; rw [if_neg (by omega)]; rfl
    clear h
    go_enter Try.func56, Try.ntmps56
    go_wp2
    go_ret
    exact ⟨by rw [hr.out]; rfl, rfl⟩
  · obtain ⟨k, rfl⟩ := Int.eq_ofNat_of_zero_le (by omega : 0 ≤ i)
    by_cases hk : k < s.length
    · have hon := (h.on (List.getElem?_eq_getElem hk)).1
      have hr : Hid (s[k].isSome = (Pg.at_ s (k : Int)).isSome) := by
        show _ = _
        rw [Pg.at_nat, List.getElem?_eq_getElem hk]
        cases s[k] <;> rfl
      generalize s[k].isSome = b at *
      clear h
      have hkI : (k : Int) < (List.length s : Int) := by omega
      have hkI0 : (0 : Int) ≤ (k : Int) := by omega
      go_enter Try.func56, Try.ntmps56
      go_wp2
      go_ret
      exact ⟨by rw [← hr.out]; rfl, rfl⟩
    · have hr : Hid ((Pg.at_ s (k : Int)).isSome = false) := by show _ = _; rw [Pg.at_nat, List.getElem?_eq_none (by omega)]; rfl
      have hkI : (List.length s : Int) ≤ (k : Int) := by omega
      clear h
      go_enter Try.func56, Try.ntmps56
      go_wp2
      go_ret
      exact ⟨by rw [hr.out]; rfl, rfl⟩

set_option maxRecDepth 100000 in
theorem rlay_any (id : Nat) (A : Option Addr) (l : List UInt8) (n c : Nat) (w : World) (hn : l.length = n) (hr : Rd w A (Bs l)) (hl : n ≤ 56) (hid : id < 4294967296) :
    Calls Try.prog 50 #[.int .i64 (id : Int), .slice A n c] w fun e w' => e = .returned (.string (St8 (Pg.page id l))) ∧ Below w.heap.size w w' := by
  have hnn := Lib.hid hn
  clear hn
  go_enter Try.func50, Try.ntmps50
  go_wp2_with (first | (at_builtin; refine hold ?_) | (at_make; refine hold ?_))
  (with_reducible refine unhold ?_)
  have ho1 : Own (w.alloc (.cells #[] 5)) w.heap.size 5 1 (some ⟨w.heap.size, 0, none⟩) 0 0 [] := World.ownsRow_made w #[] 0 (Nat.le_refl _) (by unfold maxLen; omega) rfl
  have hr1 := hr.alloc (.cells #[] 5)
  have hb1 : Below w.heap.size w (w.alloc (.cells #[] 5)) := (Below.refl _ _).alloc (Nat.le_refl _) _
  refine wpList_apd rfl _ _ _ rfl E8 w.heap.size _ 0 _ [] rfl ho1 A n c (Bs l) rfl (by rw [List.length_map, hnn.out, Nat.mul_one]) hr1 (Bs_one l) n (by omega) (Bs l) rfl (by omega) (by omega) (by simp) ?_
  intro A2 c2 w2 ho2 hg2 hat2
  have hb2 : Below w.heap.size w w2 := hb1.grown hg2 (by simp) ho1.row_ge
  clear hat2 hg2 hb1 hr1 hr ho1
  go_wp2_with fail
  go_loopw [5] (fun v wr => ∃ (k kc : Nat) (R : Option Addr), n ≤ k ∧ k ≤ 56 ∧ v = .slice R k kc ∧ Own wr w.heap.size 5 1 R k kc (Bs (l ++ List.replicate (k - n) 0)) ∧ Below w.heap.size w wr) (fun v _ => 56 - (match v with | .slice _ n _ => n | _ => 0))
  case atStart => exact ⟨n, c2, A2, by omega, hl, rfl, by rw [Nat.sub_self, List.replicate_zero, List.append_nil]; exact ho2, hb2⟩
  case round =>
    obtain ⟨k, kc, R, hnk, hk, rfl, ho, hb⟩ := hrel
    have hz := hb.size
    by_cases hlt : k < 56
    · go_wp2_with (first | (at_builtin; refine hold ?_) | (at_make; refine hold ?_))
      (with_reducible refine unhold ?_)
      refine wpList_apd rfl _ _ _ rfl E8 w.heap.size R k kc (Bs (l ++ List.replicate (k - n) 0)) rfl (ho.alloc _) _ 1 _ [.int .u8 0] rfl (by rfl) (Rd.new _ _ _) (by simp [Value.oneCell']) (k + 1) rfl (Bs (l ++ List.replicate (k + 1 - n) 0)) ?_ (by omega) (by omega) (by simp; omega) ?_
      · rw [show k + 1 - n = (k - n) + 1 from by omega, List.replicate_succ', ← List.append_assoc]
        simp only [List.map_append]
        rfl
      intro A3 c3 w3 ho3 hg3 hat3
      have hb3 : Below w.heap.size w w3 := (hb.alloc hz _).grown hg3 (by simp; omega) (fun k hk => ho.row_ge k hk)
      go_wp2_with fail
      go_roundw
      case rel => exact ⟨k + 1, c3, A3, by omega, by omega, rfl, ho3, hb3⟩
      case measure => simp; omega
    · obtain rfl : k = 56 := by omega
      go_wp2_with (first | (at_builtin; refine hold ?_) | (at_make; refine hold ?_))
      (with_reducible refine unhold ?_)
      refine wpList_apd rfl _ _ _ rfl E8 w.heap.size R 56 kc (Bs (l ++ List.replicate (56 - n) 0)) rfl (ho.alloc _) _ 4 _ [.int .u8 ((id : Int) / 16777216), .int .u8 ((id : Int) / 65536 % 256), .int .u8 ((id : Int) / 256 % 256), .int .u8 ((id : Int) % 256)] rfl (by rfl) (Rd.new _ _ _) (by simp [Value.oneCell']) 60 rfl (Bs (Pg.front id l)) ?_ (by omega) (by omega) (by simp; omega) ?_
      · have := Pg.front_cells id l hid
        rw [hnn.out] at this
        exact this
      intro A3 c3 w3 ho3 hg3 hat3
      have hb3 : Below w.heap.size w w3 := (hb.alloc hz _).grown hg3 (by simp; omega) (fun k hk => ho.row_ge k hk)
      have hlf := Pg.length_front id (l := l) (by rw [hnn.out]; exact hl)
      go_wp2_with fail
      refine (rseal_any A3 (Pg.front id l) 60 c3 w3 hlf ho3.rd (by omega)).mono ?_
      rintro e w4 ⟨A4, c4, rfl, ho4, hb4⟩
      have hb04 := hb3.trans (hb4.mono hb3.size)
      have hc := run_str w4 A4 (Pg.page id l) 64 c4 (Pg.length_page id (by rw [hnn.out]; exact hl)) ho4.rd
      have hcd := run_str w4.drew A4 (Pg.page id l) 64 c4 (Pg.length_page id (by rw [hnn.out]; exact hl)) ho4.rd
      go_wp2_with fail
      go_ret
      exact ⟨rfl, hb04⟩
end Go.Proofs.Ytjjmnjgkodiibaa
