/- Acts as plain data; one act on both stores; the first acts of a list. -/
import Derived.Test.YtnlaeiadakdbkaaDoes
namespace Go.Proofs.Ytnlaeiadakdbkaa
open Go.RowKit

attribute [local go_sem ↓] Go.wp_at_zero Go.wp_at_succ

/-- An act, and where its two lists lie. -/
structure ActM where
  kind : Int
  at' : Int
  nn : Int
  b : List UInt8
  l : List Int
  m : UInt8
  A : Option Addr
  L : Option Addr
  bn : Nat
  bc : Nat
  ln : Nat
  lc : Nat
namespace ActM
def cells (a : ActM) : List Value := [.int .u8 a.kind, .int .i64 a.at', .int .i64 a.nn, .slice a.A a.bn a.bc, .slice a.L a.ln a.lc, .int .u8 (a.m.toNat : Int)]
structure ok (a : ActM) (w0 : World) : Prop where
  bl : a.b.length = a.bn
  ll : a.l.length = a.ln
  rA : Rd w0 a.A (Bs a.b)
  rL : Rd w0 a.L (Js a.l)
  bc : a.bn ≤ a.bc
  bm : a.bc ≤ 9223372036854775807
  lm : a.ln ≤ 9223372036854775807
  k0 : 0 ≤ a.kind ∧ a.kind ≤ 255
  at' : -9223372036854775808 ≤ a.at' ∧ a.at' ≤ 9223372036854775807
  nn : -9223372036854775808 ≤ a.nn ∧ a.nn ≤ 9223372036854775807
  lb : ∀ i ∈ a.l, -9223372036854775808 ≤ i ∧ i ≤ 9223372036854775807
def small (a : ActM) : Prop := a.bn ≤ 500 ∧ a.ln ≤ 20
def does (s : Pg.St) (a : ActM) : Pg.St := actS s a.kind a.at' a.nn a.b a.l a.m
end ActM
def acts (l : List ActM) : List Value := l.flatMap ActM.cells
theorem acts_get : ∀ (l : List ActM) (j : Nat) (a : ActM) (t : Nat), l[j]? = some a → t < 6 → (acts l)[j * 6 + t]? = a.cells[t]?
  | [], j, a, t, h, _ => by simp at h
  | x :: l, 0, a, t, h, ht => by
    obtain rfl : x = a := by simpa using h
    unfold acts
    rw [List.flatMap_cons, Nat.zero_mul, Nat.zero_add, List.getElem?_append_left (by exact ht)]
  | x :: l, j + 1, a, t, h, ht => by
    have := acts_get l j a t (by simpa using h) ht
    unfold acts at *
    rw [List.flatMap_cons, List.getElem?_append_right (by show 6 ≤ _; omega), show (j + 1) * 6 + t - x.cells.length = j * 6 + t from by show (j + 1) * 6 + t - 6 = _; omega]
    exact this

theorem does_c (w0 w : World) (bs rs : Nat) (s : Pg.St) (a : ActM) (hT : Two w0 w bs rs s) (h : a.ok w0) (hs : a.small) :
    Calls Try.prog 16 #[.pointer (some ⟨bs, 0, none⟩), .pointer (some ⟨rs, 0, none⟩), .agg #[.int .u8 a.kind, .int .i64 a.at', .int .i64 a.nn, .slice a.A a.bn a.bc, .slice a.L a.ln a.lc, .int .u8 (a.m.toNat : Int)]] w fun e w' => e = .returned (.bool true) ∧ Two w0 w' bs rs (a.does s) ∧ Keeps TwoT w0.heap.size w w' := by
  have h7 : a.kind % 7 = 0 ∨ a.kind % 7 = 1 ∨ a.kind % 7 = 2 ∨ a.kind % 7 = 3 ∨ a.kind % 7 = 4 ∨ a.kind % 7 = 5 ∨ a.kind % 7 = 6 := by omega
  rcases h7 with hk | hk | hk | hk | hk | hk | hk
  · exact does_0 w0 w bs rs s _ _ _ a.b a.l a.m a.A a.L _ _ _ _ hT h.bl h.ll h.rA h.rL hs.1 hs.2 h.bc h.bm hk h.k0 h.at' h.nn h.lb
  · exact does_1 w0 w bs rs s _ _ _ a.b a.l a.m a.A a.L _ _ _ _ hT h.bl h.ll h.rA h.rL hs.1 hs.2 h.bc h.bm hk h.k0 h.at' h.nn h.lb
  · exact does_2 w0 w bs rs s _ _ _ a.b a.l a.m a.A a.L _ _ _ _ hT h.bl h.ll h.rA h.rL hs.1 hs.2 h.bc h.bm hk h.k0 h.at' h.nn h.lb
  · exact does_3 w0 w bs rs s _ _ _ a.b a.l a.m a.A a.L _ _ _ _ hT h.bl h.ll h.rA h.rL hs.1 hs.2 h.bc h.bm hk h.k0 h.at' h.nn h.lb
  · exact does_4 w0 w bs rs s _ _ _ a.b a.l a.m a.A a.L _ _ _ _ hT h.bl h.ll h.rA h.rL hs.1 hs.2 h.bc h.bm hk h.k0 h.at' h.nn h.lb
  · exact does_5 w0 w bs rs s _ _ _ a.b a.l a.m a.A a.L _ _ _ _ hT h.bl h.ll h.rA h.rL hs.1 hs.2 h.bc h.bm hk h.k0 h.at' h.nn h.lb
  · exact does_6 w0 w bs rs s _ _ _ a.b a.l a.m a.A a.L _ _ _ _ hT h.bl h.ll h.rA h.rL hs.1 hs.2 h.bc h.bm hk h.k0 h.at' h.nn h.lb

set_option maxRecDepth 100000 in
theorem few_c (w0 w : World) (X : Option Addr) (ys : List ActM) (n c : Nat) (hn : ys.length = n) (hnc : n ≤ c) (hc : c ≤ 9223372036854775807) (hr : Rd w X (acts ys)) (hok : ∀ a ∈ ys, a.ok w0) :
    Calls Try.prog 15 #[.slice X n c] w fun e w' => (∃ k, k ≤ n ∧ k ≤ 80 ∧ (∀ a ∈ ys.take k, a.small) ∧ e = .returned (.slice X k c)) ∧ w = w' := by
  have Hn := Lib.hid hn
  have Hok := Lib.hid hok
  clear hn hok
  go_enter Try.func15, Try.ntmps15
  go_wp2_with fail
  go_loop [6] (fun i => ∃ j : Nat, j ≤ n ∧ j ≤ 80 ∧ i = .int .i64 j ∧ Hid (∀ a ∈ ys.take j, a.small)) (fun i => n - (intOf i).toNat)
  case atStart => exact ⟨0, by omega, by omega, rfl, fun a h => by simp at h⟩
  case round =>
    obtain ⟨j, hj, hj80, rfl, hsm⟩ := hrel
    by_cases hlt : j < n
    · by_cases h80 : 80 ≤ j
      · go_wp2_with fail
        go_ret
        exact ⟨⟨j, by omega, by omega, hsm.out, rfl⟩, rfl⟩
      · have hjl : j < ys.length := by rw [Hn.out]; exact hlt
        have hne : acts ys ≠ [] := by
          intro e
          have := acts_get ys j _ 0 (List.getElem?_eq_getElem hjl) (by omega)
          rw [e] at this
          cases this
        obtain ⟨b0, o0, rfl, hrr⟩ := hr hne
        have h3 := hrr (j * 6 + 3) _ (by rw [acts_get ys j _ 3 (List.getElem?_eq_getElem hjl) (by omega)]; rfl)
        have h4 := hrr (j * 6 + 4) _ (by rw [acts_get ys j _ 4 (List.getElem?_eq_getElem hjl) (by omega)]; rfl)
        rw [← Nat.add_assoc] at h3 h4
        have hk := Lib.hid (Hok.out _ (List.getElem_mem hjl))
        have htk := Lib.hid (List.take_succ_eq_append_getElem hjl)
        generalize ys[j] = a at *
        have hbm := hk.out.bm
        have hbc := hk.out.bc
        have hlm := hk.out.lm
        clear hne hrr hr
        have hjI : ¬ ((80 : Int) ≤ (j : Int)) := by omega
        by_cases hb : 500 < a.bn
        · go_wp2_with fail
          go_ret
          exact ⟨⟨j, by omega, by omega, hsm.out, rfl⟩, rfl⟩
        · by_cases hl : 20 < a.ln
          · go_wp2_with fail
            go_ret
            exact ⟨⟨j, by omega, by omega, hsm.out, rfl⟩, rfl⟩
          · go_wp2_with fail
            go_round
            case rel =>
              refine ⟨j + 1, by omega, by omega, by go_num, fun x hx => ?_⟩
              rw [htk.out] at hx
              rcases List.mem_append.1 hx with hx | hx
              · exact hsm.out x hx
              · rw [List.mem_singleton.1 hx]
                exact ⟨by omega, by omega⟩
            case measure => simp [intOf]; omega
    · obtain rfl : j = n := by omega
      go_wp2_with fail
      go_ret
      exact ⟨⟨j, by omega, hj80, hsm.out, rfl⟩, rfl⟩
end Go.Proofs.Ytnlaeiadakdbkaa
