/- The walk of spill.take. -/
import Derived.Test.YtjjmnjgkodiibaaMCuO
import Derived.Test.YtjjmnjgkodiibaaMSpM
import Derived.Test.YtjjmnjgkodiibaaMJoXY
namespace Go.Proofs.Ytjjmnjgkodiibaa
open Go.RowKit

attribute [local go_sem ↓] Go.wp_at_zero Go.wp_at_succ

theorem ctake_any (l : List UInt8) (n c : Nat) (A : Option Addr) (w : World) (hl : l.length = n) (hr : Rd w A (Bs l)) (hn : n ≤ 1000000) (hnc : n ≤ c) (hc : c ≤ 9223372036854775807) : Calls Try.prog 80 #[.slice A n c] w fun e w' => TakeOK l w e w' := by
  cases l with
  | nil => exact ctake_nil n c A w hl.symm
  | cons k t => exact ctake_cons k t n c A w (by rw [← hl, List.length_cons]) hr hn hnc hc

/-- How take ends. -/
def RowOK (l : List UInt8) (A : Option Addr) (w : World) (e : Ending) (w' : World) : Prop :=
  ((takeRow l = none ∧ e = .returned (.tuple #[.slice none 0 0, .slice none 0 0, .bool false])) ∨
    ∃ r u R rc A' c', takeRow l = some (r, u) ∧ (∀ v ∈ r, v.ok) ∧ e = .returned (.tuple #[.slice R r.length rc, .slice A' u.length c', .bool true]) ∧ Own w' w.heap.size 37 3 R r.length rc (rcells r) ∧
      OwnX w' 0 5 A' u.length c' (Bs u) ∧ ∀ b o, A' = some ⟨b, o, none⟩ → (∃ o', A = some ⟨b, o', none⟩) ∨ w.heap.size ≤ b) ∧ Below w.heap.size w w'

theorem takeVals_end {k : Nat} {a : RowM} {p : List UInt8} (h : k = 0) : takeVals k a p = some (a, p) := by
  subst h
  rfl
theorem takeVals_no {k j : Nat} {a : RowM} {p : List UInt8} (hj : j < k) (h : takeVal p = none) : takeVals (k - j) a p = none := by
  obtain ⟨q, hq⟩ : ∃ q, k - j = q + 1 := ⟨k - j - 1, by omega⟩
  rw [hq, takeVals, h]
theorem takeVals_yes {k j : Nat} {a : RowM} {p u : List UInt8} {v : Va} (hj : j < k) (h : takeVal p = some (v, u)) : takeVals (k - j) a p = takeVals (k - (j + 1)) (a ++ [v]) u := by
  obtain ⟨q, hq⟩ : ∃ q, k - j = q + 1 := ⟨k - j - 1, by omega⟩
  rw [hq, takeVals, h, show k - (j + 1) = q from by omega]
theorem takeVal_len {l u : List UInt8} {v : Va} (h : takeVal l = some (v, u)) : u.length ≤ l.length := by
  cases l with
  | nil => cases h
  | cons k t =>
    cases hb : takeBody k t with
    | none => rw [takeVal_no hb] at h; cases h
    | some x =>
      obtain ⟨n, s, u'⟩ := x
      have hu : u' = u := by
        by_cases hr : rightV ⟨k.toNat, n, s⟩ = true
        · rw [takeVal_of hb hr] at h
          exact (Prod.mk.inj (Option.some.inj h)).2
        · rw [takeVal_bad hb (by simpa using hr)] at h
          cases h
      subst hu
      unfold takeBody at hb
      split at hb
      · cases hn : takeNum t with
        | none => rw [hn] at hb; cases hb
        | some y =>
          obtain ⟨m, z⟩ := y
          rw [hn] at hb
          have := (Prod.mk.inj (Prod.mk.inj (Option.some.inj hb)).2).2
          subst this
          have := (takeNum_lt hn).2
          rw [List.length_cons]
          omega
      · split at hb
        · cases hn : takeText t with
          | none => rw [hn] at hb; cases hb
          | some y =>
            obtain ⟨m, z⟩ := y
            rw [hn] at hb
            have := (Prod.mk.inj (Prod.mk.inj (Option.some.inj hb)).2).2
            subst this
            obtain ⟨_, q, hq, _⟩ := takeText_suf hn
            rw [hq, List.length_drop, List.length_cons]
            omega
        · have := (Prod.mk.inj (Prod.mk.inj (Option.some.inj hb)).2).2
          subst this
          rw [List.length_cons]
          omega

set_option maxHeartbeats 8000000 in
set_option maxRecDepth 100000 in
theorem stake_tail (l : List UInt8) (n c : Nat) (A : Option Addr) (w : World) (hl : l.length = n) (hx : OwnX w 0 5 A n c (Bs l)) (hn : n ≤ 100000) :
    Calls Try.prog 61 #[.slice A n c] w fun e w' => RowOK l A w e w' := by
  have hcap := hx.cap
  have hc : c ≤ 9223372036854775807 := by have := hcap.2; unfold maxLen at this; omega
  have hnew := Lib.hid (rdr_new l n c A w hl hx.rd (by omega))
  have Hx := Lib.hid hx
  have Hl := Lib.hid hl
  have htr : Hid (takeRow l = match takeNum l with | none => none | some (m, u) => if 32 < m then none else takeVals m [] u) := Lib.hid (by unfold takeRow; rfl)
  clear hx hl
  go_enter Try.func61, Try.ntmps61
  go_wp2_with fail
  refine hnew.out.mono ?_
  rintro e w1 ⟨p, rfl, hr1, hp1, hb1⟩
  have hnum := Lib.hid (rdr_num p l false w1 hr1)
  have hpl : p < w1.heap.size := by obtain ⟨_, _, _, h, _⟩ := hr1; exact h.lt
  have hz1 := hb1.size
  clear hr1 hnew
  go_wp2_with fail
  refine hnum.out.mono ?_
  rintro e w2 ⟨⟨ht, rfl, hbad⟩ | ⟨m, u, ht, rfl, hr2⟩, hk2⟩
  · have HT : Hid (takeRow l = none) := Lib.hid (by rw [htr.out, ht])
    have hbd := Lib.hid (rdr_bad p [] true w2 (RdrBad.rdr hbad))
    have HB := Lib.hid (hb1.trans ((hk2.below (by omega)).mono hp1))
    clear ht hbad hk2 htr
    go_wp2_with fail
    refine hbd.out.mono ?_
    rintro e w' ⟨rfl, rfl⟩
    go_wp2_with fail
    go_ret3
    exact ⟨.inl ⟨HT.out, rfl⟩, HB.out⟩
  · have hm64 := (takeNum_lt ht).1
    have hbd := Lib.hid (rdr_bad p u false w2 hr2)
    have HB := Lib.hid (hb1.trans ((hk2.below (by omega)).mono hp1))
    have Ht := Lib.hid ht
    have Hr2 := Lib.hid hr2
    clear ht hk2 hr2
    by_cases h32 : 32 < m
    · have HT : Hid (takeRow l = none) := Lib.hid (by rw [htr.out, Ht.out]; exact if_pos h32)
      clear htr
      go_wp2_with fail
      refine hbd.out.mono ?_
      rintro e w' ⟨rfl, rfl⟩
      go_wp2_with fail
      go_ret3
      exact ⟨.inl ⟨HT.out, rfl⟩, HB.out⟩
    · have HT : Hid (takeRow l = takeVals m [] u) := Lib.hid (by rw [htr.out, Ht.out]; exact if_neg h32)
      clear htr
      have hn0 : 0 < n := by
        rcases Nat.eq_zero_or_pos n with h | h
        · have h9 : l = [] := List.eq_nil_of_length_eq_zero (by rw [Hl.out]; exact h)
          have := Ht.out
          rw [h9] at this
          cases this
        · exact h
      obtain ⟨b, o, rfl, _, _⟩ := Hx.out.at_ hn0
      have hsuf := takeNum_suf Ht.out
      have hul : u.length ≤ n := by
        obtain ⟨kk, hu, hkk⟩ := hsuf
        have := Hl.out
        rw [hu, List.length_drop]
        omega
      obtain ⟨d, hd⟩ : ∃ d, n = d + u.length := ⟨n - u.length, by omega⟩
      have hdr : Hid (l.drop d = u) := by
        obtain ⟨kk, hu, hkk⟩ := hsuf
        have := drop_len hu hkk
        rw [Hl.out, show n - u.length = d from by omega] at this
        exact this
      have hbE : Below w2.heap.size w2 (w2.alloc (.cells #[] 37)) := (Below.refl _ _).alloc (Nat.le_refl _) _
      have HB3 := Lib.hid (HB.out.trans (hbE.mono HB.out.size))
      have hoE : Own (w2.alloc (.cells #[] 37)) w2.heap.size 37 3 (some ⟨w2.heap.size, 0, none⟩) 0 0 [] := World.ownsRow_made w2 #[] 0 (Nat.le_refl _) (by unfold maxLen; omega) rfl
      have HO3 := Lib.hid (Own.base hoE HB.out.size)
      have hX3 := Hx.out.below HB3.out
      have hlf := Lib.hid (rdr_left p u false _ (Hr2.out.below hbE))
      generalize hUL : u.length = ul at *
      have HUL := Lib.hid hUL
      have Hd := Lib.hid hd
      have hdI : (n : Int) - (ul : Int) = (d : Int) := by omega
      have hw : IntKind.i64.wrap (d : Int) = (d : Int) := by rw [IntKind.wrap_i64]; omega
      have hdn : d ≤ n := by omega
      clear hUL hul hd hbE hoE hsuf
      by_cases hdc : d = c
      · have hul0 : ul = 0 := by have := Hd.out; omega
        have hnc3 : n = c := by have := Hd.out; omega
        subst hul0
        subst hdc
        subst hnc3
        have hX4 : OwnX (w2.alloc (.cells #[] 37)) 0 5 (some ⟨b, o, none⟩) 0 0 (Bs u) := by
          have : u = [] := List.eq_nil_of_length_eq_zero HUL.out
          rw [this]
          exact hX3.dropAll
        have HX3 := Lib.hid hX4
        clear hX3 hX4
        go_wp2_with fail
        refine hbd.out.mono ?_
        rintro e w' ⟨rfl, rfl⟩
        go_wp2_with fail
        refine hlf.out.mono ?_
        rintro e w' ⟨rfl, rfl⟩
        go_wp2_with fail
        go_loopw [7, 8, 31] (fun vr vq vi wr => ∃ (j : Nat) (a : RowM) (q : List UInt8) (R A1 : Option Addr) (rc ql c1 : Nat), j ≤ m ∧ vi = .int .u64 j ∧ vr = .slice R j rc ∧ vq = .slice A1 ql c1 ∧ Hid (a.length = j) ∧ q.length = ql ∧ ql ≤ n ∧ Own wr w.heap.size 37 3 R j rc (rcells a) ∧ OwnX wr 0 5 A1 ql c1 (Bs q) ∧
            Hid (∀ b' o', A1 = some ⟨b', o', none⟩ → (∃ o'', (some ⟨b, o, none⟩ : Option Addr) = some ⟨b', o'', none⟩) ∨ w.heap.size ≤ b') ∧ Below w.heap.size w wr ∧ Hid (takeVals m [] u = takeVals (m - j) a q) ∧ Hid (∀ v ∈ a, v.ok)) (fun _ _ i _ => m - (intOf i).toNat)
        case atStart => exact ⟨0, [], u, _, some ⟨b, o, none⟩, 0, 0, 0, by omega, rfl, rfl, rfl, rfl, HUL.out, by have := Hd.out; omega, HO3.out, HX3.out, (fun b' o' h => .inl ⟨o, by injection h with h; injection h with h1 h2; rw [h1]⟩), HB3.out, by show _ = _; rw [Nat.sub_zero], fun v hv => by simp at hv⟩
        case round =>
          obtain ⟨j, a, q, R, A1, rc, ql, c1, hj, rfl, rfl, rfl, hal, hql, hqn, hown, hxq, hin, hb, htv, hoks⟩ := hrel
          have hcq := hxq.cap
          have hct := Lib.hid (ctake_any q ql c1 A1 wr hql hxq.rd (by omega) hcq.1 (by have := hcq.2; unfold maxLen at this; omega))
          have Hown := Lib.hid hown
          have Hxq := Lib.hid hxq
          have Hb := Lib.hid hb
          clear hown hxq hb
          by_cases hlt : j < m
          · go_wp2_with fail
            refine hct.out.mono ?_
            rintro e w5 ⟨⟨hno, rfl⟩ | ⟨v, u', A5, c5, hyes, hvok, rfl, ho5⟩, hb5⟩
            · have HN := Lib.hid (HT.out.trans (htv.out.trans (takeVals_no hlt hno)))
              have HB5 := Lib.hid (Hb.out.trans (hb5.mono Hb.out.size))
              clear hno hb5
              go_wp2_with fail
              go_ret3
              exact ⟨.inl ⟨HN.out, rfl⟩, HB5.out.alloc (by have := HB5.out.size; omega) _⟩
            · have HN := Lib.hid (htv.out.trans (takeVals_yes hlt hyes))
              have hlen' := takeVal_len hyes
              obtain ⟨vk, vn, vs⟩ := v
              unfold Va.agg
              dsimp only
              have HB5 := Lib.hid (Hb.out.trans (hb5.mono Hb.out.size))
              have Ho5 := Lib.hid ho5
              have Hown5 := Lib.hid (Own.below Hown.out hb5)
              have hz5 := HB5.out.size
              have hzr := Hb.out.size
              have hzr5 := hb5.size
              have Hvok := Lib.hid hvok
              generalize hul' : u'.length = ul' at *
              have HUL' := Lib.hid hul'
              clear hyes hb5 ho5 hvok hct hul'
              have hbV : Below w5.heap.size w5 (w5.alloc (.cells #[.int .u8 vk, .int .i64 vn, .string (St8 vs)] 37)) := (Below.refl _ _).alloc (Nat.le_refl _) _
              have hbW : Below w5.heap.size w5 ((w5.alloc (.cells #[.int .u8 vk, .int .i64 vn, .string (St8 vs)] 37)).alloc (.cells #[.int .u8 vk, .int .i64 vn, .string (St8 vs)] 37)) := hbV.alloc (by simp) _
              have hnw := (Blk.new (w5.alloc (.cells #[.int .u8 vk, .int .i64 vn, .string (St8 vs)] 37)) 37 #[.int .u8 vk, .int .i64 vn, .string (St8 vs)]).range
              rw [show (w5.alloc (.cells #[.int .u8 vk, .int .i64 vn, .string (St8 vs)] 37)).heap.size = w5.heap.size + 1 from by simp] at hnw
              have HownW := Lib.hid (Own.below Hown5.out hbW)
              have HbW := Lib.hid (HB5.out.trans (hbW.mono hz5))
              have Ho5W := Lib.hid (Own.below Ho5.out hbW)
              clear hbV hbW Hown5 Ho5
              go_wp2_with (first | (at_builtin; refine hold ?_) | (at_make; refine hold ?_))
              (with_reducible refine unhold ?_)
              refine wpList_apd rfl _ _ _ rfl Eval w.heap.size _ j rc _ rfl HownW.out _ 1 _ [.int .u8 vk, .int .i64 vn, .string (St8 vs)] rfl rfl (fun _ => ⟨_, _, rfl, hnw⟩) (by simp [Value.oneCell']) (j + 1) rfl (rcells (a ++ [⟨vk, vn, vs⟩])) (by rw [rcells_append]; rfl) (by omega) (by omega) HbW.out.size ?_
              intro A6 c6 w6 ho6 hg6 _
              have hk6 := Own.apd_keeps HownW.out hg6
              have Hb6 := Lib.hid (HbW.out.grown hg6 HbW.out.size HownW.out.row_ge)
              have Hx6 := Lib.hid ((OwnX.of_own (Own.keeps Ho5W.out (by decide) hk6)).lower (Nat.zero_le _))
              have Hw6 := Lib.hid (fun b' o' (h : A5 = some ⟨b', o', none⟩) => (Ho5W.out.lt b' (by rw [h]; rfl)).1)
              clear hk6 hg6
              go_wp2_with fail
              go_roundw
              case rel =>
                refine ⟨j + 1, a ++ [⟨vk, vn, vs⟩], u', A6, A5, c6, ul', c5, by omega, by go_num, rfl, rfl, ?_, HUL'.out, by omega, ho6, Hx6.out, ?_, Hb6.out, HN, ?_⟩
                · show _ = _
                  rw [List.length_append, hal.out]
                  rfl
                · exact fun b' o' h => .inr (Nat.le_trans hzr (Hw6.out b' o' h))
                · intro y hy
                  rcases List.mem_append.1 hy with hy | hy
                  · exact hoks.out y hy
                  · rw [List.mem_singleton.1 hy]; exact Hvok.out
              case measure => simp [intOf]; omega
          · obtain rfl : j = m := by omega
            have hfin := htv.out
            rw [Nat.sub_self] at hfin
            have HF := Lib.hid (HT.out.trans hfin)
            clear hct hfin
            go_wp2_with fail
            go_ret3
            refine ⟨.inr ⟨a, q, R, rc, A1, c1, HF.out, hoks.out, by rw [hal.out, hql]; rfl, ?_, ?_, hin.out⟩, Hb.out⟩
            · rw [hal.out]; exact Hown.out
            · rw [hql]; exact Hxq.out
      · have hdc2 : ¬ c = d := fun e => hdc e.symm
        have hX4 := hX3.drop hdn
        rw [← List.map_drop, hdr.out] at hX4
        have hnd : n - d = ul := by have := Hd.out; omega
        have HX3 : Hid (OwnX (w2.alloc (.cells #[] 37)) 0 5 (some ⟨b, o + d, none⟩) ul (c - d) (Bs u)) := by rw [← hnd]; exact hX4
        clear hX3 hX4
        go_wp2_with fail
        refine hbd.out.mono ?_
        rintro e w' ⟨rfl, rfl⟩
        go_wp2_with fail
        refine hlf.out.mono ?_
        rintro e w' ⟨rfl, rfl⟩
        go_wp2_with fail
        go_loopw [7, 8, 31] (fun vr vq vi wr => ∃ (j : Nat) (a : RowM) (q : List UInt8) (R A1 : Option Addr) (rc ql c1 : Nat), j ≤ m ∧ vi = .int .u64 j ∧ vr = .slice R j rc ∧ vq = .slice A1 ql c1 ∧ Hid (a.length = j) ∧ q.length = ql ∧ ql ≤ n ∧ Own wr w.heap.size 37 3 R j rc (rcells a) ∧ OwnX wr 0 5 A1 ql c1 (Bs q) ∧
            Hid (∀ b' o', A1 = some ⟨b', o', none⟩ → (∃ o'', (some ⟨b, o, none⟩ : Option Addr) = some ⟨b', o'', none⟩) ∨ w.heap.size ≤ b') ∧ Below w.heap.size w wr ∧ Hid (takeVals m [] u = takeVals (m - j) a q) ∧ Hid (∀ v ∈ a, v.ok)) (fun _ _ i _ => m - (intOf i).toNat)
        case atStart => exact ⟨0, [], u, _, some ⟨b, o + d, none⟩, 0, ul, c - d, by omega, rfl, rfl, rfl, rfl, HUL.out, by have := Hd.out; omega, HO3.out, HX3.out, (fun b' o' h => .inl ⟨o, by injection h with h; injection h with h1 h2; rw [h1]⟩), HB3.out, by show _ = _; rw [Nat.sub_zero], fun v hv => by simp at hv⟩
        case round =>
          obtain ⟨j, a, q, R, A1, rc, ql, c1, hj, rfl, rfl, rfl, hal, hql, hqn, hown, hxq, hin, hb, htv, hoks⟩ := hrel
          have hcq := hxq.cap
          have hct := Lib.hid (ctake_any q ql c1 A1 wr hql hxq.rd (by omega) hcq.1 (by have := hcq.2; unfold maxLen at this; omega))
          have Hown := Lib.hid hown
          have Hxq := Lib.hid hxq
          have Hb := Lib.hid hb
          clear hown hxq hb
          by_cases hlt : j < m
          · go_wp2_with fail
            refine hct.out.mono ?_
            rintro e w5 ⟨⟨hno, rfl⟩ | ⟨v, u', A5, c5, hyes, hvok, rfl, ho5⟩, hb5⟩
            · have HN := Lib.hid (HT.out.trans (htv.out.trans (takeVals_no hlt hno)))
              have HB5 := Lib.hid (Hb.out.trans (hb5.mono Hb.out.size))
              clear hno hb5
              go_wp2_with fail
              go_ret3
              exact ⟨.inl ⟨HN.out, rfl⟩, HB5.out.alloc (by have := HB5.out.size; omega) _⟩
            · have HN := Lib.hid (htv.out.trans (takeVals_yes hlt hyes))
              have hlen' := takeVal_len hyes
              obtain ⟨vk, vn, vs⟩ := v
              unfold Va.agg
              dsimp only
              have HB5 := Lib.hid (Hb.out.trans (hb5.mono Hb.out.size))
              have Ho5 := Lib.hid ho5
              have Hown5 := Lib.hid (Own.below Hown.out hb5)
              have hz5 := HB5.out.size
              have hzr := Hb.out.size
              have hzr5 := hb5.size
              have Hvok := Lib.hid hvok
              generalize hul' : u'.length = ul' at *
              have HUL' := Lib.hid hul'
              clear hyes hb5 ho5 hvok hct hul'
              have hbV : Below w5.heap.size w5 (w5.alloc (.cells #[.int .u8 vk, .int .i64 vn, .string (St8 vs)] 37)) := (Below.refl _ _).alloc (Nat.le_refl _) _
              have hbW : Below w5.heap.size w5 ((w5.alloc (.cells #[.int .u8 vk, .int .i64 vn, .string (St8 vs)] 37)).alloc (.cells #[.int .u8 vk, .int .i64 vn, .string (St8 vs)] 37)) := hbV.alloc (by simp) _
              have hnw := (Blk.new (w5.alloc (.cells #[.int .u8 vk, .int .i64 vn, .string (St8 vs)] 37)) 37 #[.int .u8 vk, .int .i64 vn, .string (St8 vs)]).range
              rw [show (w5.alloc (.cells #[.int .u8 vk, .int .i64 vn, .string (St8 vs)] 37)).heap.size = w5.heap.size + 1 from by simp] at hnw
              have HownW := Lib.hid (Own.below Hown5.out hbW)
              have HbW := Lib.hid (HB5.out.trans (hbW.mono hz5))
              have Ho5W := Lib.hid (Own.below Ho5.out hbW)
              clear hbV hbW Hown5 Ho5
              go_wp2_with (first | (at_builtin; refine hold ?_) | (at_make; refine hold ?_))
              (with_reducible refine unhold ?_)
              refine wpList_apd rfl _ _ _ rfl Eval w.heap.size _ j rc _ rfl HownW.out _ 1 _ [.int .u8 vk, .int .i64 vn, .string (St8 vs)] rfl rfl (fun _ => ⟨_, _, rfl, hnw⟩) (by simp [Value.oneCell']) (j + 1) rfl (rcells (a ++ [⟨vk, vn, vs⟩])) (by rw [rcells_append]; rfl) (by omega) (by omega) HbW.out.size ?_
              intro A6 c6 w6 ho6 hg6 _
              have hk6 := Own.apd_keeps HownW.out hg6
              have Hb6 := Lib.hid (HbW.out.grown hg6 HbW.out.size HownW.out.row_ge)
              have Hx6 := Lib.hid ((OwnX.of_own (Own.keeps Ho5W.out (by decide) hk6)).lower (Nat.zero_le _))
              have Hw6 := Lib.hid (fun b' o' (h : A5 = some ⟨b', o', none⟩) => (Ho5W.out.lt b' (by rw [h]; rfl)).1)
              clear hk6 hg6
              go_wp2_with fail
              go_roundw
              case rel =>
                refine ⟨j + 1, a ++ [⟨vk, vn, vs⟩], u', A6, A5, c6, ul', c5, by omega, by go_num, rfl, rfl, ?_, HUL'.out, by omega, ho6, Hx6.out, ?_, Hb6.out, HN, ?_⟩
                · show _ = _
                  rw [List.length_append, hal.out]
                  rfl
                · exact fun b' o' h => .inr (Nat.le_trans hzr (Hw6.out b' o' h))
                · intro y hy
                  rcases List.mem_append.1 hy with hy | hy
                  · exact hoks.out y hy
                  · rw [List.mem_singleton.1 hy]; exact Hvok.out
              case measure => simp [intOf]; omega
          · obtain rfl : j = m := by omega
            have hfin := htv.out
            rw [Nat.sub_self] at hfin
            have HF := Lib.hid (HT.out.trans hfin)
            clear hct hfin
            go_wp2_with fail
            go_ret3
            refine ⟨.inr ⟨a, q, R, rc, A1, c1, HF.out, hoks.out, by rw [hal.out, hql]; rfl, ?_, ?_, hin.out⟩, Hb.out⟩
            · rw [hal.out]; exact Hown.out
            · rw [hql]; exact Hxq.out
end Go.Proofs.Ytjjmnjgkodiibaa
