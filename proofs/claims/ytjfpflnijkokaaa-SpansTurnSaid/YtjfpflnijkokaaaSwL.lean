/- The walk of the reference's Both: what is in both, in one of both, in the first alone. -/
import Derived.Test.YtjfpflnijkokaaaSwJ
namespace Go.Proofs.Ytjfpflnijkokaaa
open Go.RowKit

attribute [local go_sem ↓] Go.wp_at_zero Go.wp_at_succ

def opS (how : Nat) (x y : Bool) : Bool := match how with | 0 => x && y | 1 => x || y | _ => x && !y
/-- The document's answer. -/
def bothS (how : Nat) (a b : List SpanM) : Option (List SpanM) := if rightS a = true ∧ rightS b = true then some (spansF (fun k => opS how (onS a k) (onS b k)) 4096) else none
theorem bothS_none1 (how : Nat) {a b : List SpanM} (h : rightS a = false) : bothS how a b = none := by
  unfold bothS
  rw [if_neg]
  rintro ⟨h1, _⟩
  rw [h] at h1
  exact absurd h1 (by simp)
theorem bothS_none2 (how : Nat) {a b : List SpanM} (h : rightS b = false) : bothS how a b = none := by
  unfold bothS
  rw [if_neg]
  rintro ⟨_, h1⟩
  rw [h] at h1
  exact absurd h1 (by simp)
theorem bothS_some (how : Nat) {a b : List SpanM} (h : rightS a = true) (h' : rightS b = true) : bothS how a b = some (spansF (fun k => opS how (onS a k) (onS b k)) 4096) := by
  unfold bothS
  rw [if_pos ⟨h, h'⟩]
theorem put_step (F f : Nat → Bool) (k : Nat) (v : Bool) (hv : F k = v) (hf : f = fun t => decide (t < k) && F t) : ∀ t, t < 4096 → (if t = k then v else f t) = (decide (t < k + 1) && F t) := fun t _ => by
  subst hf
  by_cases h : t = k
  · subst h
    rw [if_pos rfl, hv]
    simp
  · rw [if_neg h]
    have e : decide (t < k) = decide (t < k + 1) := decide_eq_decide.2 (by omega)
    show (decide (t < k) && F t) = _
    rw [e]

/-- What a round of Both needs. -/
def BothAt (F : Nat → Bool) (w wr : World) (g k : Nat) : Prop :=
  Own wr g 4 1 (some ⟨g, 0, none⟩) 4096 4096 (bcl (setL fun t => decide (t < k) && F t)) ∧ Below g w wr
theorem BothAt.put {F : Nat → Bool} {w wr : World} {g k : Nat} (h : BothAt F w wr g k) (hk : k < 4096) (v : Bool) (hv : F k = v) (hg : g ≤ w.heap.size) :
    BothAt F w (wr.setCell ⟨g, k, none⟩ (.bool v)) g (k + 1) ∧ wr.frozen? ⟨g, k, none⟩ = false ∧ ∃ old, wr.cell? ⟨g, k, none⟩ = some (.bool old) := by
  obtain ⟨p1, p2, p3⟩ := bput (h := fun t => decide (t < k + 1) && F t) h.1 v hk (put_step F _ k v hv rfl)
  exact ⟨⟨p1, h.2.setCell (p := ⟨g, k, none⟩) (Nat.le_refl _) _⟩, p3, _, bset_cell h.1 hk⟩

set_option maxHeartbeats 16000000 in
set_option maxRecDepth 100000 in
theorem rboth0_any (a b : List SpanM) (n nb c cb : Nat) (A B : Option Addr) (w : World) (hl : a.length = n) (hr : Rd w A (spc a)) (hlb : b.length = nb) (hrb : Rd w B (spc b)) (hn : n ≤ 5000) (hnb : nb ≤ 5000) :
    Calls Try.prog 24 #[.slice A n c, .slice B nb cb, .int .i64 0] w fun e w' => ResOK (bothS 0 a b) w e w' := by
  have hria := Lib.hid (srright_any a n c A w hl hr (by omega))
  have hrib := Lib.hid (fun q => srright_any b nb cb B (w.drewN q) hlb hrb (by omega))
  have hsa := Lib.hid (fun q => rset_any a n c A (w.drewN q) hl hr hn)
  have hsb := Lib.hid (fun w' (h : Below w.heap.size w w') => rset_any b nb cb B w' hlb (hrb.below h) hnb)
  clear hl hr hlb hrb hn hnb
  cases ha : rightS a
  · have hf := Lib.hid (bothS_none1 0 (b := b) ha)
    rw [ha] at hria
    clear ha hsa hsb hrib
    go_enter Try.func24, Try.ntmps24
    go_wp2_with fail
    refine hria.out.mono ?_
    rintro e w1 ⟨rfl, q, rfl⟩
    go_wp2_with fail
    go_ret2
    exact ⟨.inl ⟨hf.out, rfl⟩, below_drewN' (Below.refl _ _) q⟩
  · cases hb : rightS b
    · have hf := Lib.hid (bothS_none2 0 (a := a) hb)
      rw [ha] at hria
      rw [hb] at hrib
      clear ha hb hsa hsb
      go_enter Try.func24, Try.ntmps24
      go_wp2_with fail
      refine hria.out.mono ?_
      rintro e w1 ⟨rfl, q, rfl⟩
      go_wp2_with fail
      refine (hrib.out q).mono ?_
      rintro e w2 ⟨rfl, q2, rfl⟩
      go_wp2_with fail
      go_ret2
      exact ⟨.inl ⟨hf.out, rfl⟩, below_drewN' (Below.refl _ _) (q + q2)⟩
    · have hf := Lib.hid (bothS_some 0 ha hb)
      rw [ha] at hria
      rw [hb] at hrib
      simp only [ha, Bool.true_and] at hsa
      simp only [hb, Bool.true_and] at hsb
      clear ha hb
      go_enter Try.func24, Try.ntmps24
      go_wp2_with fail
      refine hria.out.mono ?_
      rintro e w1 ⟨rfl, q, rfl⟩
      go_wp2_with fail
      refine (hrib.out q).mono ?_
      rintro e w2 ⟨rfl, q2, rfl⟩
      go_wp2_with fail
      refine (hsa.out (q + q2)).mono ?_
      rintro e w3 ⟨⟨ga, rfl, hoa⟩, hb3⟩
      have Hb3 : Hid (Below w.heap.size w w3) := (below_drewN' (Below.refl w.heap.size w) (q + q2)).trans hb3
      have Hoa := Lib.hid hoa
      clear hb3 hoa hsa hria hrib
      go_wp2_with fail
      refine (hsb.out w3 Hb3.out).mono ?_
      rintro e w4 ⟨⟨gb, rfl, hob⟩, hb4⟩
      have Hoa4 := Lib.hid (Hoa.out.below hb4)
      have Hob4 := Lib.hid hob
      have Hb4 := Lib.hid (Hb3.out.trans (hb4.mono Hb3.out.size))
      clear hob hb4 Hoa Hb3 hsb
      go_wp2_with (first | (at_builtin; refine hold ?_) | (at_make; refine hold ?_))
      (with_reducible refine unhold ?_)
      refine wpList_mkn rfl _ _ _ rfl Ebool w4.heap.size _ _ _ _ 4096 rfl rfl rfl rfl (by omega) (by unfold maxLen; omega) (Nat.le_refl _) ?_
      intro w5 ho5 hb5 hgw
      rw [make_set] at ho5
      have Hxa : Hid (∀ k, k < 4096 → ∀ w', Below w4.heap.size w5 w' → w'.cell? ⟨ga, k, none⟩ = some (.bool (onS a k))) := fun k hk w' h => bset_cell (Hoa4.out.below (hb5.trans h)) hk
      have Hxb : Hid (∀ k, k < 4096 → ∀ w', Below w4.heap.size w5 w' → w'.cell? ⟨gb, k, none⟩ = some (.bool (onS b k))) := fun k hk w' h => bset_cell (Hob4.out.below (hb5.trans h)) hk
      have Hb5 := Lib.hid (Hb4.out.trans (hb5.mono Hb4.out.size))
      have Hsz := Lib.hid Hb4.out.size
      obtain ⟨F, hF⟩ : ∃ F : Nat → Bool, (fun k => opS 0 (onS a k) (onS b k)) = F := ⟨_, rfl⟩
      have HF : Hid (∀ k, k < 4096 → opS 0 (onS a k) (onS b k) = F k) := fun k _ => congrFun hF k
      rw [hF] at hf
      have Hat0 : Hid (BothAt F w5 w5 w4.heap.size 0) := by
        refine ⟨?_, Below.refl _ _⟩
        rw [show setL (fun t => decide (t < 0) && F t) = setL fun _ => false from setL_congr fun t _ => by simp]
        exact ho5
      clear ho5 hb5 Hoa4 Hob4 Hb4 hF
      generalize w4.heap.size = g at *
      generalize onS a = fa at *
      generalize onS b = fb at *
      go_wp2_with fail
      go_loopw [11] (fun vk wr => ∃ (k : Nat), vk = .int .i64 (k : Int) ∧ k ≤ 4096 ∧ Hid (BothAt F w5 wr g k)) (fun vk _ => 4096 - (intOf vk).toNat)
      case atStart => exact ⟨0, rfl, by omega, Hat0⟩
      case round =>
        obtain ⟨k, rfl, hk, Hat⟩ := hrel
        by_cases hkn : k < 4096
        · have hkI : (k : Int) < 4096 := by omega
          have hk0 : (0 : Int) ≤ (k : Int) := by omega
          have d1 := Hxa.out k hkn _ Hat.out.2
          have d2 := Hxb.out k hkn _ Hat.out.2
          have HY : Hid (fb k = fb k) := rfl
          revert HY d2
          generalize hy : fb k = y
          intro d2 _
          have HY : Hid (fb k = y) := hy
          clear hy
          cases hx : fa k
          · rw [hx] at d1
            obtain ⟨hp, hfr, old, hold⟩ := Hat.out.put (k := k) hkn (false) (by rw [← HF.out k hkn, hx, HY.out]; simp [opS]) (Nat.le_of_lt hgw)
            have Hp := Lib.hid hp
            clear hp Hat hx
            go_wp2_with fail
            go_roundw
            case rel => exact ⟨k + 1, by go_num, by omega, Hp⟩
            case measure => simp only [intOf, Int.toNat_natCast]; omega
          · rw [hx] at d1
            obtain ⟨hp, hfr, old, hold⟩ := Hat.out.put (k := k) hkn (y) (by rw [← HF.out k hkn, hx, HY.out]; simp [opS]) (Nat.le_of_lt hgw)
            have Hp := Lib.hid hp
            clear hp Hat hx
            go_wp2_with fail
            go_roundw
            case rel => exact ⟨k + 1, by go_num, by omega, Hp⟩
            case measure => simp only [intOf, Int.toNat_natCast]; omega
        · obtain rfl : k = 4096 := by omega
          have Hsp : Hid (Calls Try.prog 28 #[.slice (some ⟨g, 0, none⟩) 4096 4096] wr fun e w' => SpsOK (spansF F 4096) wr e w') := by
            have h9 := Hat.out.1
            rw [show setL (fun t => decide (t < 4096) && F t) = setL F from setL_congr fun t ht => by rw [decide_eq_true ht, Bool.true_and]] at h9
            exact rspans_any _ 4096 _ wr h9.rd
          generalize spansF F 4096 = m at *
          have Hb := Lib.hid (Hb5.out.trans (Hat.out.2.mono Hsz.out))
          clear Hat
          go_wp2_with fail
          refine Hsp.out.mono ?_
          rintro e w9 ⟨⟨A3, c3, rfl, ho3⟩, hb3⟩
          have Ho3 := Lib.hid (ho3.lower Hb.out.size)
          have Hb3 := Lib.hid (Hb.out.trans (hb3.mono Hb.out.size))
          clear ho3 hb3
          go_wp2_with fail
          go_ret2
          exact ⟨.inr ⟨m, A3, c3, hf.out, rfl, Ho3.out⟩, Hb3.out⟩

set_option maxHeartbeats 16000000 in
set_option maxRecDepth 100000 in
theorem rboth1_any (a b : List SpanM) (n nb c cb : Nat) (A B : Option Addr) (w : World) (hl : a.length = n) (hr : Rd w A (spc a)) (hlb : b.length = nb) (hrb : Rd w B (spc b)) (hn : n ≤ 5000) (hnb : nb ≤ 5000) :
    Calls Try.prog 24 #[.slice A n c, .slice B nb cb, .int .i64 1] w fun e w' => ResOK (bothS 1 a b) w e w' := by
  have hria := Lib.hid (srright_any a n c A w hl hr (by omega))
  have hrib := Lib.hid (fun q => srright_any b nb cb B (w.drewN q) hlb hrb (by omega))
  have hsa := Lib.hid (fun q => rset_any a n c A (w.drewN q) hl hr hn)
  have hsb := Lib.hid (fun w' (h : Below w.heap.size w w') => rset_any b nb cb B w' hlb (hrb.below h) hnb)
  clear hl hr hlb hrb hn hnb
  cases ha : rightS a
  · have hf := Lib.hid (bothS_none1 1 (b := b) ha)
    rw [ha] at hria
    clear ha hsa hsb hrib
    go_enter Try.func24, Try.ntmps24
    go_wp2_with fail
    refine hria.out.mono ?_
    rintro e w1 ⟨rfl, q, rfl⟩
    go_wp2_with fail
    go_ret2
    exact ⟨.inl ⟨hf.out, rfl⟩, below_drewN' (Below.refl _ _) q⟩
  · cases hb : rightS b
    · have hf := Lib.hid (bothS_none2 1 (a := a) hb)
      rw [ha] at hria
      rw [hb] at hrib
      clear ha hb hsa hsb
      go_enter Try.func24, Try.ntmps24
      go_wp2_with fail
      refine hria.out.mono ?_
      rintro e w1 ⟨rfl, q, rfl⟩
      go_wp2_with fail
      refine (hrib.out q).mono ?_
      rintro e w2 ⟨rfl, q2, rfl⟩
      go_wp2_with fail
      go_ret2
      exact ⟨.inl ⟨hf.out, rfl⟩, below_drewN' (Below.refl _ _) (q + q2)⟩
    · have hf := Lib.hid (bothS_some 1 ha hb)
      rw [ha] at hria
      rw [hb] at hrib
      simp only [ha, Bool.true_and] at hsa
      simp only [hb, Bool.true_and] at hsb
      clear ha hb
      go_enter Try.func24, Try.ntmps24
      go_wp2_with fail
      refine hria.out.mono ?_
      rintro e w1 ⟨rfl, q, rfl⟩
      go_wp2_with fail
      refine (hrib.out q).mono ?_
      rintro e w2 ⟨rfl, q2, rfl⟩
      go_wp2_with fail
      refine (hsa.out (q + q2)).mono ?_
      rintro e w3 ⟨⟨ga, rfl, hoa⟩, hb3⟩
      have Hb3 : Hid (Below w.heap.size w w3) := (below_drewN' (Below.refl w.heap.size w) (q + q2)).trans hb3
      have Hoa := Lib.hid hoa
      clear hb3 hoa hsa hria hrib
      go_wp2_with fail
      refine (hsb.out w3 Hb3.out).mono ?_
      rintro e w4 ⟨⟨gb, rfl, hob⟩, hb4⟩
      have Hoa4 := Lib.hid (Hoa.out.below hb4)
      have Hob4 := Lib.hid hob
      have Hb4 := Lib.hid (Hb3.out.trans (hb4.mono Hb3.out.size))
      clear hob hb4 Hoa Hb3 hsb
      go_wp2_with (first | (at_builtin; refine hold ?_) | (at_make; refine hold ?_))
      (with_reducible refine unhold ?_)
      refine wpList_mkn rfl _ _ _ rfl Ebool w4.heap.size _ _ _ _ 4096 rfl rfl rfl rfl (by omega) (by unfold maxLen; omega) (Nat.le_refl _) ?_
      intro w5 ho5 hb5 hgw
      rw [make_set] at ho5
      have Hxa : Hid (∀ k, k < 4096 → ∀ w', Below w4.heap.size w5 w' → w'.cell? ⟨ga, k, none⟩ = some (.bool (onS a k))) := fun k hk w' h => bset_cell (Hoa4.out.below (hb5.trans h)) hk
      have Hxb : Hid (∀ k, k < 4096 → ∀ w', Below w4.heap.size w5 w' → w'.cell? ⟨gb, k, none⟩ = some (.bool (onS b k))) := fun k hk w' h => bset_cell (Hob4.out.below (hb5.trans h)) hk
      have Hb5 := Lib.hid (Hb4.out.trans (hb5.mono Hb4.out.size))
      have Hsz := Lib.hid Hb4.out.size
      obtain ⟨F, hF⟩ : ∃ F : Nat → Bool, (fun k => opS 1 (onS a k) (onS b k)) = F := ⟨_, rfl⟩
      have HF : Hid (∀ k, k < 4096 → opS 1 (onS a k) (onS b k) = F k) := fun k _ => congrFun hF k
      rw [hF] at hf
      have Hat0 : Hid (BothAt F w5 w5 w4.heap.size 0) := by
        refine ⟨?_, Below.refl _ _⟩
        rw [show setL (fun t => decide (t < 0) && F t) = setL fun _ => false from setL_congr fun t _ => by simp]
        exact ho5
      clear ho5 hb5 Hoa4 Hob4 Hb4 hF
      generalize w4.heap.size = g at *
      generalize onS a = fa at *
      generalize onS b = fb at *
      go_wp2_with fail
      go_loopw [11] (fun vk wr => ∃ (k : Nat), vk = .int .i64 (k : Int) ∧ k ≤ 4096 ∧ Hid (BothAt F w5 wr g k)) (fun vk _ => 4096 - (intOf vk).toNat)
      case atStart => exact ⟨0, rfl, by omega, Hat0⟩
      case round =>
        obtain ⟨k, rfl, hk, Hat⟩ := hrel
        by_cases hkn : k < 4096
        · have hkI : (k : Int) < 4096 := by omega
          have hk0 : (0 : Int) ≤ (k : Int) := by omega
          have d1 := Hxa.out k hkn _ Hat.out.2
          have d2 := Hxb.out k hkn _ Hat.out.2
          have HY : Hid (fb k = fb k) := rfl
          revert HY d2
          generalize hy : fb k = y
          intro d2 _
          have HY : Hid (fb k = y) := hy
          clear hy
          cases hx : fa k
          · rw [hx] at d1
            obtain ⟨hp, hfr, old, hold⟩ := Hat.out.put (k := k) hkn (y) (by rw [← HF.out k hkn, hx, HY.out]; simp [opS]) (Nat.le_of_lt hgw)
            have Hp := Lib.hid hp
            clear hp Hat hx
            go_wp2_with fail
            go_roundw
            case rel => exact ⟨k + 1, by go_num, by omega, Hp⟩
            case measure => simp only [intOf, Int.toNat_natCast]; omega
          · rw [hx] at d1
            obtain ⟨hp, hfr, old, hold⟩ := Hat.out.put (k := k) hkn (true) (by rw [← HF.out k hkn, hx, HY.out]; simp [opS]) (Nat.le_of_lt hgw)
            have Hp := Lib.hid hp
            clear hp Hat hx
            go_wp2_with fail
            go_roundw
            case rel => exact ⟨k + 1, by go_num, by omega, Hp⟩
            case measure => simp only [intOf, Int.toNat_natCast]; omega
        · obtain rfl : k = 4096 := by omega
          have Hsp : Hid (Calls Try.prog 28 #[.slice (some ⟨g, 0, none⟩) 4096 4096] wr fun e w' => SpsOK (spansF F 4096) wr e w') := by
            have h9 := Hat.out.1
            rw [show setL (fun t => decide (t < 4096) && F t) = setL F from setL_congr fun t ht => by rw [decide_eq_true ht, Bool.true_and]] at h9
            exact rspans_any _ 4096 _ wr h9.rd
          generalize spansF F 4096 = m at *
          have Hb := Lib.hid (Hb5.out.trans (Hat.out.2.mono Hsz.out))
          clear Hat
          go_wp2_with fail
          refine Hsp.out.mono ?_
          rintro e w9 ⟨⟨A3, c3, rfl, ho3⟩, hb3⟩
          have Ho3 := Lib.hid (ho3.lower Hb.out.size)
          have Hb3 := Lib.hid (Hb.out.trans (hb3.mono Hb.out.size))
          clear ho3 hb3
          go_wp2_with fail
          go_ret2
          exact ⟨.inr ⟨m, A3, c3, hf.out, rfl, Ho3.out⟩, Hb3.out⟩

set_option maxHeartbeats 16000000 in
set_option maxRecDepth 100000 in
theorem rboth2_any (a b : List SpanM) (n nb c cb : Nat) (A B : Option Addr) (w : World) (hl : a.length = n) (hr : Rd w A (spc a)) (hlb : b.length = nb) (hrb : Rd w B (spc b)) (hn : n ≤ 5000) (hnb : nb ≤ 5000) :
    Calls Try.prog 24 #[.slice A n c, .slice B nb cb, .int .i64 2] w fun e w' => ResOK (bothS 2 a b) w e w' := by
  have hria := Lib.hid (srright_any a n c A w hl hr (by omega))
  have hrib := Lib.hid (fun q => srright_any b nb cb B (w.drewN q) hlb hrb (by omega))
  have hsa := Lib.hid (fun q => rset_any a n c A (w.drewN q) hl hr hn)
  have hsb := Lib.hid (fun w' (h : Below w.heap.size w w') => rset_any b nb cb B w' hlb (hrb.below h) hnb)
  clear hl hr hlb hrb hn hnb
  cases ha : rightS a
  · have hf := Lib.hid (bothS_none1 2 (b := b) ha)
    rw [ha] at hria
    clear ha hsa hsb hrib
    go_enter Try.func24, Try.ntmps24
    go_wp2_with fail
    refine hria.out.mono ?_
    rintro e w1 ⟨rfl, q, rfl⟩
    go_wp2_with fail
    go_ret2
    exact ⟨.inl ⟨hf.out, rfl⟩, below_drewN' (Below.refl _ _) q⟩
  · cases hb : rightS b
    · have hf := Lib.hid (bothS_none2 2 (a := a) hb)
      rw [ha] at hria
      rw [hb] at hrib
      clear ha hb hsa hsb
      go_enter Try.func24, Try.ntmps24
      go_wp2_with fail
      refine hria.out.mono ?_
      rintro e w1 ⟨rfl, q, rfl⟩
      go_wp2_with fail
      refine (hrib.out q).mono ?_
      rintro e w2 ⟨rfl, q2, rfl⟩
      go_wp2_with fail
      go_ret2
      exact ⟨.inl ⟨hf.out, rfl⟩, below_drewN' (Below.refl _ _) (q + q2)⟩
    · have hf := Lib.hid (bothS_some 2 ha hb)
      rw [ha] at hria
      rw [hb] at hrib
      simp only [ha, Bool.true_and] at hsa
      simp only [hb, Bool.true_and] at hsb
      clear ha hb
      go_enter Try.func24, Try.ntmps24
      go_wp2_with fail
      refine hria.out.mono ?_
      rintro e w1 ⟨rfl, q, rfl⟩
      go_wp2_with fail
      refine (hrib.out q).mono ?_
      rintro e w2 ⟨rfl, q2, rfl⟩
      go_wp2_with fail
      refine (hsa.out (q + q2)).mono ?_
      rintro e w3 ⟨⟨ga, rfl, hoa⟩, hb3⟩
      have Hb3 : Hid (Below w.heap.size w w3) := (below_drewN' (Below.refl w.heap.size w) (q + q2)).trans hb3
      have Hoa := Lib.hid hoa
      clear hb3 hoa hsa hria hrib
      go_wp2_with fail
      refine (hsb.out w3 Hb3.out).mono ?_
      rintro e w4 ⟨⟨gb, rfl, hob⟩, hb4⟩
      have Hoa4 := Lib.hid (Hoa.out.below hb4)
      have Hob4 := Lib.hid hob
      have Hb4 := Lib.hid (Hb3.out.trans (hb4.mono Hb3.out.size))
      clear hob hb4 Hoa Hb3 hsb
      go_wp2_with (first | (at_builtin; refine hold ?_) | (at_make; refine hold ?_))
      (with_reducible refine unhold ?_)
      refine wpList_mkn rfl _ _ _ rfl Ebool w4.heap.size _ _ _ _ 4096 rfl rfl rfl rfl (by omega) (by unfold maxLen; omega) (Nat.le_refl _) ?_
      intro w5 ho5 hb5 hgw
      rw [make_set] at ho5
      have Hxa : Hid (∀ k, k < 4096 → ∀ w', Below w4.heap.size w5 w' → w'.cell? ⟨ga, k, none⟩ = some (.bool (onS a k))) := fun k hk w' h => bset_cell (Hoa4.out.below (hb5.trans h)) hk
      have Hxb : Hid (∀ k, k < 4096 → ∀ w', Below w4.heap.size w5 w' → w'.cell? ⟨gb, k, none⟩ = some (.bool (onS b k))) := fun k hk w' h => bset_cell (Hob4.out.below (hb5.trans h)) hk
      have Hb5 := Lib.hid (Hb4.out.trans (hb5.mono Hb4.out.size))
      have Hsz := Lib.hid Hb4.out.size
      obtain ⟨F, hF⟩ : ∃ F : Nat → Bool, (fun k => opS 2 (onS a k) (onS b k)) = F := ⟨_, rfl⟩
      have HF : Hid (∀ k, k < 4096 → opS 2 (onS a k) (onS b k) = F k) := fun k _ => congrFun hF k
      rw [hF] at hf
      have Hat0 : Hid (BothAt F w5 w5 w4.heap.size 0) := by
        refine ⟨?_, Below.refl _ _⟩
        rw [show setL (fun t => decide (t < 0) && F t) = setL fun _ => false from setL_congr fun t _ => by simp]
        exact ho5
      clear ho5 hb5 Hoa4 Hob4 Hb4 hF
      generalize w4.heap.size = g at *
      generalize onS a = fa at *
      generalize onS b = fb at *
      go_wp2_with fail
      go_loopw [11] (fun vk wr => ∃ (k : Nat), vk = .int .i64 (k : Int) ∧ k ≤ 4096 ∧ Hid (BothAt F w5 wr g k)) (fun vk _ => 4096 - (intOf vk).toNat)
      case atStart => exact ⟨0, rfl, by omega, Hat0⟩
      case round =>
        obtain ⟨k, rfl, hk, Hat⟩ := hrel
        by_cases hkn : k < 4096
        · have hkI : (k : Int) < 4096 := by omega
          have hk0 : (0 : Int) ≤ (k : Int) := by omega
          have d1 := Hxa.out k hkn _ Hat.out.2
          have d2 := Hxb.out k hkn _ Hat.out.2
          have HY : Hid (fb k = fb k) := rfl
          revert HY d2
          generalize hy : fb k = y
          intro d2 _
          have HY : Hid (fb k = y) := hy
          clear hy
          cases hx : fa k
          · rw [hx] at d1
            obtain ⟨hp, hfr, old, hold⟩ := Hat.out.put (k := k) hkn (false) (by rw [← HF.out k hkn, hx, HY.out]; simp [opS]) (Nat.le_of_lt hgw)
            have Hp := Lib.hid hp
            clear hp Hat hx
            go_wp2_with fail
            go_roundw
            case rel => exact ⟨k + 1, by go_num, by omega, Hp⟩
            case measure => simp only [intOf, Int.toNat_natCast]; omega
          · rw [hx] at d1
            obtain ⟨hp, hfr, old, hold⟩ := Hat.out.put (k := k) hkn (!y) (by rw [← HF.out k hkn, hx, HY.out]; simp [opS]) (Nat.le_of_lt hgw)
            have Hp := Lib.hid hp
            clear hp Hat hx
            go_wp2_with fail
            go_roundw
            case rel => exact ⟨k + 1, by go_num, by omega, Hp⟩
            case measure => simp only [intOf, Int.toNat_natCast]; omega
        · obtain rfl : k = 4096 := by omega
          have Hsp : Hid (Calls Try.prog 28 #[.slice (some ⟨g, 0, none⟩) 4096 4096] wr fun e w' => SpsOK (spansF F 4096) wr e w') := by
            have h9 := Hat.out.1
            rw [show setL (fun t => decide (t < 4096) && F t) = setL F from setL_congr fun t ht => by rw [decide_eq_true ht, Bool.true_and]] at h9
            exact rspans_any _ 4096 _ wr h9.rd
          generalize spansF F 4096 = m at *
          have Hb := Lib.hid (Hb5.out.trans (Hat.out.2.mono Hsz.out))
          clear Hat
          go_wp2_with fail
          refine Hsp.out.mono ?_
          rintro e w9 ⟨⟨A3, c3, rfl, ho3⟩, hb3⟩
          have Ho3 := Lib.hid (ho3.lower Hb.out.size)
          have Hb3 := Lib.hid (Hb.out.trans (hb3.mono Hb.out.size))
          clear ho3 hb3
          go_wp2_with fail
          go_ret2
          exact ⟨.inr ⟨m, A3, c3, hf.out, rfl, Ho3.out⟩, Hb3.out⟩
end Go.Proofs.Ytjfpflnijkokaaa
