/- One act on a store and on the reference's: both answer alike, and both are what the act makes of the pages. -/
import Derived.Test.YtnlaeiadakdbkaaRStZ
import Derived.Test.YtnlaeiadakdbkaaPagG
import Derived.Test.YtnlaeiadakdbkaaLw5a
namespace Go.Proofs.Ytnlaeiadakdbkaa
open Go.RowKit

attribute [local go_sem ↓] Go.wp_at_zero Go.wp_at_succ

/-- Both stores, of the same pages; what was there ahead of the statement stands. -/
structure Two (w0 w : World) (bs rs : Nat) (s : Pg.St) : Prop where
  sto : Sto w w0.heap.size bs s
  ref : RSto w w0.heap.size rs s
  below : Below w0.heap.size w0 w

abbrev TwoT : List TypeId := StT ++ RefT
theorem Two.keeps {w0 w w' : World} {bs rs : Nat} {s : Pg.St} {T : List TypeId} {B : Nat} (h : Two w0 w bs rs s) (hk : Keeps T B w w') (hT : ∀ t ∈ TwoT, t ∉ T) (hB : w0.heap.size ≤ B) (hw : B ≤ w.heap.size) : Two w0 w' bs rs s :=
  ⟨h.sto.keeps hk fun t ht => hT t (List.mem_append_left _ ht), h.ref.keeps hk fun t ht => hT t (List.mem_append_right _ ht), h.below.trans ((hk.below hw).mono hB)⟩
theorem Two.young {w0 w w' : World} {bs rs : Nat} {s : Pg.St} (h : Two w0 w bs rs s) (hb : Below w.heap.size w w') : Two w0 w' bs rs s :=
  ⟨h.sto.below hb, h.ref.below hb, h.below.trans (hb.mono h.below.size)⟩

/-- What an act makes of the pages. -/
def actS (s : Pg.St) (kind at' nn : Int) (b : List UInt8) (l : List Int) (m : UInt8) : Pg.St :=
  if kind % 7 = 0 then Pg.allocS s nn else if kind % 7 = 1 then Pg.freeS s at' else if kind % 7 = 2 then Pg.writeS s at' b else if kind % 7 = 3 then Pg.flipS s at' nn m
  else if kind % 7 = 4 then Pg.putS s b else if kind % 7 = 5 then s else Pg.dropS s l
/-- An argument's cells are none of the stores'. -/
theorem rs_arg {T : List TypeId} {w0 w : World} {A : Option Addr} {xs : List Value} (h : Rd w0 A xs) (hb : Below w0.heap.size w0 w) : Rs T w0.heap.size w A xs := by
  by_cases hx : xs = []
  · subst hx; exact Rs.nil _ _ _ _
  · refine Rs.of_arg (h.below hb) fun b o e => ?_
    obtain ⟨b', o', e', hr⟩ := h hx
    rw [e] at e'
    injection e' with e'
    injection e' with e'
    rw [e']
    exact lt_of_range hr hx

set_option maxHeartbeats 1000000 in
set_option maxRecDepth 100000 in
theorem does_0 (w0 w : World) (bs rs : Nat) (s : Pg.St) (kind at' nn : Int) (b : List UInt8) (l : List Int) (m : UInt8) (A L : Option Addr) (bn bc ln lc : Nat) (hT : Two w0 w bs rs s) (hbl : b.length = bn) (hll : l.length = ln) (hA : Rd w0 A (Bs b)) (hL : Rd w0 L (Js l)) (hbn : bn ≤ 500) (hln : ln ≤ 20)
    (hbc : bn ≤ bc) (hbm : bc ≤ 9223372036854775807) (hk : kind % 7 = 0) (hk0 : 0 ≤ kind ∧ kind ≤ 255) (hat : -9223372036854775808 ≤ at' ∧ at' ≤ 9223372036854775807) (hnn : -9223372036854775808 ≤ nn ∧ nn ≤ 9223372036854775807) (hlb : ∀ i ∈ l, -9223372036854775808 ≤ i ∧ i ≤ 9223372036854775807) :
    Calls Try.prog 16 #[.pointer (some ⟨bs, 0, none⟩), .pointer (some ⟨rs, 0, none⟩), .agg #[.int .u8 kind, .int .i64 at', .int .i64 nn, .slice A bn bc, .slice L ln lc, .int .u8 (m.toNat : Int)]] w fun e w' => e = .returned (.bool true) ∧ Two w0 w' bs rs (actS s kind at' nn b l m) ∧ Keeps TwoT w0.heap.size w w' := by
  have hact : Hid (actS s kind at' nn b l m = Pg.allocS s nn) := by show _ = _; unfold actS; rw [if_pos hk]
  have hbl' := Lib.hid hbl
  have hll' := Lib.hid hll
  have hlb' := Lib.hid hlb
  clear hbl hll hlb
  have hzw := hT.below.size
  go_enter Try.func16, Try.ntmps16
  go_wp2_with (first | (at_builtin; refine hold ?_) | (at_make; refine hold ?_))
  (with_reducible refine unhold ?_)
  have hbox0 := Blk.new w 43 #[.int .u8 kind, .int .i64 at', .int .i64 nn, .slice A bn bc, .slice L ln lc, .int .u8 (m.toNat : Int)]
  have hT1 := hT.young ((Below.refl _ _).alloc (Nat.le_refl _) (.cells #[.int .u8 kind, .int .i64 at', .int .i64 nn, .slice A bn bc, .slice L ln lc, .int .u8 (m.toNat : Int)] 43))
  have hk1 : Keeps TwoT w0.heap.size w _ := (Keeps.refl TwoT w0.heap.size w).alloc (.cells #[.int .u8 kind, .int .i64 at', .int .i64 nn, .slice A bn bc, .slice L ln lc, .int .u8 (m.toNat : Int)] 43)
  have hz1 : (w.alloc (.cells #[.int .u8 kind, .int .i64 at', .int .i64 nn, .slice A bn bc, .slice L ln lc, .int .u8 (m.toNat : Int)] 43)).heap.size = w.heap.size + 1 := World.size_alloc ..
  generalize w.alloc (.cells #[.int .u8 kind, .int .i64 at', .int .i64 nn, .slice A bn bc, .slice L ln lc, .int .u8 (m.toNat : Int)] 43) = w1 at *
  have ho1 : Own (w1.alloc (.cells #[] 5)) (w.heap.size + 1) 5 1 (some ⟨w1.heap.size, 0, none⟩) 0 0 [] := World.ownsRow_made w1 #[] 0 (by omega) (by unfold maxLen; omega) rfl
  rw [hz1] at ho1
  have hA1 := (hA.below hT1.below).alloc (.cells #[] 5)
  refine wpList_apd rfl _ _ _ rfl E8 (w.heap.size + 1) _ 0 _ [] rfl ho1 A bn bc (Bs b) rfl (by rw [List.length_map, hbl'.out, Nat.mul_one]) hA1 (Bs_one b) bn (by omega) (Bs b) rfl (by omega) (by omega) (by simp; omega) ?_
  intro O oc w2 ho2 hg2 _
  have hkg := ((Keeps.refl [5] (w.heap.size + 1) w1).alloc _).trans (Own.apd_keeps ho1 hg2)
  have hT2 := hT1.keeps hkg (by decide) (by omega) (by omega)
  have hbox2 : Blk w2 w.heap.size 43 [.int .u8 kind, .int .i64 at', .int .i64 nn, .slice A bn bc, .slice L ln lc, .int .u8 (m.toNat : Int)] := Blk.keeps hbox0 (by decide) hkg
  have hk2 : Keeps TwoT w0.heap.size w w2 := hk1.then_young hkg (by omega)
  have hz2 := hk2.size
  have hz12 : w.heap.size + 1 ≤ w2.heap.size := by have := hkg.size; omega
  clear hg2 hkg ho1 hA1 hT1 hk1 hbox0 hT
  have hx0 := hbox2.cell 0
  have hx1 := hbox2.cell 1
  have hx2 := hbox2.cell 2
  have hx3 := hbox2.cell 3
  have hx4 := hbox2.cell 4
  have hx5 := hbox2.cell 5
  simp only [List.getElem?_cons_zero, List.getElem?_cons_succ] at hx0 hx1 hx2 hx3 hx4 hx5
  have Hbox := Lib.hid hbox2
  have hB2 := hT2.below.size
  clear hbox2
  go_wp2_with fail
  refine (alloc_c w0.heap.size bs s nn w2 hT2.sto hnn.1 hnn.2 hB2).mono ?_
  rintro e w3 ⟨A3, c3, rfl, ho3, hs3, hk3⟩
  have hm := sto_len hT2.sto
  have hlen : Hid ((Pg.allocL s nn).length ≤ 4096) := by
    show _ ≤ _
    unfold Pg.allocL
    split
    · exact Nat.le_trans (Nat.le_trans (List.length_take_le' ..) (Nat.le_trans (List.length_filter_le ..) (by rw [List.length_range]; exact Nat.le_refl _))) hm
    · simp
  have hr3 := hT2.ref.keeps hk3 (by decide)
  have hz3 := hk3.size
  have hx2' := (Hbox.out.keeps (by decide) hk3).cell 2
  simp only [List.getElem?_cons_zero, List.getElem?_cons_succ] at hx2'
  go_wp2_with fail
  refine (ralloc_c w0.heap.size rs s nn w3 hr3 hnn.1 hnn.2 (by omega)).mono ?_
  rintro e w4 ⟨A4, c4, rfl, ho4, hs4, hk4⟩
  have hz4 := hk4.size
  have ho34 := Own.keeps ho3 (by decide) hk4
  have hk34 : Keeps TwoT w0.heap.size w2 w4 := (hk3.more (by decide)).trans (hk4.more (by decide))
  have hT4 : Two w0 w4 bs rs (Pg.allocS s nn) := ⟨hs3.keeps hk4 (by decide), hs4, hT2.below.trans (hk34.below hB2)⟩
  have hot0 := Own.keeps ho2 (by decide) hk34
  have hkt0 := hk2.trans hk34
  generalize Pg.allocE s nn = E at *
  generalize Pg.allocL s nn = I at *
  go_wp2_with fail
  refine (ints_any (I.map Int.ofNat) (I.map Int.ofNat) _ _ A3 A4 c3 c4 w4 (by rw [List.length_map]) (by rw [List.length_map]) (Rd.of_own_js ho34) (Rd.of_own_js ho4) (Nat.le_trans hlen.out (by decide)) (Nat.le_trans hlen.out (by decide))).mono ?_
  rw [decide_eq_true rfl]
  rintro e w5 ⟨rfl, q, rfl⟩
  have hTt : Two w0 (w4.drewN q) bs rs (Pg.allocS s nn) := hT4.young (below_drewN' (Below.refl _ _) q)
  have hot : Own (w4.drewN q) (w.heap.size + 1) 5 1 O bn oc (Bs b) := Own.below hot0 (below_drewN' (Below.refl _ _) q)
  have hkt : Keeps TwoT w0.heap.size w (w4.drewN q) := hkt0.drewN q
  have hzt : w.heap.size + 1 ≤ (w4.drewN q).heap.size := by show _ ≤ w4.heap.size; omega
  generalize w4.drewN q = w5 at *
  clear hT4 hot0 hkt0 ho34 ho4 ho3
  go_wp2_with fail
  obtain ⟨wt, rfl⟩ : ∃ x : World, x = w5 := ⟨_, rfl⟩
  go_loopw [167] (fun i wr => ∃ (j : Nat) (x : List UInt8), j ≤ bn ∧ i = .int .i64 j ∧ Hid (x.length = bn) ∧ Own wr (w.heap.size + 1) 5 1 O bn oc (Bs x) ∧ Keeps [5] (w.heap.size + 1) wt wr) (fun i _ => bn - (intOf i).toNat)
  case atStart => exact ⟨0, b, by omega, rfl, hbl'.out, hot, Keeps.refl _ _ _⟩
  case round =>
    obtain ⟨j, x, hj, rfl, hx, ho, hkx⟩ := hrel
    by_cases hlt : j < bn
    · rcases ho.lies with ⟨_, h0, _⟩ | ⟨g, cur, rfl, _, _, _, _, _⟩
      · omega
      have hjx : j < x.length := by rw [hx.out]; exact hlt
      have hcj := ho.cellAt j (by omega)
      rw [List.getElem?_map, List.getElem?_eq_getElem hjx, Option.map_some] at hcj
      have hfj := ho.frozenAt j
      have hsj := ho.stored j (B (x[j] ^^^ 85))
      rw [← List.map_set] at hsj
      unfold B at hcj hsj
      rw [UInt8.toNat_xor, show (85 : UInt8).toNat = 85 from rfl] at hsj
      have hxo := u8_xor_nat x[j].toNat 85 x[j].toNat_lt (by omega)
      rw [show ((85 : Nat) : Int) = 85 from rfl] at hxo
      have Hs := Lib.hid hsj
      have Ho := Lib.hid ho
      have Hlx : Hid ((x.set j (x[j] ^^^ 85)).length = bn) := by show _ = _; rw [List.length_set, hx.out]
      generalize x.set j (x[j] ^^^ 85) = x' at *
      generalize x[j] = xj at *
      clear ho hsj hjx
      go_wp2_with fail
      go_roundw
      case rel => exact ⟨j + 1, x', by omega, by go_num, Hlx.out, Hs.out.1, hkx.trans (Own.apd_keeps Ho.out Hs.out.2)⟩
      case measure => simp [intOf]; omega
    · obtain rfl : j = bn := by omega
      go_wp2_with fail
      go_ret
      rw [hact.out]
      exact ⟨rfl, hTt.keeps hkx (by decide) (by have := hTt.below.size; omega) hzt, hkt.then_young hkx (by omega)⟩

set_option maxHeartbeats 1000000 in
set_option maxRecDepth 100000 in
theorem does_1 (w0 w : World) (bs rs : Nat) (s : Pg.St) (kind at' nn : Int) (b : List UInt8) (l : List Int) (m : UInt8) (A L : Option Addr) (bn bc ln lc : Nat) (hT : Two w0 w bs rs s) (hbl : b.length = bn) (hll : l.length = ln) (hA : Rd w0 A (Bs b)) (hL : Rd w0 L (Js l)) (hbn : bn ≤ 500) (hln : ln ≤ 20)
    (hbc : bn ≤ bc) (hbm : bc ≤ 9223372036854775807) (hk : kind % 7 = 1) (hk0 : 0 ≤ kind ∧ kind ≤ 255) (hat : -9223372036854775808 ≤ at' ∧ at' ≤ 9223372036854775807) (hnn : -9223372036854775808 ≤ nn ∧ nn ≤ 9223372036854775807) (hlb : ∀ i ∈ l, -9223372036854775808 ≤ i ∧ i ≤ 9223372036854775807) :
    Calls Try.prog 16 #[.pointer (some ⟨bs, 0, none⟩), .pointer (some ⟨rs, 0, none⟩), .agg #[.int .u8 kind, .int .i64 at', .int .i64 nn, .slice A bn bc, .slice L ln lc, .int .u8 (m.toNat : Int)]] w fun e w' => e = .returned (.bool true) ∧ Two w0 w' bs rs (actS s kind at' nn b l m) ∧ Keeps TwoT w0.heap.size w w' := by
  have hact : Hid (actS s kind at' nn b l m = Pg.freeS s at') := by show _ = _; unfold actS; rw [if_neg (by omega), if_pos hk]
  have hbl' := Lib.hid hbl
  have hll' := Lib.hid hll
  have hlb' := Lib.hid hlb
  clear hbl hll hlb
  have hzw := hT.below.size
  go_enter Try.func16, Try.ntmps16
  go_wp2_with (first | (at_builtin; refine hold ?_) | (at_make; refine hold ?_))
  (with_reducible refine unhold ?_)
  have hbox0 := Blk.new w 43 #[.int .u8 kind, .int .i64 at', .int .i64 nn, .slice A bn bc, .slice L ln lc, .int .u8 (m.toNat : Int)]
  have hT1 := hT.young ((Below.refl _ _).alloc (Nat.le_refl _) (.cells #[.int .u8 kind, .int .i64 at', .int .i64 nn, .slice A bn bc, .slice L ln lc, .int .u8 (m.toNat : Int)] 43))
  have hk1 : Keeps TwoT w0.heap.size w _ := (Keeps.refl TwoT w0.heap.size w).alloc (.cells #[.int .u8 kind, .int .i64 at', .int .i64 nn, .slice A bn bc, .slice L ln lc, .int .u8 (m.toNat : Int)] 43)
  have hz1 : (w.alloc (.cells #[.int .u8 kind, .int .i64 at', .int .i64 nn, .slice A bn bc, .slice L ln lc, .int .u8 (m.toNat : Int)] 43)).heap.size = w.heap.size + 1 := World.size_alloc ..
  generalize w.alloc (.cells #[.int .u8 kind, .int .i64 at', .int .i64 nn, .slice A bn bc, .slice L ln lc, .int .u8 (m.toNat : Int)] 43) = w1 at *
  have ho1 : Own (w1.alloc (.cells #[] 5)) (w.heap.size + 1) 5 1 (some ⟨w1.heap.size, 0, none⟩) 0 0 [] := World.ownsRow_made w1 #[] 0 (by omega) (by unfold maxLen; omega) rfl
  rw [hz1] at ho1
  have hA1 := (hA.below hT1.below).alloc (.cells #[] 5)
  refine wpList_apd rfl _ _ _ rfl E8 (w.heap.size + 1) _ 0 _ [] rfl ho1 A bn bc (Bs b) rfl (by rw [List.length_map, hbl'.out, Nat.mul_one]) hA1 (Bs_one b) bn (by omega) (Bs b) rfl (by omega) (by omega) (by simp; omega) ?_
  intro O oc w2 ho2 hg2 _
  have hkg := ((Keeps.refl [5] (w.heap.size + 1) w1).alloc _).trans (Own.apd_keeps ho1 hg2)
  have hT2 := hT1.keeps hkg (by decide) (by omega) (by omega)
  have hbox2 : Blk w2 w.heap.size 43 [.int .u8 kind, .int .i64 at', .int .i64 nn, .slice A bn bc, .slice L ln lc, .int .u8 (m.toNat : Int)] := Blk.keeps hbox0 (by decide) hkg
  have hk2 : Keeps TwoT w0.heap.size w w2 := hk1.then_young hkg (by omega)
  have hz2 := hk2.size
  have hz12 : w.heap.size + 1 ≤ w2.heap.size := by have := hkg.size; omega
  clear hg2 hkg ho1 hA1 hT1 hk1 hbox0 hT
  have hx0 := hbox2.cell 0
  have hx1 := hbox2.cell 1
  have hx2 := hbox2.cell 2
  have hx3 := hbox2.cell 3
  have hx4 := hbox2.cell 4
  have hx5 := hbox2.cell 5
  simp only [List.getElem?_cons_zero, List.getElem?_cons_succ] at hx0 hx1 hx2 hx3 hx4 hx5
  have Hbox := Lib.hid hbox2
  have hB2 := hT2.below.size
  clear hbox2
  go_wp2_with fail
  go_region_held3 (fun w' => w'.cell? ⟨w.heap.size, 1, none⟩ = some (.int .i64 at'))
    (first | assumption | exact ⟨hx1, hx3⟩ | exact hx1' | exact hx1'')
    (first | (go_at_call 11; refine (free_c w0.heap.size bs s at' _ (by exact hT2.sto.drewN 1) hat.1 hat.2).mono ?_; rintro e w3 ⟨rfl, hs3, hk3'⟩; have hk3 : Keeps StT w0.heap.size w2 w3 := ⟨hk3'.os, hk3'.tape, hk3'.output, hk3'.size, hk3'.block⟩; have hr3 := hT2.ref.keeps hk3 (by decide); have hz3 := hk3.size; have hB3 : w0.heap.size ≤ w3.heap.size := (by omega); have hx1' := ((Hbox.out.keeps (by decide) hk3).cell 1).trans ((Hbox.out.cell 1).symm.trans hx1); have hx3' := ((Hbox.out.keeps (by decide) hk3).cell 3).trans ((Hbox.out.cell 3).symm.trans hx3)) | (go_at_call 33; refine (rfree_c w0.heap.size rs s at' _ hr3 hat.1 hat.2).mono ?_; rintro e w4 ⟨rfl, hs4, hk4⟩; have hx1'' := (((Hbox.out.keeps (by decide) hk3).keeps (by decide) hk4).cell 1).trans (((Hbox.out.keeps (by decide) hk3).cell 1).symm.trans hx1'); have hx3'' := (((Hbox.out.keeps (by decide) hk3).keeps (by decide) hk4).cell 3).trans (((Hbox.out.keeps (by decide) hk3).cell 3).symm.trans hx3')))
  have hz4 := hk4.size
  have hk34 : Keeps TwoT w0.heap.size w2 w4 := (hk3.more (by decide)).trans (hk4.more (by decide))
  have hTt : Two w0 w4 bs rs (Pg.freeS s at') := ⟨hs3.keeps hk4 (by decide), hs4, hT2.below.trans (hk34.below hB2)⟩
  have hot := Own.keeps ho2 (by decide) hk34
  have hkt := hk2.trans hk34
  have hzt : w.heap.size + 1 ≤ w4.heap.size := by have := hk3.size; omega
  go_wp2_with fail
  obtain ⟨wt, rfl⟩ : ∃ x : World, x = w4 := ⟨_, rfl⟩
  go_loopw [167] (fun i wr => ∃ (j : Nat) (x : List UInt8), j ≤ bn ∧ i = .int .i64 j ∧ Hid (x.length = bn) ∧ Own wr (w.heap.size + 1) 5 1 O bn oc (Bs x) ∧ Keeps [5] (w.heap.size + 1) wt wr) (fun i _ => bn - (intOf i).toNat)
  case atStart => exact ⟨0, b, by omega, rfl, hbl'.out, hot, Keeps.refl _ _ _⟩
  case round =>
    obtain ⟨j, x, hj, rfl, hx, ho, hkx⟩ := hrel
    by_cases hlt : j < bn
    · rcases ho.lies with ⟨_, h0, _⟩ | ⟨g, cur, rfl, _, _, _, _, _⟩
      · omega
      have hjx : j < x.length := by rw [hx.out]; exact hlt
      have hcj := ho.cellAt j (by omega)
      rw [List.getElem?_map, List.getElem?_eq_getElem hjx, Option.map_some] at hcj
      have hfj := ho.frozenAt j
      have hsj := ho.stored j (B (x[j] ^^^ 85))
      rw [← List.map_set] at hsj
      unfold B at hcj hsj
      rw [UInt8.toNat_xor, show (85 : UInt8).toNat = 85 from rfl] at hsj
      have hxo := u8_xor_nat x[j].toNat 85 x[j].toNat_lt (by omega)
      rw [show ((85 : Nat) : Int) = 85 from rfl] at hxo
      have Hs := Lib.hid hsj
      have Ho := Lib.hid ho
      have Hlx : Hid ((x.set j (x[j] ^^^ 85)).length = bn) := by show _ = _; rw [List.length_set, hx.out]
      generalize x.set j (x[j] ^^^ 85) = x' at *
      generalize x[j] = xj at *
      clear ho hsj hjx
      go_wp2_with fail
      go_roundw
      case rel => exact ⟨j + 1, x', by omega, by go_num, Hlx.out, Hs.out.1, hkx.trans (Own.apd_keeps Ho.out Hs.out.2)⟩
      case measure => simp [intOf]; omega
    · obtain rfl : j = bn := by omega
      go_wp2_with fail
      go_ret
      rw [hact.out]
      exact ⟨rfl, hTt.keeps hkx (by decide) (by have := hTt.below.size; omega) hzt, hkt.then_young hkx (by omega)⟩

set_option maxHeartbeats 1000000 in
set_option maxRecDepth 100000 in
theorem does_2 (w0 w : World) (bs rs : Nat) (s : Pg.St) (kind at' nn : Int) (b : List UInt8) (l : List Int) (m : UInt8) (A L : Option Addr) (bn bc ln lc : Nat) (hT : Two w0 w bs rs s) (hbl : b.length = bn) (hll : l.length = ln) (hA : Rd w0 A (Bs b)) (hL : Rd w0 L (Js l)) (hbn : bn ≤ 500) (hln : ln ≤ 20)
    (hbc : bn ≤ bc) (hbm : bc ≤ 9223372036854775807) (hk : kind % 7 = 2) (hk0 : 0 ≤ kind ∧ kind ≤ 255) (hat : -9223372036854775808 ≤ at' ∧ at' ≤ 9223372036854775807) (hnn : -9223372036854775808 ≤ nn ∧ nn ≤ 9223372036854775807) (hlb : ∀ i ∈ l, -9223372036854775808 ≤ i ∧ i ≤ 9223372036854775807) :
    Calls Try.prog 16 #[.pointer (some ⟨bs, 0, none⟩), .pointer (some ⟨rs, 0, none⟩), .agg #[.int .u8 kind, .int .i64 at', .int .i64 nn, .slice A bn bc, .slice L ln lc, .int .u8 (m.toNat : Int)]] w fun e w' => e = .returned (.bool true) ∧ Two w0 w' bs rs (actS s kind at' nn b l m) ∧ Keeps TwoT w0.heap.size w w' := by
  have hact : Hid (actS s kind at' nn b l m = Pg.writeS s at' b) := by show _ = _; unfold actS; rw [if_neg (by omega), if_neg (by omega), if_pos hk]
  have hbl' := Lib.hid hbl
  have hll' := Lib.hid hll
  have hlb' := Lib.hid hlb
  clear hbl hll hlb
  have hzw := hT.below.size
  go_enter Try.func16, Try.ntmps16
  go_wp2_with (first | (at_builtin; refine hold ?_) | (at_make; refine hold ?_))
  (with_reducible refine unhold ?_)
  have hbox0 := Blk.new w 43 #[.int .u8 kind, .int .i64 at', .int .i64 nn, .slice A bn bc, .slice L ln lc, .int .u8 (m.toNat : Int)]
  have hT1 := hT.young ((Below.refl _ _).alloc (Nat.le_refl _) (.cells #[.int .u8 kind, .int .i64 at', .int .i64 nn, .slice A bn bc, .slice L ln lc, .int .u8 (m.toNat : Int)] 43))
  have hk1 : Keeps TwoT w0.heap.size w _ := (Keeps.refl TwoT w0.heap.size w).alloc (.cells #[.int .u8 kind, .int .i64 at', .int .i64 nn, .slice A bn bc, .slice L ln lc, .int .u8 (m.toNat : Int)] 43)
  have hz1 : (w.alloc (.cells #[.int .u8 kind, .int .i64 at', .int .i64 nn, .slice A bn bc, .slice L ln lc, .int .u8 (m.toNat : Int)] 43)).heap.size = w.heap.size + 1 := World.size_alloc ..
  generalize w.alloc (.cells #[.int .u8 kind, .int .i64 at', .int .i64 nn, .slice A bn bc, .slice L ln lc, .int .u8 (m.toNat : Int)] 43) = w1 at *
  have ho1 : Own (w1.alloc (.cells #[] 5)) (w.heap.size + 1) 5 1 (some ⟨w1.heap.size, 0, none⟩) 0 0 [] := World.ownsRow_made w1 #[] 0 (by omega) (by unfold maxLen; omega) rfl
  rw [hz1] at ho1
  have hA1 := (hA.below hT1.below).alloc (.cells #[] 5)
  refine wpList_apd rfl _ _ _ rfl E8 (w.heap.size + 1) _ 0 _ [] rfl ho1 A bn bc (Bs b) rfl (by rw [List.length_map, hbl'.out, Nat.mul_one]) hA1 (Bs_one b) bn (by omega) (Bs b) rfl (by omega) (by omega) (by simp; omega) ?_
  intro O oc w2 ho2 hg2 _
  have hkg := ((Keeps.refl [5] (w.heap.size + 1) w1).alloc _).trans (Own.apd_keeps ho1 hg2)
  have hT2 := hT1.keeps hkg (by decide) (by omega) (by omega)
  have hbox2 : Blk w2 w.heap.size 43 [.int .u8 kind, .int .i64 at', .int .i64 nn, .slice A bn bc, .slice L ln lc, .int .u8 (m.toNat : Int)] := Blk.keeps hbox0 (by decide) hkg
  have hk2 : Keeps TwoT w0.heap.size w w2 := hk1.then_young hkg (by omega)
  have hz2 := hk2.size
  have hz12 : w.heap.size + 1 ≤ w2.heap.size := by have := hkg.size; omega
  clear hg2 hkg ho1 hA1 hT1 hk1 hbox0 hT
  have hx0 := hbox2.cell 0
  have hx1 := hbox2.cell 1
  have hx2 := hbox2.cell 2
  have hx3 := hbox2.cell 3
  have hx4 := hbox2.cell 4
  have hx5 := hbox2.cell 5
  simp only [List.getElem?_cons_zero, List.getElem?_cons_succ] at hx0 hx1 hx2 hx3 hx4 hx5
  have Hbox := Lib.hid hbox2
  have hB2 := hT2.below.size
  clear hbox2
  go_wp2_with fail
  go_region_held3 (fun w' => w'.cell? ⟨w.heap.size, 1, none⟩ = some (.int .i64 at') ∧ w'.cell? ⟨w.heap.size, 3, none⟩ = some (.slice A bn bc))
    (first | assumption | exact ⟨hx1, hx3⟩ | exact ⟨hx1', hx3'⟩ | exact ⟨hx1'', hx3''⟩)
    (first | (go_at_call 26; refine (write_c w0.heap.size bs s at' O b bn oc _ (by exact hT2.sto.drewN 1) hat.1 hat.2 hbl'.out (by exact ho2.rd) (by exact hB2)).mono ?_; rintro e w3 ⟨rfl, hs3, hk3'⟩; have hk3 : Keeps StT w0.heap.size w2 w3 := ⟨hk3'.os, hk3'.tape, hk3'.output, hk3'.size, hk3'.block⟩; have hr3 := hT2.ref.keeps hk3 (by decide); have hz3 := hk3.size; have hB3 : w0.heap.size ≤ w3.heap.size := (by omega); have hx1' := ((Hbox.out.keeps (by decide) hk3).cell 1).trans ((Hbox.out.cell 1).symm.trans hx1); have hx3' := ((Hbox.out.keeps (by decide) hk3).cell 3).trans ((Hbox.out.cell 3).symm.trans hx3)) | (go_at_call 34; refine (rwrite_c w0.heap.size rs s at' A b bn bc _ hr3 hat.1 hat.2 hbl'.out (by exact hA.below (hT2.below.trans (hk3.below hB2))) hB3 (by omega)).mono ?_; rintro e w4 ⟨rfl, hs4, hk4⟩; have hx1'' := (((Hbox.out.keeps (by decide) hk3).keeps (by decide) hk4).cell 1).trans (((Hbox.out.keeps (by decide) hk3).cell 1).symm.trans hx1'); have hx3'' := (((Hbox.out.keeps (by decide) hk3).keeps (by decide) hk4).cell 3).trans (((Hbox.out.keeps (by decide) hk3).cell 3).symm.trans hx3')))
  have hz4 := hk4.size
  have hk34 : Keeps TwoT w0.heap.size w2 w4 := (hk3.more (by decide)).trans (hk4.more (by decide))
  have hTt : Two w0 w4 bs rs (Pg.writeS s at' b) := ⟨hs3.keeps hk4 (by decide), hs4, hT2.below.trans (hk34.below hB2)⟩
  have hot := Own.keeps ho2 (by decide) hk34
  have hkt := hk2.trans hk34
  have hzt : w.heap.size + 1 ≤ w4.heap.size := by have := hk3.size; omega
  go_wp2_with fail
  obtain ⟨wt, rfl⟩ : ∃ x : World, x = w4 := ⟨_, rfl⟩
  go_loopw [167] (fun i wr => ∃ (j : Nat) (x : List UInt8), j ≤ bn ∧ i = .int .i64 j ∧ Hid (x.length = bn) ∧ Own wr (w.heap.size + 1) 5 1 O bn oc (Bs x) ∧ Keeps [5] (w.heap.size + 1) wt wr) (fun i _ => bn - (intOf i).toNat)
  case atStart => exact ⟨0, b, by omega, rfl, hbl'.out, hot, Keeps.refl _ _ _⟩
  case round =>
    obtain ⟨j, x, hj, rfl, hx, ho, hkx⟩ := hrel
    by_cases hlt : j < bn
    · rcases ho.lies with ⟨_, h0, _⟩ | ⟨g, cur, rfl, _, _, _, _, _⟩
      · omega
      have hjx : j < x.length := by rw [hx.out]; exact hlt
      have hcj := ho.cellAt j (by omega)
      rw [List.getElem?_map, List.getElem?_eq_getElem hjx, Option.map_some] at hcj
      have hfj := ho.frozenAt j
      have hsj := ho.stored j (B (x[j] ^^^ 85))
      rw [← List.map_set] at hsj
      unfold B at hcj hsj
      rw [UInt8.toNat_xor, show (85 : UInt8).toNat = 85 from rfl] at hsj
      have hxo := u8_xor_nat x[j].toNat 85 x[j].toNat_lt (by omega)
      rw [show ((85 : Nat) : Int) = 85 from rfl] at hxo
      have Hs := Lib.hid hsj
      have Ho := Lib.hid ho
      have Hlx : Hid ((x.set j (x[j] ^^^ 85)).length = bn) := by show _ = _; rw [List.length_set, hx.out]
      generalize x.set j (x[j] ^^^ 85) = x' at *
      generalize x[j] = xj at *
      clear ho hsj hjx
      go_wp2_with fail
      go_roundw
      case rel => exact ⟨j + 1, x', by omega, by go_num, Hlx.out, Hs.out.1, hkx.trans (Own.apd_keeps Ho.out Hs.out.2)⟩
      case measure => simp [intOf]; omega
    · obtain rfl : j = bn := by omega
      go_wp2_with fail
      go_ret
      rw [hact.out]
      exact ⟨rfl, hTt.keeps hkx (by decide) (by have := hTt.below.size; omega) hzt, hkt.then_young hkx (by omega)⟩

set_option maxHeartbeats 1000000 in
set_option maxRecDepth 100000 in
theorem does_3 (w0 w : World) (bs rs : Nat) (s : Pg.St) (kind at' nn : Int) (b : List UInt8) (l : List Int) (m : UInt8) (A L : Option Addr) (bn bc ln lc : Nat) (hT : Two w0 w bs rs s) (hbl : b.length = bn) (hll : l.length = ln) (hA : Rd w0 A (Bs b)) (hL : Rd w0 L (Js l)) (hbn : bn ≤ 500) (hln : ln ≤ 20)
    (hbc : bn ≤ bc) (hbm : bc ≤ 9223372036854775807) (hk : kind % 7 = 3) (hk0 : 0 ≤ kind ∧ kind ≤ 255) (hat : -9223372036854775808 ≤ at' ∧ at' ≤ 9223372036854775807) (hnn : -9223372036854775808 ≤ nn ∧ nn ≤ 9223372036854775807) (hlb : ∀ i ∈ l, -9223372036854775808 ≤ i ∧ i ≤ 9223372036854775807) :
    Calls Try.prog 16 #[.pointer (some ⟨bs, 0, none⟩), .pointer (some ⟨rs, 0, none⟩), .agg #[.int .u8 kind, .int .i64 at', .int .i64 nn, .slice A bn bc, .slice L ln lc, .int .u8 (m.toNat : Int)]] w fun e w' => e = .returned (.bool true) ∧ Two w0 w' bs rs (actS s kind at' nn b l m) ∧ Keeps TwoT w0.heap.size w w' := by
  have hact : Hid (actS s kind at' nn b l m = Pg.flipS s at' nn m) := by show _ = _; unfold actS; rw [if_neg (by omega), if_neg (by omega), if_neg (by omega), if_pos hk]
  have hbl' := Lib.hid hbl
  have hll' := Lib.hid hll
  have hlb' := Lib.hid hlb
  clear hbl hll hlb
  have hzw := hT.below.size
  go_enter Try.func16, Try.ntmps16
  go_wp2_with (first | (at_builtin; refine hold ?_) | (at_make; refine hold ?_))
  (with_reducible refine unhold ?_)
  have hbox0 := Blk.new w 43 #[.int .u8 kind, .int .i64 at', .int .i64 nn, .slice A bn bc, .slice L ln lc, .int .u8 (m.toNat : Int)]
  have hT1 := hT.young ((Below.refl _ _).alloc (Nat.le_refl _) (.cells #[.int .u8 kind, .int .i64 at', .int .i64 nn, .slice A bn bc, .slice L ln lc, .int .u8 (m.toNat : Int)] 43))
  have hk1 : Keeps TwoT w0.heap.size w _ := (Keeps.refl TwoT w0.heap.size w).alloc (.cells #[.int .u8 kind, .int .i64 at', .int .i64 nn, .slice A bn bc, .slice L ln lc, .int .u8 (m.toNat : Int)] 43)
  have hz1 : (w.alloc (.cells #[.int .u8 kind, .int .i64 at', .int .i64 nn, .slice A bn bc, .slice L ln lc, .int .u8 (m.toNat : Int)] 43)).heap.size = w.heap.size + 1 := World.size_alloc ..
  generalize w.alloc (.cells #[.int .u8 kind, .int .i64 at', .int .i64 nn, .slice A bn bc, .slice L ln lc, .int .u8 (m.toNat : Int)] 43) = w1 at *
  have ho1 : Own (w1.alloc (.cells #[] 5)) (w.heap.size + 1) 5 1 (some ⟨w1.heap.size, 0, none⟩) 0 0 [] := World.ownsRow_made w1 #[] 0 (by omega) (by unfold maxLen; omega) rfl
  rw [hz1] at ho1
  have hA1 := (hA.below hT1.below).alloc (.cells #[] 5)
  refine wpList_apd rfl _ _ _ rfl E8 (w.heap.size + 1) _ 0 _ [] rfl ho1 A bn bc (Bs b) rfl (by rw [List.length_map, hbl'.out, Nat.mul_one]) hA1 (Bs_one b) bn (by omega) (Bs b) rfl (by omega) (by omega) (by simp; omega) ?_
  intro O oc w2 ho2 hg2 _
  have hkg := ((Keeps.refl [5] (w.heap.size + 1) w1).alloc _).trans (Own.apd_keeps ho1 hg2)
  have hT2 := hT1.keeps hkg (by decide) (by omega) (by omega)
  have hbox2 : Blk w2 w.heap.size 43 [.int .u8 kind, .int .i64 at', .int .i64 nn, .slice A bn bc, .slice L ln lc, .int .u8 (m.toNat : Int)] := Blk.keeps hbox0 (by decide) hkg
  have hk2 : Keeps TwoT w0.heap.size w w2 := hk1.then_young hkg (by omega)
  have hz2 := hk2.size
  have hz12 : w.heap.size + 1 ≤ w2.heap.size := by have := hkg.size; omega
  clear hg2 hkg ho1 hA1 hT1 hk1 hbox0 hT
  have hx0 := hbox2.cell 0
  have hx1 := hbox2.cell 1
  have hx2 := hbox2.cell 2
  have hx3 := hbox2.cell 3
  have hx4 := hbox2.cell 4
  have hx5 := hbox2.cell 5
  simp only [List.getElem?_cons_zero, List.getElem?_cons_succ] at hx0 hx1 hx2 hx3 hx4 hx5
  have Hbox := Lib.hid hbox2
  have hB2 := hT2.below.size
  clear hbox2
  go_wp2_with fail
  refine (flip_c w0.heap.size bs s at' nn m w2 hT2.sto hat.1 hat.2).mono ?_
  rintro e w3 ⟨rfl, hs3, hk3⟩
  have hr3 := hT2.ref.keeps hk3 (by decide)
  have hz3 := hk3.size
  have hB3 : w0.heap.size ≤ w3.heap.size := by omega
  have hbx3 := Hbox.out.keeps (by decide) hk3
  have hx1' := hbx3.cell 1
  have hx2' := hbx3.cell 2
  have hx3' := hbx3.cell 3
  have hx4' := hbx3.cell 4
  have hx5' := hbx3.cell 5
  simp only [List.getElem?_cons_zero, List.getElem?_cons_succ] at hx1' hx2' hx3' hx4' hx5'
  clear hbx3
  go_wp2_with fail
  refine (rflip_c w0.heap.size rs s at' nn m w3 hr3 hat.1 hat.2 hB3).mono ?_
  rintro e w4 ⟨rfl, hs4, hk4⟩
  have hz4 := hk4.size
  have hk34 : Keeps TwoT w0.heap.size w2 w4 := (hk3.more (by decide)).trans (hk4.more (by decide))
  have hTt : Two w0 w4 bs rs (Pg.flipS s at' nn m) := ⟨hs3.keeps hk4 (by decide), hs4, hT2.below.trans (hk34.below hB2)⟩
  have hot := Own.keeps ho2 (by decide) hk34
  have hkt := hk2.trans hk34
  have hzt : w.heap.size + 1 ≤ w4.heap.size := by have := hk3.size; omega
  go_wp2_with fail
  obtain ⟨wt, rfl⟩ : ∃ x : World, x = w4 := ⟨_, rfl⟩
  go_loopw [167] (fun i wr => ∃ (j : Nat) (x : List UInt8), j ≤ bn ∧ i = .int .i64 j ∧ Hid (x.length = bn) ∧ Own wr (w.heap.size + 1) 5 1 O bn oc (Bs x) ∧ Keeps [5] (w.heap.size + 1) wt wr) (fun i _ => bn - (intOf i).toNat)
  case atStart => exact ⟨0, b, by omega, rfl, hbl'.out, hot, Keeps.refl _ _ _⟩
  case round =>
    obtain ⟨j, x, hj, rfl, hx, ho, hkx⟩ := hrel
    by_cases hlt : j < bn
    · rcases ho.lies with ⟨_, h0, _⟩ | ⟨g, cur, rfl, _, _, _, _, _⟩
      · omega
      have hjx : j < x.length := by rw [hx.out]; exact hlt
      have hcj := ho.cellAt j (by omega)
      rw [List.getElem?_map, List.getElem?_eq_getElem hjx, Option.map_some] at hcj
      have hfj := ho.frozenAt j
      have hsj := ho.stored j (B (x[j] ^^^ 85))
      rw [← List.map_set] at hsj
      unfold B at hcj hsj
      rw [UInt8.toNat_xor, show (85 : UInt8).toNat = 85 from rfl] at hsj
      have hxo := u8_xor_nat x[j].toNat 85 x[j].toNat_lt (by omega)
      rw [show ((85 : Nat) : Int) = 85 from rfl] at hxo
      have Hs := Lib.hid hsj
      have Ho := Lib.hid ho
      have Hlx : Hid ((x.set j (x[j] ^^^ 85)).length = bn) := by show _ = _; rw [List.length_set, hx.out]
      generalize x.set j (x[j] ^^^ 85) = x' at *
      generalize x[j] = xj at *
      clear ho hsj hjx
      go_wp2_with fail
      go_roundw
      case rel => exact ⟨j + 1, x', by omega, by go_num, Hlx.out, Hs.out.1, hkx.trans (Own.apd_keeps Ho.out Hs.out.2)⟩
      case measure => simp [intOf]; omega
    · obtain rfl : j = bn := by omega
      go_wp2_with fail
      go_ret
      rw [hact.out]
      exact ⟨rfl, hTt.keeps hkx (by decide) (by have := hTt.below.size; omega) hzt, hkt.then_young hkx (by omega)⟩

set_option maxHeartbeats 1000000 in
set_option maxRecDepth 100000 in
theorem does_4 (w0 w : World) (bs rs : Nat) (s : Pg.St) (kind at' nn : Int) (b : List UInt8) (l : List Int) (m : UInt8) (A L : Option Addr) (bn bc ln lc : Nat) (hT : Two w0 w bs rs s) (hbl : b.length = bn) (hll : l.length = ln) (hA : Rd w0 A (Bs b)) (hL : Rd w0 L (Js l)) (hbn : bn ≤ 500) (hln : ln ≤ 20)
    (hbc : bn ≤ bc) (hbm : bc ≤ 9223372036854775807) (hk : kind % 7 = 4) (hk0 : 0 ≤ kind ∧ kind ≤ 255) (hat : -9223372036854775808 ≤ at' ∧ at' ≤ 9223372036854775807) (hnn : -9223372036854775808 ≤ nn ∧ nn ≤ 9223372036854775807) (hlb : ∀ i ∈ l, -9223372036854775808 ≤ i ∧ i ≤ 9223372036854775807) :
    Calls Try.prog 16 #[.pointer (some ⟨bs, 0, none⟩), .pointer (some ⟨rs, 0, none⟩), .agg #[.int .u8 kind, .int .i64 at', .int .i64 nn, .slice A bn bc, .slice L ln lc, .int .u8 (m.toNat : Int)]] w fun e w' => e = .returned (.bool true) ∧ Two w0 w' bs rs (actS s kind at' nn b l m) ∧ Keeps TwoT w0.heap.size w w' := by
  have hact : Hid (actS s kind at' nn b l m = Pg.putS s b) := by show _ = _; unfold actS; rw [if_neg (by omega), if_neg (by omega), if_neg (by omega), if_neg (by omega), if_pos hk]
  have hbl' := Lib.hid hbl
  have hll' := Lib.hid hll
  have hlb' := Lib.hid hlb
  clear hbl hll hlb
  have hzw := hT.below.size
  go_enter Try.func16, Try.ntmps16
  go_wp2_with (first | (at_builtin; refine hold ?_) | (at_make; refine hold ?_))
  (with_reducible refine unhold ?_)
  have hbox0 := Blk.new w 43 #[.int .u8 kind, .int .i64 at', .int .i64 nn, .slice A bn bc, .slice L ln lc, .int .u8 (m.toNat : Int)]
  have hT1 := hT.young ((Below.refl _ _).alloc (Nat.le_refl _) (.cells #[.int .u8 kind, .int .i64 at', .int .i64 nn, .slice A bn bc, .slice L ln lc, .int .u8 (m.toNat : Int)] 43))
  have hk1 : Keeps TwoT w0.heap.size w _ := (Keeps.refl TwoT w0.heap.size w).alloc (.cells #[.int .u8 kind, .int .i64 at', .int .i64 nn, .slice A bn bc, .slice L ln lc, .int .u8 (m.toNat : Int)] 43)
  have hz1 : (w.alloc (.cells #[.int .u8 kind, .int .i64 at', .int .i64 nn, .slice A bn bc, .slice L ln lc, .int .u8 (m.toNat : Int)] 43)).heap.size = w.heap.size + 1 := World.size_alloc ..
  generalize w.alloc (.cells #[.int .u8 kind, .int .i64 at', .int .i64 nn, .slice A bn bc, .slice L ln lc, .int .u8 (m.toNat : Int)] 43) = w1 at *
  have ho1 : Own (w1.alloc (.cells #[] 5)) (w.heap.size + 1) 5 1 (some ⟨w1.heap.size, 0, none⟩) 0 0 [] := World.ownsRow_made w1 #[] 0 (by omega) (by unfold maxLen; omega) rfl
  rw [hz1] at ho1
  have hA1 := (hA.below hT1.below).alloc (.cells #[] 5)
  refine wpList_apd rfl _ _ _ rfl E8 (w.heap.size + 1) _ 0 _ [] rfl ho1 A bn bc (Bs b) rfl (by rw [List.length_map, hbl'.out, Nat.mul_one]) hA1 (Bs_one b) bn (by omega) (Bs b) rfl (by omega) (by omega) (by simp; omega) ?_
  intro O oc w2 ho2 hg2 _
  have hkg := ((Keeps.refl [5] (w.heap.size + 1) w1).alloc _).trans (Own.apd_keeps ho1 hg2)
  have hT2 := hT1.keeps hkg (by decide) (by omega) (by omega)
  have hbox2 : Blk w2 w.heap.size 43 [.int .u8 kind, .int .i64 at', .int .i64 nn, .slice A bn bc, .slice L ln lc, .int .u8 (m.toNat : Int)] := Blk.keeps hbox0 (by decide) hkg
  have hk2 : Keeps TwoT w0.heap.size w w2 := hk1.then_young hkg (by omega)
  have hz2 := hk2.size
  have hz12 : w.heap.size + 1 ≤ w2.heap.size := by have := hkg.size; omega
  clear hg2 hkg ho1 hA1 hT1 hk1 hbox0 hT
  have hx0 := hbox2.cell 0
  have hx1 := hbox2.cell 1
  have hx2 := hbox2.cell 2
  have hx3 := hbox2.cell 3
  have hx4 := hbox2.cell 4
  have hx5 := hbox2.cell 5
  simp only [List.getElem?_cons_zero, List.getElem?_cons_succ] at hx0 hx1 hx2 hx3 hx4 hx5
  have Hbox := Lib.hid hbox2
  have hB2 := hT2.below.size
  clear hbox2
  have hcap := ho2.cap
  unfold maxLen at hcap
  go_wp2_with fail
  refine (put_c w0.heap.size bs s O b bn oc w2 hT2.sto hbl'.out (by omega) hcap.1 (by omega) (Rs.of_own ho2 (by decide)) hB2).mono ?_
  rintro e w3 ⟨A3, c3, rfl, ho3, hs3, hk3⟩
  have hm := sto_len hT2.sto
  have hlen : Hid ((Pg.putL s b).length ≤ 4096) := by
    show _ ≤ _
    unfold Pg.putL Pg.allocL
    split
    · exact Nat.le_trans (Nat.le_trans (List.length_take_le' ..) (Nat.le_trans (List.length_filter_le ..) (by rw [List.length_range]; exact Nat.le_refl _))) hm
    · simp
  have hr3 := hT2.ref.keeps hk3 (by decide)
  have hz3 := hk3.size
  have hB3 : w0.heap.size ≤ w3.heap.size := by omega
  have hbx3 := Hbox.out.keeps (by decide) hk3
  have hx1' := hbx3.cell 1
  have hx2' := hbx3.cell 2
  have hx3' := hbx3.cell 3
  have hx4' := hbx3.cell 4
  have hx5' := hbx3.cell 5
  simp only [List.getElem?_cons_zero, List.getElem?_cons_succ] at hx1' hx2' hx3' hx4' hx5'
  clear hbx3
  go_wp2_with fail
  refine (rput_c w0.heap.size rs s A b bn bc w3 hr3 hbl'.out (by omega) hbc hbm (rs_arg hA (hT2.below.trans (hk3.below hB2))) hB3).mono ?_
  rintro e w4 ⟨A4, c4, rfl, ho4, hs4, hk4⟩
  have ho34 := Own.keeps ho3 (by decide) hk4
  have hz4 := hk4.size
  have hk34 : Keeps TwoT w0.heap.size w2 w4 := (hk3.more (by decide)).trans (hk4.more (by decide))
  have hT4 : Two w0 w4 bs rs (Pg.putS s b) := ⟨hs3.keeps hk4 (by decide), hs4, hT2.below.trans (hk34.below hB2)⟩
  have hot0 := Own.keeps ho2 (by decide) hk34
  have hkt0 := hk2.trans hk34
  generalize Pg.putE s b = E at *
  generalize Pg.putL s b = I at *
  go_wp2_with fail
  refine (ints_any (I.map Int.ofNat) (I.map Int.ofNat) _ _ A3 A4 c3 c4 w4 (by rw [List.length_map]) (by rw [List.length_map]) (Rd.of_own_js ho34) (Rd.of_own_js ho4) (Nat.le_trans hlen.out (by decide)) (Nat.le_trans hlen.out (by decide))).mono ?_
  rw [decide_eq_true rfl]
  rintro e w5 ⟨rfl, q, rfl⟩
  have hTt : Two w0 (w4.drewN q) bs rs (Pg.putS s b) := hT4.young (below_drewN' (Below.refl _ _) q)
  have hot : Own (w4.drewN q) (w.heap.size + 1) 5 1 O bn oc (Bs b) := Own.below hot0 (below_drewN' (Below.refl _ _) q)
  have hkt : Keeps TwoT w0.heap.size w (w4.drewN q) := hkt0.drewN q
  have hzt : w.heap.size + 1 ≤ (w4.drewN q).heap.size := by show _ ≤ w4.heap.size; omega
  generalize w4.drewN q = w5 at *
  clear hT4 hot0 hkt0 ho34 ho4 ho3
  go_wp2_with fail
  obtain ⟨wt, rfl⟩ : ∃ x : World, x = w5 := ⟨_, rfl⟩
  go_loopw [167] (fun i wr => ∃ (j : Nat) (x : List UInt8), j ≤ bn ∧ i = .int .i64 j ∧ Hid (x.length = bn) ∧ Own wr (w.heap.size + 1) 5 1 O bn oc (Bs x) ∧ Keeps [5] (w.heap.size + 1) wt wr) (fun i _ => bn - (intOf i).toNat)
  case atStart => exact ⟨0, b, by omega, rfl, hbl'.out, hot, Keeps.refl _ _ _⟩
  case round =>
    obtain ⟨j, x, hj, rfl, hx, ho, hkx⟩ := hrel
    by_cases hlt : j < bn
    · rcases ho.lies with ⟨_, h0, _⟩ | ⟨g, cur, rfl, _, _, _, _, _⟩
      · omega
      have hjx : j < x.length := by rw [hx.out]; exact hlt
      have hcj := ho.cellAt j (by omega)
      rw [List.getElem?_map, List.getElem?_eq_getElem hjx, Option.map_some] at hcj
      have hfj := ho.frozenAt j
      have hsj := ho.stored j (B (x[j] ^^^ 85))
      rw [← List.map_set] at hsj
      unfold B at hcj hsj
      rw [UInt8.toNat_xor, show (85 : UInt8).toNat = 85 from rfl] at hsj
      have hxo := u8_xor_nat x[j].toNat 85 x[j].toNat_lt (by omega)
      rw [show ((85 : Nat) : Int) = 85 from rfl] at hxo
      have Hs := Lib.hid hsj
      have Ho := Lib.hid ho
      have Hlx : Hid ((x.set j (x[j] ^^^ 85)).length = bn) := by show _ = _; rw [List.length_set, hx.out]
      generalize x.set j (x[j] ^^^ 85) = x' at *
      generalize x[j] = xj at *
      clear ho hsj hjx
      go_wp2_with fail
      go_roundw
      case rel => exact ⟨j + 1, x', by omega, by go_num, Hlx.out, Hs.out.1, hkx.trans (Own.apd_keeps Ho.out Hs.out.2)⟩
      case measure => simp [intOf]; omega
    · obtain rfl : j = bn := by omega
      go_wp2_with fail
      go_ret
      rw [hact.out]
      exact ⟨rfl, hTt.keeps hkx (by decide) (by have := hTt.below.size; omega) hzt, hkt.then_young hkx (by omega)⟩

set_option maxHeartbeats 1000000 in
set_option maxRecDepth 100000 in
theorem does_5 (w0 w : World) (bs rs : Nat) (s : Pg.St) (kind at' nn : Int) (b : List UInt8) (l : List Int) (m : UInt8) (A L : Option Addr) (bn bc ln lc : Nat) (hT : Two w0 w bs rs s) (hbl : b.length = bn) (hll : l.length = ln) (hA : Rd w0 A (Bs b)) (hL : Rd w0 L (Js l)) (hbn : bn ≤ 500) (hln : ln ≤ 20)
    (hbc : bn ≤ bc) (hbm : bc ≤ 9223372036854775807) (hk : kind % 7 = 5) (hk0 : 0 ≤ kind ∧ kind ≤ 255) (hat : -9223372036854775808 ≤ at' ∧ at' ≤ 9223372036854775807) (hnn : -9223372036854775808 ≤ nn ∧ nn ≤ 9223372036854775807) (hlb : ∀ i ∈ l, -9223372036854775808 ≤ i ∧ i ≤ 9223372036854775807) :
    Calls Try.prog 16 #[.pointer (some ⟨bs, 0, none⟩), .pointer (some ⟨rs, 0, none⟩), .agg #[.int .u8 kind, .int .i64 at', .int .i64 nn, .slice A bn bc, .slice L ln lc, .int .u8 (m.toNat : Int)]] w fun e w' => e = .returned (.bool true) ∧ Two w0 w' bs rs (actS s kind at' nn b l m) ∧ Keeps TwoT w0.heap.size w w' := by
  have hact : Hid (actS s kind at' nn b l m = s) := by show _ = _; unfold actS; rw [if_neg (by omega), if_neg (by omega), if_neg (by omega), if_neg (by omega), if_neg (by omega), if_pos hk]
  have hbl' := Lib.hid hbl
  have hll' := Lib.hid hll
  have hlb' := Lib.hid hlb
  clear hbl hll hlb
  have hzw := hT.below.size
  go_enter Try.func16, Try.ntmps16
  go_wp2_with (first | (at_builtin; refine hold ?_) | (at_make; refine hold ?_))
  (with_reducible refine unhold ?_)
  have hbox0 := Blk.new w 43 #[.int .u8 kind, .int .i64 at', .int .i64 nn, .slice A bn bc, .slice L ln lc, .int .u8 (m.toNat : Int)]
  have hT1 := hT.young ((Below.refl _ _).alloc (Nat.le_refl _) (.cells #[.int .u8 kind, .int .i64 at', .int .i64 nn, .slice A bn bc, .slice L ln lc, .int .u8 (m.toNat : Int)] 43))
  have hk1 : Keeps TwoT w0.heap.size w _ := (Keeps.refl TwoT w0.heap.size w).alloc (.cells #[.int .u8 kind, .int .i64 at', .int .i64 nn, .slice A bn bc, .slice L ln lc, .int .u8 (m.toNat : Int)] 43)
  have hz1 : (w.alloc (.cells #[.int .u8 kind, .int .i64 at', .int .i64 nn, .slice A bn bc, .slice L ln lc, .int .u8 (m.toNat : Int)] 43)).heap.size = w.heap.size + 1 := World.size_alloc ..
  generalize w.alloc (.cells #[.int .u8 kind, .int .i64 at', .int .i64 nn, .slice A bn bc, .slice L ln lc, .int .u8 (m.toNat : Int)] 43) = w1 at *
  have ho1 : Own (w1.alloc (.cells #[] 5)) (w.heap.size + 1) 5 1 (some ⟨w1.heap.size, 0, none⟩) 0 0 [] := World.ownsRow_made w1 #[] 0 (by omega) (by unfold maxLen; omega) rfl
  rw [hz1] at ho1
  have hA1 := (hA.below hT1.below).alloc (.cells #[] 5)
  refine wpList_apd rfl _ _ _ rfl E8 (w.heap.size + 1) _ 0 _ [] rfl ho1 A bn bc (Bs b) rfl (by rw [List.length_map, hbl'.out, Nat.mul_one]) hA1 (Bs_one b) bn (by omega) (Bs b) rfl (by omega) (by omega) (by simp; omega) ?_
  intro O oc w2 ho2 hg2 _
  have hkg := ((Keeps.refl [5] (w.heap.size + 1) w1).alloc _).trans (Own.apd_keeps ho1 hg2)
  have hT2 := hT1.keeps hkg (by decide) (by omega) (by omega)
  have hbox2 : Blk w2 w.heap.size 43 [.int .u8 kind, .int .i64 at', .int .i64 nn, .slice A bn bc, .slice L ln lc, .int .u8 (m.toNat : Int)] := Blk.keeps hbox0 (by decide) hkg
  have hk2 : Keeps TwoT w0.heap.size w w2 := hk1.then_young hkg (by omega)
  have hz2 := hk2.size
  have hz12 : w.heap.size + 1 ≤ w2.heap.size := by have := hkg.size; omega
  clear hg2 hkg ho1 hA1 hT1 hk1 hbox0 hT
  have hx0 := hbox2.cell 0
  have hx1 := hbox2.cell 1
  have hx2 := hbox2.cell 2
  have hx3 := hbox2.cell 3
  have hx4 := hbox2.cell 4
  have hx5 := hbox2.cell 5
  simp only [List.getElem?_cons_zero, List.getElem?_cons_succ] at hx0 hx1 hx2 hx3 hx4 hx5
  have Hbox := Lib.hid hbox2
  have hB2 := hT2.below.size
  clear hbox2
  go_wp2_with fail
  refine (get_c w0.heap.size bs s L l ln lc nn w2 hT2.sto hll'.out (by omega) (hL.below hT2.below) hlb'.out hnn.1 hnn.2).mono ?_
  rintro e w3 ⟨A3, c3, rfl, hr3, hb3⟩
  have hT3 := hT2.young hb3
  have hz3 := hb3.size
  have hbx3 := Hbox.out.below hb3
  have hx4' := hbx3.cell 4
  have hx2' := hbx3.cell 2
  simp only [List.getElem?_cons_zero, List.getElem?_cons_succ] at hx2' hx4'
  go_wp2_with fail
  refine (rget_c w0.heap.size rs s L l ln lc nn w3 hT3.ref hll'.out (by omega) (hL.below hT3.below) hlb'.out hnn.1 hnn.2).mono ?_
  rintro e w4 ⟨rfl, hb4⟩
  have hTt := hT3.young hb4
  have hot := (Own.below ho2 hb3).below hb4
  have hkt := (hk2.then_below hb3).then_below hb4
  have hz4 := hb4.size
  have hzt : w.heap.size + 1 ≤ w4.heap.size := by omega
  have hcv := run_str w4 A3 _ _ c3 rfl (hr3.below hb4)
  have hcv2 := run_str w4.drew A3 _ _ c3 rfl (Rd.drew (hr3.below hb4))
  have hcmp := St8_cmp (Pg.getB s l nn) (Pg.getB s l nn)
  rw [decide_eq_true rfl] at hcmp
  generalize Pg.getE s l nn = E at *
  generalize Pg.getB s l nn = X at *
  clear hr3 hT3 hbx3
  go_wp2_with fail
  obtain ⟨wt, rfl⟩ : ∃ x : World, x = w4 := ⟨_, rfl⟩
  go_loopw [167] (fun i wr => ∃ (j : Nat) (x : List UInt8), j ≤ bn ∧ i = .int .i64 j ∧ Hid (x.length = bn) ∧ Own wr (w.heap.size + 1) 5 1 O bn oc (Bs x) ∧ Keeps [5] (w.heap.size + 1) wt wr) (fun i _ => bn - (intOf i).toNat)
  case atStart => exact ⟨0, b, by omega, rfl, hbl'.out, hot, Keeps.refl _ _ _⟩
  case round =>
    obtain ⟨j, x, hj, rfl, hx, ho, hkx⟩ := hrel
    by_cases hlt : j < bn
    · rcases ho.lies with ⟨_, h0, _⟩ | ⟨g, cur, rfl, _, _, _, _, _⟩
      · omega
      have hjx : j < x.length := by rw [hx.out]; exact hlt
      have hcj := ho.cellAt j (by omega)
      rw [List.getElem?_map, List.getElem?_eq_getElem hjx, Option.map_some] at hcj
      have hfj := ho.frozenAt j
      have hsj := ho.stored j (B (x[j] ^^^ 85))
      rw [← List.map_set] at hsj
      unfold B at hcj hsj
      rw [UInt8.toNat_xor, show (85 : UInt8).toNat = 85 from rfl] at hsj
      have hxo := u8_xor_nat x[j].toNat 85 x[j].toNat_lt (by omega)
      rw [show ((85 : Nat) : Int) = 85 from rfl] at hxo
      have Hs := Lib.hid hsj
      have Ho := Lib.hid ho
      have Hlx : Hid ((x.set j (x[j] ^^^ 85)).length = bn) := by show _ = _; rw [List.length_set, hx.out]
      generalize x.set j (x[j] ^^^ 85) = x' at *
      generalize x[j] = xj at *
      clear ho hsj hjx
      go_wp2_with fail
      go_roundw
      case rel => exact ⟨j + 1, x', by omega, by go_num, Hlx.out, Hs.out.1, hkx.trans (Own.apd_keeps Ho.out Hs.out.2)⟩
      case measure => simp [intOf]; omega
    · obtain rfl : j = bn := by omega
      go_wp2_with fail
      go_ret
      rw [hact.out]
      exact ⟨rfl, hTt.keeps hkx (by decide) (by have := hTt.below.size; omega) hzt, hkt.then_young hkx (by omega)⟩

set_option maxHeartbeats 1000000 in
set_option maxRecDepth 100000 in
theorem does_6 (w0 w : World) (bs rs : Nat) (s : Pg.St) (kind at' nn : Int) (b : List UInt8) (l : List Int) (m : UInt8) (A L : Option Addr) (bn bc ln lc : Nat) (hT : Two w0 w bs rs s) (hbl : b.length = bn) (hll : l.length = ln) (hA : Rd w0 A (Bs b)) (hL : Rd w0 L (Js l)) (hbn : bn ≤ 500) (hln : ln ≤ 20)
    (hbc : bn ≤ bc) (hbm : bc ≤ 9223372036854775807) (hk : kind % 7 = 6) (hk0 : 0 ≤ kind ∧ kind ≤ 255) (hat : -9223372036854775808 ≤ at' ∧ at' ≤ 9223372036854775807) (hnn : -9223372036854775808 ≤ nn ∧ nn ≤ 9223372036854775807) (hlb : ∀ i ∈ l, -9223372036854775808 ≤ i ∧ i ≤ 9223372036854775807) :
    Calls Try.prog 16 #[.pointer (some ⟨bs, 0, none⟩), .pointer (some ⟨rs, 0, none⟩), .agg #[.int .u8 kind, .int .i64 at', .int .i64 nn, .slice A bn bc, .slice L ln lc, .int .u8 (m.toNat : Int)]] w fun e w' => e = .returned (.bool true) ∧ Two w0 w' bs rs (actS s kind at' nn b l m) ∧ Keeps TwoT w0.heap.size w w' := by
  have hact : Hid (actS s kind at' nn b l m = Pg.dropS s l) := by show _ = _; unfold actS; rw [if_neg (by omega), if_neg (by omega), if_neg (by omega), if_neg (by omega), if_neg (by omega), if_neg (by omega)]
  have hbl' := Lib.hid hbl
  have hll' := Lib.hid hll
  have hlb' := Lib.hid hlb
  clear hbl hll hlb
  have hzw := hT.below.size
  go_enter Try.func16, Try.ntmps16
  go_wp2_with (first | (at_builtin; refine hold ?_) | (at_make; refine hold ?_))
  (with_reducible refine unhold ?_)
  have hbox0 := Blk.new w 43 #[.int .u8 kind, .int .i64 at', .int .i64 nn, .slice A bn bc, .slice L ln lc, .int .u8 (m.toNat : Int)]
  have hT1 := hT.young ((Below.refl _ _).alloc (Nat.le_refl _) (.cells #[.int .u8 kind, .int .i64 at', .int .i64 nn, .slice A bn bc, .slice L ln lc, .int .u8 (m.toNat : Int)] 43))
  have hk1 : Keeps TwoT w0.heap.size w _ := (Keeps.refl TwoT w0.heap.size w).alloc (.cells #[.int .u8 kind, .int .i64 at', .int .i64 nn, .slice A bn bc, .slice L ln lc, .int .u8 (m.toNat : Int)] 43)
  have hz1 : (w.alloc (.cells #[.int .u8 kind, .int .i64 at', .int .i64 nn, .slice A bn bc, .slice L ln lc, .int .u8 (m.toNat : Int)] 43)).heap.size = w.heap.size + 1 := World.size_alloc ..
  generalize w.alloc (.cells #[.int .u8 kind, .int .i64 at', .int .i64 nn, .slice A bn bc, .slice L ln lc, .int .u8 (m.toNat : Int)] 43) = w1 at *
  have ho1 : Own (w1.alloc (.cells #[] 5)) (w.heap.size + 1) 5 1 (some ⟨w1.heap.size, 0, none⟩) 0 0 [] := World.ownsRow_made w1 #[] 0 (by omega) (by unfold maxLen; omega) rfl
  rw [hz1] at ho1
  have hA1 := (hA.below hT1.below).alloc (.cells #[] 5)
  refine wpList_apd rfl _ _ _ rfl E8 (w.heap.size + 1) _ 0 _ [] rfl ho1 A bn bc (Bs b) rfl (by rw [List.length_map, hbl'.out, Nat.mul_one]) hA1 (Bs_one b) bn (by omega) (Bs b) rfl (by omega) (by omega) (by simp; omega) ?_
  intro O oc w2 ho2 hg2 _
  have hkg := ((Keeps.refl [5] (w.heap.size + 1) w1).alloc _).trans (Own.apd_keeps ho1 hg2)
  have hT2 := hT1.keeps hkg (by decide) (by omega) (by omega)
  have hbox2 : Blk w2 w.heap.size 43 [.int .u8 kind, .int .i64 at', .int .i64 nn, .slice A bn bc, .slice L ln lc, .int .u8 (m.toNat : Int)] := Blk.keeps hbox0 (by decide) hkg
  have hk2 : Keeps TwoT w0.heap.size w w2 := hk1.then_young hkg (by omega)
  have hz2 := hk2.size
  have hz12 : w.heap.size + 1 ≤ w2.heap.size := by have := hkg.size; omega
  clear hg2 hkg ho1 hA1 hT1 hk1 hbox0 hT
  have hx0 := hbox2.cell 0
  have hx1 := hbox2.cell 1
  have hx2 := hbox2.cell 2
  have hx3 := hbox2.cell 3
  have hx4 := hbox2.cell 4
  have hx5 := hbox2.cell 5
  simp only [List.getElem?_cons_zero, List.getElem?_cons_succ] at hx0 hx1 hx2 hx3 hx4 hx5
  have Hbox := Lib.hid hbox2
  have hB2 := hT2.below.size
  clear hbox2
  go_wp2_with fail
  refine (drop_c w0.heap.size bs s L l ln lc w2 hT2.sto hll'.out (by omega) (rs_arg hL hT2.below) hlb'.out hB2).mono ?_
  rintro e w3 ⟨rfl, hs3, hk3⟩
  have hr3 := hT2.ref.keeps hk3 (by decide)
  have hz3 := hk3.size
  have hB3 : w0.heap.size ≤ w3.heap.size := by omega
  have hbx3 := Hbox.out.keeps (by decide) hk3
  have hx1' := hbx3.cell 1
  have hx2' := hbx3.cell 2
  have hx3' := hbx3.cell 3
  have hx4' := hbx3.cell 4
  have hx5' := hbx3.cell 5
  simp only [List.getElem?_cons_zero, List.getElem?_cons_succ] at hx1' hx2' hx3' hx4' hx5'
  clear hbx3
  have hb3 := hT2.below.trans (hk3.below hB2)
  go_wp2_with fail
  go_loopw [38] (fun i wr => ∃ k : Nat, k ≤ ln ∧ i = .int .i64 k ∧ RSto wr w0.heap.size rs (Pg.dropS s (l.take k)) ∧ Keeps RefT w0.heap.size w3 wr) (fun i _ => ln - (intOf i).toNat)
  case atStart => exact ⟨0, by omega, rfl, hr3, Keeps.refl _ _ _⟩
  case round =>
    obtain ⟨k, hk', rfl, hst, hkp⟩ := hrel
    have hR := hL.below (hb3.trans (hkp.below hB3))
    by_cases hlt : k < ln
    · obtain ⟨ga, oa, rfl, hga, _, hca⟩ := hR.get (k := k) (by rw [List.length_map, hll'.out]; exact hlt)
      rw [List.getElem_map] at hca
      have hkl : k < l.length := by rw [hll'.out]; exact hlt
      have htk := Lib.hid (List.take_succ_eq_append_getElem (l := l) (i := k) hkl)
      have hbd := hlb'.out _ (List.getElem_mem hkl)
      generalize l[k] = id at *
      clear hL hR hkl
      go_wp2_with fail
      refine (rfree_c w0.heap.size rs _ id wr hst hbd.1 hbd.2).mono ?_
      rintro e w4 ⟨rfl, hs4, hk4⟩
      go_wp2_with fail
      go_roundw
      case rel =>
        refine ⟨k + 1, by omega, by go_num, ?_, hkp.trans hk4⟩
        rw [htk.out, Pg.dropS_snoc]
        exact hs4
      case measure => simp [intOf]; omega
    · obtain rfl : k = ln := by omega
      have htk := Lib.hid (List.take_of_length_le (l := l) (i := k) (by rw [hll'.out]; exact Nat.le_refl _))
      rw [htk.out] at hst
      have hs4 := hst
      have hk4 := hkp
      clear hR hst
      obtain ⟨w4, rfl⟩ : ∃ x : World, x = wr := ⟨_, rfl⟩
      have hz4 := hk4.size
      have hk34 : Keeps TwoT w0.heap.size w2 w4 := (hk3.more (by decide)).trans (hk4.more (by decide))
      have hTt : Two w0 w4 bs rs (Pg.dropS s l) := ⟨hs3.keeps hk4 (by decide), hs4, hT2.below.trans (hk34.below hB2)⟩
      have hot := Own.keeps ho2 (by decide) hk34
      have hkt := hk2.trans hk34
      have hzt : w.heap.size + 1 ≤ w4.heap.size := by have := hk3.size; omega
      go_wp2_with fail
      obtain ⟨wt, rfl⟩ : ∃ x : World, x = w4 := ⟨_, rfl⟩
      go_loopw [167] (fun i wr => ∃ (j : Nat) (x : List UInt8), j ≤ bn ∧ i = .int .i64 j ∧ Hid (x.length = bn) ∧ Own wr (w.heap.size + 1) 5 1 O bn oc (Bs x) ∧ Keeps [5] (w.heap.size + 1) wt wr) (fun i _ => bn - (intOf i).toNat)
      case atStart => exact ⟨0, b, by omega, rfl, hbl'.out, hot, Keeps.refl _ _ _⟩
      case round =>
        obtain ⟨j, x, hj, rfl, hx, ho, hkx⟩ := hrel
        by_cases hlt : j < bn
        · rcases ho.lies with ⟨_, h0, _⟩ | ⟨g, cur, rfl, _, _, _, _, _⟩
          · omega
          have hjx : j < x.length := by rw [hx.out]; exact hlt
          have hcj := ho.cellAt j (by omega)
          rw [List.getElem?_map, List.getElem?_eq_getElem hjx, Option.map_some] at hcj
          have hfj := ho.frozenAt j
          have hsj := ho.stored j (B (x[j] ^^^ 85))
          rw [← List.map_set] at hsj
          unfold B at hcj hsj
          rw [UInt8.toNat_xor, show (85 : UInt8).toNat = 85 from rfl] at hsj
          have hxo := u8_xor_nat x[j].toNat 85 x[j].toNat_lt (by omega)
          rw [show ((85 : Nat) : Int) = 85 from rfl] at hxo
          have Hs := Lib.hid hsj
          have Ho := Lib.hid ho
          have Hlx : Hid ((x.set j (x[j] ^^^ 85)).length = bn) := by show _ = _; rw [List.length_set, hx.out]
          generalize x.set j (x[j] ^^^ 85) = x' at *
          generalize x[j] = xj at *
          clear ho hsj hjx
          go_wp2_with fail
          go_roundw
          case rel => exact ⟨j + 1, x', by omega, by go_num, Hlx.out, Hs.out.1, hkx.trans (Own.apd_keeps Ho.out Hs.out.2)⟩
          case measure => simp [intOf]; omega
        · obtain rfl : j = bn := by omega
          go_wp2_with fail
          go_ret
          rw [hact.out]
          exact ⟨rfl, hTt.keeps hkx (by decide) (by have := hTt.below.size; omega) hzt, hkt.then_young hkx (by omega)⟩

end Go.Proofs.Ytnlaeiadakdbkaa
