/- Walks: a value's number. -/
import Derived.Test.YtghaffafglfdlaaBlM
namespace Go.Proofs.Ytghaffafglfdlaa
open Go.RowKit

attribute [local go_sem ↓] Go.wp_at_zero Go.wp_at_succ

set_option maxHeartbeats 4000000 in
set_option maxRecDepth 100000 in
theorem hash_any (v : Va) (seed : Nat) (w : World) (hv : rightV v = true) (hok : v.ok) (hs : seed < 18446744073709551616) :
    Calls Try.prog 68 #[v.agg, .int .u64 (seed : Int)] w fun e w' => e = .returned (.int .u64 (hashV v seed : Nat)) ∧ Below w.heap.size w w' := by
  have hp := fun w1 => cput_any [] 0 0 v none w1 rfl (Rd.nil _ _) (by omega) hv hok
  have hlen := vput_le hv hok
  have e0 := Lib.hid (fnv0_eq seed hs)
  have hH : Hid (hashV v seed = fnv (fnv0 seed) (vput v) ^^^ fnv (fnv0 seed) (vput v) / 4294967296) := rfl
  have hl0 := fnv0_lt hs
  rw [List.nil_append, Nat.zero_add] at hp
  generalize vput v = l at *
  generalize hashV v seed = R at *
  generalize fnv0 seed = f0 at *
  have Hp := Lib.hid hp
  obtain ⟨L, hL⟩ : ∃ L, L = l.length := ⟨_, rfl⟩
  rw [← hL] at hlen hp Hp
  have HL := Lib.hid hL
  clear hp hv hok hL
  unfold Va.agg at *
  have hbA : Below w.heap.size w (w.alloc (.cells #[.int .u8 v.k, .int .i64 v.n, .string (St8 v.s)] 30)) := (Below.refl _ _).alloc (Nat.le_refl _) _
  go_enter Try.func68, Try.ntmps68
  go_wp2_with fail
  refine (Hp.out _).mono ?_
  rintro e w1 ⟨A, c, rfl, ho, hb⟩
  have hr := ho.rd
  have hbW := hbA.trans (hb.mono hbA.size)
  clear ho hb Hp hbA
  go_wp2_with fail
  go_loop [5, 13] (fun h i => ∃ k : Nat, k ≤ L ∧ i = .int .i64 (k : Int) ∧ h = .int .u64 (fnv f0 (l.take k) : Nat)) (fun _ i => L - (intOf i).toNat)
  case atStart => exact ⟨0, by omega, by go_num, by rw [e0.out, List.take_zero]; rfl⟩
  case round =>
    obtain ⟨k, hk, rfl, rfl⟩ := hrel
    have hm : fnv f0 (l.take k) < 18446744073709551616 := fnv_lt _ hl0
    by_cases hlt : k < L
    · have hlt' : k < l.length := by rw [← HL.out]; exact hlt
      obtain ⟨b, o, rfl, hbb, hrr, hc⟩ := hr.get (k := k) (by simpa using hlt')
      rw [List.getElem_map] at hc
      have hs := Lib.hid (fnv_take l f0 hlt')
      generalize fnv f0 (l.take k) = m at *
      unfold B at hc
      generalize l[k] = ch at *
      have hcb := ch.toNat_lt
      have hcb1 : ((ch.toNat : Nat) : Int) ≤ 255 := by omega
      have hcb0 : (0 : Int) ≤ ((ch.toNat : Nat) : Int) := by omega
      have hcw : IntKind.u64.wrap ((ch.toNat : Nat) : Int) = ((ch.toNat : Nat) : Int) := by rw [IntKind.wrap_u64]; omega
      have he := Lib.hid (fnv_eq m ch hm)
      clear hr hrr hlt'
      go_wp2_with fail
      go_round
      case rel => exact ⟨k + 1, by omega, by go_num, by first | (rw [hs.out, ← he.out]; done) | (rw [hs.out, ← he.out, IntKind.wrap_u64])⟩
      case measure => first | (simp [intOf]; done) | (simp [intOf]; omega)
    · obtain rfl : k = L := by omega
      have hx := Lib.hid (xorShift_u64 (fnv f0 (l.take k)) 4294967296 hm)
      have hfin : l.take k = l := by rw [HL.out]; exact List.take_length
      rw [hfin] at hx hm ⊢
      generalize fnv f0 l = m at *
      have hw : IntKind.u64.wrap ((m : Int) / 4294967296) = (m : Int) / 4294967296 := by rw [IntKind.wrap_u64]; omega
      clear hr hfin
      go_wp2_with fail
      go_ret
      rw [hH.out, ← hx.out]
      exact ⟨by simp, hbW⟩

set_option maxHeartbeats 4000000 in
set_option maxRecDepth 100000 in
theorem rhash_any (v : Va) (seed : Nat) (w : World) (hv : rightV v = true) (hok : v.ok) (hs : seed < 18446744073709551616) :
    Calls Try.prog 55 #[v.agg, .int .u64 (seed : Int)] w fun e w' => e = .returned (.int .u64 (hashV v seed : Nat)) ∧ Below w.heap.size w w' := by
  have hp := fun w1 => rput_any [] 0 0 v none w1 rfl (Rd.nil _ _) (by omega) hv hok
  have hlen := vput_le hv hok
  have e0 := Lib.hid (fnv0_eq seed hs)
  have hH : Hid (hashV v seed = fnv (fnv0 seed) (vput v) ^^^ fnv (fnv0 seed) (vput v) / 4294967296) := rfl
  have hl0 := fnv0_lt hs
  rw [List.nil_append, Nat.zero_add] at hp
  generalize vput v = l at *
  generalize hashV v seed = R at *
  generalize fnv0 seed = f0 at *
  have Hp := Lib.hid hp
  obtain ⟨L, hL⟩ : ∃ L, L = l.length := ⟨_, rfl⟩
  rw [← hL] at hlen hp Hp
  have HL := Lib.hid hL
  clear hp hv hok hL
  unfold Va.agg at *
  have hbA : Below w.heap.size w (w.alloc (.cells #[.int .u8 v.k, .int .i64 v.n, .string (St8 v.s)] 30)) := (Below.refl _ _).alloc (Nat.le_refl _) _
  go_enter Try.func55, Try.ntmps55
  go_wp2_with fail
  refine (Hp.out _).mono ?_
  rintro e w1 ⟨A, c, rfl, ho, hb⟩
  have hr := ho.rd
  have hbW := hbA.trans (hb.mono hbA.size)
  clear ho hb Hp hbA
  go_wp2_with fail
  go_loop [5, 7] (fun h i => ∃ k : Nat, k ≤ L ∧ i = .int .i64 (k : Int) ∧ h = .int .u64 (fnv f0 (l.take k) : Nat)) (fun _ i => L - (intOf i).toNat)
  case atStart => exact ⟨0, by omega, by go_num, by rw [e0.out, List.take_zero]; rfl⟩
  case round =>
    obtain ⟨k, hk, rfl, rfl⟩ := hrel
    have hm : fnv f0 (l.take k) < 18446744073709551616 := fnv_lt _ hl0
    by_cases hlt : k < L
    · have hlt' : k < l.length := by rw [← HL.out]; exact hlt
      obtain ⟨b, o, rfl, hbb, hrr, hc⟩ := hr.get (k := k) (by simpa using hlt')
      rw [List.getElem_map] at hc
      have hs := Lib.hid (fnv_take l f0 hlt')
      generalize fnv f0 (l.take k) = m at *
      unfold B at hc
      generalize l[k] = ch at *
      have hcb := ch.toNat_lt
      have hcb1 : ((ch.toNat : Nat) : Int) ≤ 255 := by omega
      have hcb0 : (0 : Int) ≤ ((ch.toNat : Nat) : Int) := by omega
      have hcw : IntKind.u64.wrap ((ch.toNat : Nat) : Int) = ((ch.toNat : Nat) : Int) := by rw [IntKind.wrap_u64]; omega
      have he := Lib.hid (fnv_eq m ch hm)
      clear hr hrr hlt'
      go_wp2_with fail
      go_round
      case rel => exact ⟨k + 1, by omega, by go_num, by first | (rw [hs.out, ← he.out]; done) | (rw [hs.out, ← he.out, IntKind.wrap_u64])⟩
      case measure => first | (simp [intOf]; done) | (simp [intOf]; omega)
    · obtain rfl : k = L := by omega
      have hx := Lib.hid (xorShift_u64 (fnv f0 (l.take k)) 4294967296 hm)
      have hfin : l.take k = l := by rw [HL.out]; exact List.take_length
      rw [hfin] at hx hm ⊢
      generalize fnv f0 l = m at *
      have hw : IntKind.u64.wrap ((m : Int) / 4294967296) = (m : Int) / 4294967296 := by rw [IntKind.wrap_u64]; omega
      clear hr hfin
      go_wp2_with fail
      go_ret
      rw [hH.out, ← hx.out]
      exact ⟨by simp, hbW⟩
end Go.Proofs.Ytghaffafglfdlaa
