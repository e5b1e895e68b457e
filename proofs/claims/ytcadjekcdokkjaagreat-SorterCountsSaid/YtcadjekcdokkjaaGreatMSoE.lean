/- Walks: the sorter: merge. -/
import Derived.Test.YtcadjekcdokkjaaGreatMSoCD
import Derived.Deep.OwnRows
namespace Go.Proofs.YtcadjekcdokkjaaGreat
set_option linter.unusedVariables false
set_option linter.unusedSimpArgs false
open Go.RowKit
attribute [local go_sem ↓] Go.wp_at_zero Go.wp_at_succ
theorem cell_alloc1 {w : World} {a : Addr} {v : Value} (o : Obj) (h : w.cell? a = some v) : (w.alloc o).cell? a = some v := cell_keep ((Below.refl _ _).alloc (Nat.le_refl _) o) h
def TT : World → (Nat → Prop) → Prop := fun _ _ => True
theorem TT.good (B : Nat) : Good B TT := Good.pure True
theorem CuP.wide {bs bc : Nat} {s : Pg.St} {l F : List Nat} {rs : List RowM} {w : World} {S : Nat → Prop} (h : CuP bs bc s l rs w S) (hl : ∀ i ∈ l, i ∈ F) : CuP bs bc s F rs w S := by
 obtain ⟨l', k, ic, I, p, n, rc, R, j, h1, h2, h3, h4, h5⟩ := h
 exact ⟨l', k, ic, I, p, n, rc, R, j, h1, h2, h3, fun i hi => hl i (h4 i hi), h5⟩
structure MIn (P0 : World → (Nat → Prop) → Prop) (bS bs bp : Nat) (KA FA : Option Addr) (kn kc : Nat) (ks : List Ky) (bfs : List Nat) (s : Pg.St) (F : List Nat) (rows : Nat → List RowM) : Prop where
 sorter : ∀ w S, P0 w S → ∃ X Y, Blk w bS 78 [.pointer (some ⟨bs, 0, none⟩), .pointer (some ⟨bp, 0, none⟩), .slice KA kn kc, X, Y]
 keys : ∀ w S, P0 w S → Rd w KA (kyc ks)
 files : ∀ w S, P0 w S → Rd w FA (Ptrs bfs)
 each : ∀ w S, P0 w S → ∀ i bf, bfs[i]? = some bf → ∃ S' l k ic I, FiAt w S' bs bf l k ic I ((rows i).length : Int) ∧ (∀ x ∈ l, x ∈ F) ∧ Lies s l (rows i)
def MOut (w0 : World) (B : Nat) (col0 : Nat → Nat) (P0 : World → (Nat → Prop) → Prop) (TP : List RowM → Pg.St → World → (Nat → Prop) → Prop) (TX : Pg.St → World → (Nat → Prop) → Prop) (bs bp most left least n g : Nat) (s : Pg.St) (F : List Nat) (out : List RowM) (e : Ending) (w' : World) : Prop :=
 ∃ s' col' least' P2', Fam w0 w' B col0 col' (MP P0 (PuP bp most left least') P2' TT TT fun _ => TT) ∧ Sto w' B bs s' ∧ (∀ i ∈ F, s'[i]? = s[i]?) ∧ least' ≤ least ∧
  ((e = .returned (.int .i64 0) ∧ P2' = TP out s') ∨ (e = .returned (.int .i64 5) ∧ left < n * g ∧ ∃ acc, P2' = TP acc s') ∨ (e = .returned (.int .i64 4) ∧ P2' = TX s'))
theorem alloc3 (w : World) (o1 o2 o3 : Obj) : (((w.alloc o1).alloc o2).alloc o3).drew.heap[w.heap.size]? = some o1 ∧ (((w.alloc o1).alloc o2).alloc o3).drew.heap[w.heap.size + 1]? = some o2 ∧ (((w.alloc o1).alloc o2).alloc o3).drew.heap[w.heap.size + 1 + 1]? = some o3 ∧ Below w.heap.size w (((w.alloc o1).alloc o2).alloc o3).drew := by
 have hz : ∀ (w : World) (o : Obj), (w.alloc o).heap.size = w.heap.size + 1 := fun w o => by
  show (w.heap.push o).size = _
  simp
 have hn : ∀ (w : World) (o : Obj), (w.alloc o).heap[w.heap.size]? = some o := fun w o => by
  show (w.heap.push o)[w.heap.size]? = _
  simp
 have hk : ∀ (w : World) (o : Obj) (k : Nat), k < w.heap.size → (w.alloc o).heap[k]? = w.heap[k]? := fun w o k hk => ((Below.refl w.heap.size w).alloc (Nat.le_refl _) o).block k hk
 have z1 := hz w o1
 have z2 := hz (w.alloc o1) o2
 have n1 := hn w o1
 have n2 := hn (w.alloc o1) o2
 have n3 := hn ((w.alloc o1).alloc o2) o3
 rw [z2, z1] at n3
 rw [z1] at n2
 refine ⟨?_, ?_, n3, ((((Below.refl _ _).alloc (Nat.le_refl _) o1).alloc (by omega) o2).alloc (by omega) o3).drew⟩
 ·show (((w.alloc o1).alloc o2).alloc o3).heap[w.heap.size]? = _
  rw [hk _ _ _ (by omega), hk _ _ _ (by omega), n1]
 ·show (((w.alloc o1).alloc o2).alloc o3).heap[w.heap.size + 1]? = _
  rw [hk _ _ _ (by omega), n2]
theorem madeRows (n : Nat) : madeCells #[Value.slice none 0 0] n = (tab n fun _ => Value.slice none 0 0).toArray := by
 have h : (madeCells #[Value.slice none 0 0] n).toList = tab n fun _ => Value.slice none 0 0 := by
  rw [toList_madeCells_one]
  apply List.ext_getElem?
  intro q
  by_cases hq : q < n
  ·rw [tab_get hq, List.getElem?_replicate, if_pos hq]
  ·rw [List.getElem?_eq_none (by rw [List.length_replicate]; omega), List.getElem?_eq_none (by rw [tab_len]; omega)]
 rw [← h]
theorem mstart {w0 w w1 : World} {B : Nat} {col0 col : Nat → Nat} {P0 P2 : World → (Nat → Prop) → Prop} {bs bp most b7 bh rb n : Nat} {s : Pg.St} {left least : Nat} (F : List Nat) (rest : Nat → List RowM) (hf : Fam w0 w B col0 col (MP P0 (PuP bp most left least) P2 TT TT fun _ => TT)) (hs : Sto w B bs s) (hb : Below w.heap.size w w1)
  (h7 : w.heap.size ≤ b7) (hh : w.heap.size ≤ bh) (hr : w.heap.size ≤ rb) (k7 : w1.heap[b7]? = some (.cells #[.pointer (some ⟨bh, 0, none⟩)] 114)) (kh : w1.heap[bh]? = some (.cells #[.pointer (some ⟨bp, 0, none⟩), .slice none 0 0, .slice (some ⟨rb, 0, none⟩) n n] 117)) (kr : w1.heap[rb]? = some (.cells (madeCells #[.slice none 0 0] n) 23)) :
  MgS w0 B col0 P0 P2 TT bs bp most b7 bh rb n s F [] left least rest (fun _ => none) w1 := by
 have h1 := (hf.next hb (d := 3) (Q := HeP bp b7 bh rb n 0 [] (fun _ => none) (fun _ => 0) fun _ => 0) (by omega) (HeP.good ..) ⟨none, 0, .inr h7, k7, .inr hh, kh, .inr hr, by rw [madeRows] at kr; exact kr, Own.nil _ _ _ _, InS.nil _⟩).cast MP.up3
 refine ⟨_, fun _ => none, fun _ => 0, fun _ => 0, h1.congr (P' := MP P0 (PuP bp most left least) P2 (HeP bp b7 bh rb n 0 [] (fun _ => none) (fun _ => 0) fun _ => 0) TT (CurP bs [] s F rest (fun _ => none) (fun _ => 0) (fun _ => 0) fun _ => none)) ?_ ?_, hs.below hb⟩
 ·exact MP.good (h1.good 0) (h1.good 1) (h1.good 2) (h1.good 3) (h1.good 4) fun i => CurP.good ..
 ·intro d w S hp
  match d, hp with
  | 0, hp => exact hp
  | 1, hp => exact hp
  | 2, hp => exact hp
  | 3, hp => exact hp
  | 4, hp => exact hp
  | i + 5, hp => exact ⟨fun bc hbc => (by cases hbc), .inl ⟨rfl, rfl⟩⟩
theorem mdone {w0 w : World} {B : Nat} {col0 : Nat → Nat} {P0 P2 P4 : World → (Nat → Prop) → Prop} {bs bp most b7 bh rb n : Nat} {s : Pg.St} {F bcs : List Nat} {left least : Nat} {rest : Nat → List RowM} {H : Nat → Option RowM} (h : MgS w0 B col0 P0 P2 P4 bs bp most b7 bh rb n s F bcs left least rest H w) :
  ∃ col, Fam w0 w B col0 col (MP P0 (PuP bp most left least) P2 TT TT fun _ => TT) ∧ Sto w B bs s := by
 obtain ⟨col, V, vn, vc, hf, hs⟩ := h
 refine ⟨col, hf.congr (MP.good (hf.good 0) (hf.good 1) (hf.good 2) (TT.good B) (TT.good B) fun _ => TT.good B) ?_, hs⟩
 intro d w S hp
 match d, hp with
 | 0, hp => exact hp
 | 1, hp => exact hp
 | 2, hp => exact hp
 | 3, hp => trivial
 | 4, hp => trivial
 | i + 5, hp => trivial
theorem Ecurs : ElemT Tryz.prog 115 119 1 8 (.pointer none) := ElemT.mk' (by kernel_rfl) (by kernel_rfl) rfl (by omega)
theorem sorted_mem {ks : List Ky} {Cs : List (List RowM)} {p : Nat} {r : RowM} (h : r ∈ sortR ks (Cs.getD p [])) : ∃ c ∈ Cs, r ∈ c := by
 have h1 := (sort_perm ks (Cs.getD p [])).mem_iff.1 h
 by_cases hp : p < Cs.length
 ·rw [List.getD_eq_getElem?_getD, List.getElem?_eq_getElem hp] at h1
  exact ⟨_, List.getElem_mem hp, h1⟩
 ·rw [List.getD_eq_getElem?_getD, List.getElem?_eq_none (by omega)] at h1
  cases h1
theorem sorted_len {ks : List Ky} {Cs : List (List RowM)} {m : Nat} (h : ∀ c ∈ Cs, c.length ≤ m) (p : Nat) : (sortR ks (Cs.getD p [])).length ≤ m := by
 rw [(sort_perm ks (Cs.getD p [])).length_eq]
 by_cases hp : p < Cs.length
 ·rw [List.getD_eq_getElem?_getD, List.getElem?_eq_getElem hp]
  exact h _ (List.getElem_mem hp)
 ·rw [List.getD_eq_getElem?_getD, List.getElem?_eq_none (by omega)]
  exact Nat.zero_le _
theorem least_ex {I : Nat → Prop} : ∀ k, I k → ∃ m, I m ∧ ∀ j, I j → m ≤ j := fun k => by
 induction k using Nat.strongRecOn with
 | ind k ih =>
  intro h
  by_cases hc : ∃ j, j < k ∧ I j
  ·obtain ⟨j, hj, hI⟩ := hc
   exact ih j hj hI
  ·exact ⟨k, h, fun j hj => Nat.le_of_not_lt fun hl => hc ⟨j, hl, hj⟩⟩
noncomputable def lst (I : Nat → Prop) : Nat := Classical.epsilon fun k => I k ∧ ∀ j, I j → k ≤ j
theorem lst_spec {I : Nat → Prop} {k : Nat} (h : I k) : I (lst I) ∧ lst I ≤ k := by
 have := Classical.epsilon_spec (least_ex k h)
 exact ⟨this.1, this.2 k h⟩
def MInv (w0 : World) (B : Nat) (col0 : Nat → Nat) (P0 : World → (Nat → Prop) → Prop) (TP : List RowM → Pg.St → World → (Nat → Prop) → Prop) (bs bp most b7 bh rb n bt sz left least : Nat) (ks : List Ky) (Cs : List (List RowM)) (s : Pg.St) (F bcs : List Nat) (wr : World) (k : Nat) : Prop :=
 ∃ s1 left1 least1 out rest H, MgS w0 B col0 P0 (TP out s1) (fun w S => TreeN w S bt n sz H ks) bs bp most b7 bh rb n s1 F bcs left1 least1 rest H wr ∧ Sq.Mg (leRow ks) Cs.flatten out (LsOf n H rest) ∧ (out ++ (LsOf n H rest).flatten).Perm Cs.flatten ∧ (∀ p, n ≤ p → H p = none ∧ rest p = []) ∧ Ends H rest ∧ left1 + heldN H n = left ∧ least1 ≤ least ∧ (∀ i ∈ F, s1[i]? = s[i]?) ∧ (LsOf n H rest).flatten.length = k
theorem msorter {w0 w : World} {B : Nat} {col0 : Nat → Nat} {P0 P2 P4 : World → (Nat → Prop) → Prop} {bs bp most b7 bh rb n bS kn kc : Nat} {KA FA : Option Addr} {ks : List Ky} {bfs : List Nat} {rows : Nat → List RowM} {s0 s : Pg.St} {F bcs : List Nat} {left least : Nat} {rest : Nat → List RowM} {H : Nat → Option RowM} (h : MgS w0 B col0 P0 P2 P4 bs bp most b7 bh rb n s F bcs left least rest H w) (hin : MIn P0 bS bs bp KA FA kn kc ks bfs s0 F rows) :
  w.cell? ⟨bS, 2, none⟩ = some (.slice KA kn kc) ∧ Rd w KA (kyc ks) := by
 obtain ⟨col, V, vn, vc, hf, hs⟩ := h
 have hp0 := hf.at_ 0
 obtain ⟨X, Y, hb⟩ := hin.sorter w _ hp0
 have := hb.cell 2
 simp only [List.getElem?_cons_zero, List.getElem?_cons_succ] at this
 exact ⟨this, hin.keys w _ hp0⟩
theorem flat_set {α : Type} {Ls : List (List α)} {q : Nat} {x : α} {t : List α} (h : Ls[q]? = some (x :: t)) : Ls.flatten.Perm (x :: (Ls.set q t).flatten) := by
 obtain ⟨e1, e2⟩ := Sq.set_split h t
 rw [e2]
 conv => lhs; rw [e1]
 rw [List.flatten_append, List.flatten_append, List.flatten_cons, List.flatten_cons, List.cons_append]
 exact List.perm_middle
theorem mem_len {α : Type} {l : List α} : ∀ {Ls : List (List α)}, l ∈ Ls → l.length ≤ Ls.flatten.length
 | x :: Ls, h => by
  rw [List.flatten_cons, List.length_append]
  rcases List.mem_cons.1 h with rfl | h
  ·omega
  ·have := mem_len h
   omega
theorem sorted_flat (ks : List Ky) : ∀ Cs : List (List RowM), (Cs.map (sortR ks)).flatten.Perm Cs.flatten
 | [] => List.Perm.refl _
 | c :: Cs => by
  rw [List.map_cons, List.flatten_cons, List.flatten_cons]
  exact (sort_perm ks c).append (sorted_flat ks Cs)
theorem LsOf.perm (ks : List Ky) (Cs : List (List RowM)) (H : Nat → Option RowM) (rest : Nat → List RowM) (h : ∀ p, (H p).toList ++ rest p = sortR ks (Cs.getD p [])) : (LsOf Cs.length H rest).flatten.Perm Cs.flatten := by
 have e : Cs.map (sortR ks) = LsOf Cs.length H rest := LsOf.ext (by rw [List.length_map]) fun p hp => by
  rw [List.getElem?_map, List.getElem?_eq_getElem hp, h p, List.getD_eq_getElem?_getD, List.getElem?_eq_getElem hp]
  rfl
 rw [← e]
 exact sorted_flat ks Cs
set_option maxHeartbeats 16000000 in
set_option maxRecDepth 100000 in
theorem merge_c (w0 : World) (B : Nat) (col0 col : Nat → Nat) (P0 : World → (Nat → Prop) → Prop) (TP : List RowM → Pg.St → World → (Nat → Prop) → Prop) (TX : Pg.St → World → (Nat → Prop) → Prop) (bS bs bp most left least g : Nat) (s : Pg.St) (F : List Nat) (KA FA : Option Addr) (kn kc fc n fv : Nat) (pre cap : Array Value) (ks : List Ky) (bfs : List Nat) (Cs : List (List RowM)) (w : World)
  (hin : MIn P0 bS bs bp KA FA kn kc ks bfs s F fun i => sortR ks (Cs.getD i [])) (hto : ToC B bs F Cs.flatten fv pre cap TP TX)
  (hf : Fam w0 w B col0 col (MP P0 (PuP bp most left least) (TP [] s) TT TT fun _ => TT)) (hs : Sto w B bs s)
  (hn : bfs.length = n) (hC : Cs.length = n) (hn16 : n ≤ 16) (hk : ks.length = kn) (hkn : kn ≤ 1000000) (hml : left ≤ most) (hm : most ≤ 1000000000000) (hle : least ≤ most) (hF : ∀ i ∈ F, i < 1000000)
  (hrows : ∀ c ∈ Cs, c.length ≤ 1000000 ∧ ∀ r ∈ c, Pg.Fine r ∧ (∀ v ∈ r, v.ok) ∧ rowC r ≤ g ∧ r.length ≤ 1000000) (hg : g ≤ 1000000000000) (htot : Cs.flatten.length ≤ 1000000) :
  Calls Tryz.prog 61 #[.pointer (some ⟨bS, 0, none⟩), .slice FA n fc, .func (.func fv) pre cap] w fun e w' => MOut w0 B col0 P0 TP TX bs bp most left least n g s F (sortR ks Cs.flatten) e w' := by
 obtain ⟨X, Y, hbS⟩ := hin.sorter w _ (hf.at_ 0)
 have s1 := hbS.cell 1
 simp only [List.getElem?_cons_zero, List.getElem?_cons_succ] at s1
 have Hin := Lib.hid hin
 have Hto := Lib.hid hto
 have Hf := Lib.hid hf
 have Hs := Lib.hid hs
 have Hrows := Lib.hid hrows
 have HF := Lib.hid hF
 clear hin hto hf hs hrows hF hbS
 have hmk : ∀ w' : World, (Instr.makeSlice 32 (.int .i64 (n : Int)) (.int .i64 (n : Int))).run Tryz.prog w' = .ok (.slice (some ⟨w'.heap.size, 0, none⟩) n n) (w'.alloc (.cells (madeCells #[.slice none 0 0] n) 23)) := fun w' => run_make_row' 32 23 (.slice none 0 0) 24 (by kernel_rfl) (by kernel_rfl) rfl .i64 .i64 n (by omega) (by omega) w'
 go_enter_defers Tryz.func61, Tryz.ntmps61
 go_wp2_with fail
 go_region_held3 (fun w' => w'.cell? ⟨bS, 1, none⟩ = some (.pointer (some ⟨bp, 0, none⟩)))
  (first | assumption | exact s1 | exact cell_alloc1 _ s1 | exact cell_alloc1 _ (cell_alloc1 _ s1) | exact cell_alloc1 _ (cell_alloc1 _ (cell_alloc1 _ s1)))
  (fail)
 obtain ⟨k1, k2, k3, hb⟩ := alloc3 w (.cells (madeCells #[.slice none 0 0] n) 23) (.cells #[.pointer (some ⟨bp, 0, none⟩), .slice none 0 0, .slice (some ⟨w.heap.size, 0, none⟩) n n] 117) (.cells #[.pointer (some ⟨w.heap.size + 1, 0, none⟩)] 114)
 have HM := Lib.hid (mstart F (fun i => sortR ks (Cs.getD i [])) Hf.out Hs.out hb (by omega) (by omega) (Nat.le_refl _) k3 k2 k1)
 clear k1 k2 k3 hb
 generalize hW1 : (((w.alloc (.cells (madeCells #[.slice none 0 0] n) 23)).alloc (.cells #[.pointer (some ⟨bp, 0, none⟩), .slice none 0 0, .slice (some ⟨w.heap.size, 0, none⟩) n n] 117)).alloc (.cells #[.pointer (some ⟨w.heap.size + 1, 0, none⟩)] 114)).drew = w1 at HM ⊢
 clear hW1
 generalize w.heap.size + 1 + 1 = b7 at HM ⊢
 generalize w.heap.size + 1 = bh at HM ⊢
 generalize w.heap.size = rb at HM ⊢
 rotate_left
 obtain ⟨k1, k2, k3, hb⟩ := alloc3 w (.cells (madeCells #[.slice none 0 0] n) 23) (.cells #[.pointer (some ⟨w.heap.size + 1 + 1, 0, none⟩)] 114) (.cells #[.pointer (some ⟨bp, 0, none⟩), .slice none 0 0, .slice (some ⟨w.heap.size, 0, none⟩) n n] 117)
 have HM := Lib.hid (mstart F (fun i => sortR ks (Cs.getD i [])) Hf.out Hs.out hb (by omega) (by omega) (Nat.le_refl _) k2 k3 k1)
 clear k1 k2 k3 hb
 generalize hW1 : (((w.alloc (.cells (madeCells #[.slice none 0 0] n) 23)).alloc (.cells #[.pointer (some ⟨w.heap.size + 1 + 1, 0, none⟩)] 114)).alloc (.cells #[.pointer (some ⟨bp, 0, none⟩), .slice none 0 0, .slice (some ⟨w.heap.size, 0, none⟩) n n] 117)).drew = w1 at HM ⊢
 clear hW1
 generalize w.heap.size + 1 + 1 = bh at HM ⊢
 generalize w.heap.size + 1 = b7 at HM ⊢
 generalize w.heap.size = rb at HM ⊢
 rotate_left
 obtain ⟨k1, k2, k3, hb⟩ := alloc3 w (.cells #[.pointer (some ⟨w.heap.size + 1 + 1, 0, none⟩)] 114) (.cells (madeCells #[.slice none 0 0] n) 23) (.cells #[.pointer (some ⟨bp, 0, none⟩), .slice none 0 0, .slice (some ⟨w.heap.size + 1, 0, none⟩) n n] 117)
 have HM := Lib.hid (mstart F (fun i => sortR ks (Cs.getD i [])) Hf.out Hs.out hb (Nat.le_refl _) (by omega) (by omega) k1 k3 k2)
 clear k1 k2 k3 hb
 generalize hW1 : (((w.alloc (.cells #[.pointer (some ⟨w.heap.size + 1 + 1, 0, none⟩)] 114)).alloc (.cells (madeCells #[.slice none 0 0] n) 23)).alloc (.cells #[.pointer (some ⟨bp, 0, none⟩), .slice none 0 0, .slice (some ⟨w.heap.size + 1, 0, none⟩) n n] 117)).drew = w1 at HM ⊢
 clear hW1
 generalize w.heap.size + 1 + 1 = bh at HM ⊢
 generalize w.heap.size + 1 = rb at HM ⊢
 generalize w.heap.size = b7 at HM ⊢
 rotate_left
 ·clear hmk s1
  have hmf : ∀ (fn : Fn) (first cap : Array Value) (w : World), (Instr.makeFunc fn first cap).run Tryz.prog w = .ok (.func fn first cap) w := fun _ _ _ _ => rfl
  go_wp2_with fail
  go_loopw [29] (fun vi wr => ∃ (i : Nat) (bcs : List Nat) (left' least' : Nat) (rest : Nat → List RowM) (H : Nat → Option RowM), i ≤ n ∧ vi = .int .i64 (i : Int) ∧ bcs.length = i ∧ Hid (MgS w0 B col0 P0 (TP [] s) TT bs bp most b7 bh rb n s F bcs left' least' rest H wr) ∧ Hid (∀ p, (H p).toList ++ rest p = sortR ks (Cs.getD p [])) ∧ Hid (∀ p, i ≤ p → H p = none) ∧ Hid (∀ p, p < i → H p = none → rest p = []) ∧ Hid (left' + heldN H n = left) ∧ least' ≤ least) (fun vi _ => n - (intOf vi).toNat)
  case atStart => exact ⟨0, [], left, least, _, fun _ => none, by omega, by go_num, rfl, HM.out, fun p => rfl, fun p _ => rfl, fun p hp => by omega, (by show _ = _; rw [show heldN (fun _ => none) n = 0 from by have := heldN_le (H := fun _ => none) (g := 0) n (fun p _ r h => by cases h); omega]; rfl), Nat.le_refl _⟩
  case round =>
   clear HM
   obtain ⟨i, bcs, left1, least1, rest, H, hin, rfl, hbl, HM, Hrest, Hnone, Hends, Hsum, hle1⟩ := hrel
   by_cases hlt : i < n
   ·obtain ⟨bf, hbf⟩ : ∃ bf, bfs[i]? = some bf := ⟨_, List.getElem?_eq_getElem (by omega)⟩
    obtain ⟨col1, V, vn, vc, hf1, hs1⟩ := HM.out
    rw [hbl] at hf1
    have hp0 := hf1.at_ 0
    obtain ⟨S', l, k, ic, I, hfi, hlF, hli⟩ := Hin.out.each wr _ hp0 i bf hbf
    have hri : rest i = sortR ks (Cs.getD i []) := by
     have h1 := Hrest.out i
     rw [Hnone.out i (Nat.le_refl _)] at h1
     exact h1
    rw [← hri] at hfi hli
    have hpt : (Ptrs bfs)[i]? = some (.pointer (some ⟨bf, 0, none⟩)) := by unfold Ptrs; rw [List.getElem?_map, hbf]; rfl
    obtain ⟨fb, fo, rfl, hrg⟩ := (Hin.out.files wr _ hp0) (fun e => by rw [e] at hpt; cases hpt)
    have cu := hrg i _ hpt
    obtain ⟨CA, cc, h3⟩ : HeP bp b7 bh rb n i bcs V vn vc wr (Of wr col1 3) := hf1.at_ 3
    have b0 := h3.box.cell 0
    have c1 := h3.blk.cell 1
    simp only [List.getElem?_cons_zero, List.getElem?_cons_succ] at b0 c1
    have hop := Lib.hid (fopen_c S' bs bf s l k ic I (rest i) wr.drew (hfi.below (Below.refl _ _).drew) hli)
    have H3 := Lib.hid h3
    have Hf1 := Lib.hid hf1
    have Hs1 := Lib.hid hs1
    have HlF := Lib.hid hlF
    have bd0 : wr.drew.cell? ⟨b7, 0, none⟩ = some (.pointer (some ⟨bh, 0, none⟩)) := b0
    have cd1 : wr.drew.cell? ⟨bh, 1, none⟩ = some (.slice CA i cc) := c1
    have hltI : (i : Int) < (n : Int) := by omega
    have hi0I : (0 : Int) ≤ (i : Int) := by omega
    clear hf1 hs1 hp0 hfi hlF hli hrg h3 hpt
    go_wp2_with fail
    have hb7h : bh ≠ b7 := Blk.ne_of_type H3.out.blk H3.out.box (by decide)
    refine wp_region_noPanic ?_
    refine wp_region_held_drew (S := fun w' => w'.cell? ⟨b7, 0, none⟩ = some (.pointer (some ⟨bh, 0, none⟩))) (by kernel_rfl) b0 (fun hHeld => ?_)
    (refine wpAnyH_take (i := 0) (oi := ?oi0_1) (v := ?vv0_1) ?hi0_1 (by kernel_rfl) (by kernel_rfl) (by kernel_rfl) ?hQ0_1 ?hy0_1 (by assumption) ?rest0_1; (case hi0_1 => ((simp only [List.getElem?_toArray, List.getElem?_cons_zero]); rfl)); (case hQ0_1 => exact (fun _ _ _ h => h)); (case hy0_1 => (refine Or.inl ⟨by rfl, ?_⟩; intro w hSw; (try dsimp only at hSw); go_simp; try (with_reducible rfl))); (try simp only [Act.put, List.setIfInBounds_toArray, List.set_cons_zero, List.set_cons_succ]))
    (refine wpAnyH_take (i := 1) (oi := ?oi1_2) (v := ?vv1_2) ?hi1_2 (by kernel_rfl) (by kernel_rfl) (by kernel_rfl) ?hQ1_2 ?hy1_2 (by assumption) ?rest1_2; (case hi1_2 => ((simp only [List.getElem?_toArray, List.getElem?_cons_succ, List.getElem?_cons_zero]); rfl)); (case hQ1_2 => exact (fun _ _ _ h => h)); (case hy1_2 => (refine Or.inl ⟨by rfl, ?_⟩; intro w hSw; (try dsimp only at hSw); go_simp; try (with_reducible rfl))); (try simp only [Act.put, List.setIfInBounds_toArray, List.set_cons_zero, List.set_cons_succ]))
    (refine wpAnyH_take (i := 2) (oi := ?oi2_3) (v := ?vv2_3) ?hi2_3 (by kernel_rfl) (by kernel_rfl) (by kernel_rfl) ?hQ2_3 ?hy2_3 (by assumption) ?rest2_3; (case hi2_3 => ((simp only [List.getElem?_toArray, List.getElem?_cons_succ, List.getElem?_cons_zero]); rfl)); (case hQ2_3 => exact (fun _ _ _ h => h)); (case hy2_3 => (refine Or.inl ⟨by rfl, ?_⟩; intro w hSw; (try dsimp only at hSw); go_simp; try (with_reducible rfl))); (try simp only [Act.put, List.setIfInBounds_toArray, List.set_cons_zero, List.set_cons_succ]))
    (refine wpAnyH_take (i := 3) (oi := ?oi3_4) (v := ?vv3_4) ?hi3_4 (by kernel_rfl) (by kernel_rfl) (by kernel_rfl) ?hQ3_4 ?hy3_4 (by assumption) ?rest3_4; (case hi3_4 => ((simp only [List.getElem?_toArray, List.getElem?_cons_succ, List.getElem?_cons_zero]); rfl)); (case hQ3_4 => exact (fun _ _ _ h => h)); (case hy3_4 => (refine Or.inl ⟨by rfl, ?_⟩; intro w hSw; (try dsimp only at hSw); go_simp; try (with_reducible rfl))); (try simp only [Act.put, List.setIfInBounds_toArray, List.set_cons_zero, List.set_cons_succ]))
    (refine wpAnyH_take (i := 5) (oi := ?oi5_5) (v := ?vv5_5) ?hi5_5 (by kernel_rfl) (by kernel_rfl) (by kernel_rfl) ?hQ5_5 ?hy5_5 (by assumption) ?rest5_5; (case hi5_5 => ((simp only [List.getElem?_toArray, List.getElem?_cons_succ, List.getElem?_cons_zero]); rfl)); (case hQ5_5 => exact (fun _ _ _ h => h)); (case hy5_5 => (refine Or.inl ⟨by rfl, ?_⟩; intro w hSw; (try dsimp only at hSw); go_simp; try (with_reducible rfl))); (try simp only [Act.put, List.setIfInBounds_toArray, List.set_cons_zero, List.set_cons_succ]))
    refine wpAnyH_ready (rs := [4, 6]) (by kernel_rfl) (by simp) ?_
    refine AllReadyH.cons (o := ?oa4x) ?hoa4x (fun K hK => ?_) (AllReadyH.cons (o := ?ob6x) ?hob6x (fun K hK => ?_) AllReadyH.nil)
    case hoa4x => ((simp only [List.getElem?_toArray, List.getElem?_cons_succ, List.getElem?_cons_zero]); try rfl)
    case hob6x => ((simp only [List.getElem?_toArray, List.getElem?_cons_succ, List.getElem?_cons_zero]); try rfl)
    rotate_left
    ·go_simp
     refine hop.out.mono ?_
     rintro e w3 ⟨bc, rfl, hc3, hb3⟩
     have b3 := cell_keep hb3 bd0
     have c3 := cell_keep hb3 cd1
     have ba := cell_alloc1 (.cells #[.pointer (some ⟨bc, 0, none⟩)] 119) b3
     have ca := cell_alloc1 (.cells #[.pointer (some ⟨bc, 0, none⟩)] 119) c3
     have hb3r : Below wr.heap.size wr w3 := (Below.refl wr.heap.size wr).drew.trans hb3
     have hbA : Below w3.heap.size w3 (w3.alloc (.cells #[.pointer (some ⟨bc, 0, none⟩)] 119)) := (Below.refl _ _).alloc (Nat.le_refl _) _
     go_wp2_with fail
     refine hK.out _ _ b3 (fun hHeld2 => ?_)
     (try simp only [Act.put, List.setIfInBounds_toArray, List.set_cons_zero, List.set_cons_succ])
     refine wpAnyH_ready (rs := [4, 7]) (by kernel_rfl) (by simp) ?_
     refine AllReadyH.cons (o := ?oa4x) ?hoa4x (fun K hK => ?_) (AllReadyH.cons (o := ?ob7x) ?hob7x (fun K hK => ?_) AllReadyH.nil)
     case hoa4x => ((simp only [List.getElem?_toArray, List.getElem?_cons_succ, List.getElem?_cons_zero]); try rfl)
     case hob7x => ((simp only [List.getElem?_toArray, List.getElem?_cons_succ, List.getElem?_cons_zero]); try rfl)
     rotate_left
     ·go_simp
      refine hK.out _ _ ba (fun hHeld2 => ?_)
      (try simp only [Act.put, List.setIfInBounds_toArray, List.set_cons_zero, List.set_cons_succ])
      (refine wpAnyH_ready (rs := [4]) (by kernel_rfl) (by simp) ?_; refine AllReadyH.cons (o := ?oc4_6) ?ho4_6 (fun K hK => ?_) AllReadyH.nil; (case ho4_6 => ((simp only [List.getElem?_toArray, List.getElem?_cons_succ, List.getElem?_cons_zero]); rfl)); go_simp)
      refine hK.out _ _ ba (fun hHeld2 => ?_)
      (try simp only [Act.put, List.setIfInBounds_toArray, List.set_cons_zero, List.set_cons_succ])
      (refine wpAnyH_ready (rs := [8]) (by kernel_rfl) (by simp) ?_; refine AllReadyH.cons (o := ?oc8_7) ?ho8_7 (fun K hK => ?_) AllReadyH.nil; (case ho8_7 => ((simp only [List.getElem?_toArray, List.getElem?_cons_succ, List.getElem?_cons_zero]); rfl)))
      refine step_apd rfl (.tmp 38) (.tmp 41) 115 rfl Ecurs 0 CA i cc (Ptrs bcs) (by simp [Act.eval, Act.put]) (Own.below (Own.below H3.out.curs hb3r) hbA) (some ⟨w3.heap.size, 0, none⟩) 1 1 [.pointer (some ⟨bc, 0, none⟩)] (by simp [Act.eval, Act.put]) rfl (Rd.of_blk (Blk.new w3 119 #[.pointer (some ⟨bc, 0, none⟩)])) (by simp [Value.oneCell']) (i + 1) rfl (Ptrs bcs ++ [.pointer (some ⟨bc, 0, none⟩)]) rfl (by omega) (by omega) (Nat.zero_le _) ?_
      intro A4 c4 w4 ho4 hg4 hat4
      have hk4 := Own.apd_keeps (Own.below (Own.below H3.out.curs hb3r) hbA) hg4
      have b4 := (((H3.out.box.below hb3r).below hbA).keeps (by decide) hk4).cell 0
      have c4' := (((H3.out.blk.below hb3r).below hbA).keeps (by decide) hk4).cell 1
      have f4 := (((H3.out.blk.below hb3r).below hbA).keeps (by decide) hk4).frozen 1
      simp only [List.getElem?_cons_zero, List.getElem?_cons_succ] at b4 c4'
      have b5 : (w4.setCell ⟨bh, 1, none⟩ (.slice A4 (i + 1) c4)).cell? ⟨b7, 0, none⟩ = some (.pointer (some ⟨bh, 0, none⟩)) := (World.cell?_setCell_other _ _ _ _ (fun e => hb7h (congrArg Addr.block e))).trans b4
      refine hK.out _ _ b4 (fun hHeld4 => ?_)
      (try simp only [Act.put, List.setIfInBounds_toArray, List.set_cons_zero, List.set_cons_succ])
      (refine wpAnyH_take (i := 9) (oi := ?oi9_8) (v := ?vv9_8) ?hi9_8 (by kernel_rfl) (by kernel_rfl) (by kernel_rfl) ?hQ9_8 ?hy9_8 (by assumption) ?rest9_8; (case hi9_8 => ((simp only [List.getElem?_toArray, List.getElem?_cons_succ, List.getElem?_cons_zero]); rfl)); (case hQ9_8 => exact (fun _ _ _ h => h)); (case hy9_8 => (refine Or.inl ⟨by rfl, ?_⟩; intro w hSw; (try dsimp only at hSw); go_simp; try (with_reducible rfl))); (try simp only [Act.put, List.setIfInBounds_toArray, List.set_cons_zero, List.set_cons_succ]))
      (refine wpAnyH_take (i := 10) (oi := ?oi10_9) (v := ?vv10_9) ?hi10_9 (by kernel_rfl) (by kernel_rfl) (by kernel_rfl) ?hQ10_9 ?hy10_9 (by assumption) ?rest10_9; (case hi10_9 => ((simp only [List.getElem?_toArray, List.getElem?_cons_succ, List.getElem?_cons_zero]); rfl)); (case hQ10_9 => exact (fun _ _ _ h => h)); (case hy10_9 => (refine Or.inl ⟨by rfl, ?_⟩; intro w hSw; (try dsimp only at hSw); go_simp; try (with_reducible rfl))); (try simp only [Act.put, List.setIfInBounds_toArray, List.set_cons_zero, List.set_cons_succ]))
      (refine wpAnyH_ready (rs := [11]) (by kernel_rfl) (by simp) ?_; refine AllReadyH.cons (o := ?oc11_10) ?ho11_10 (fun K hK => ?_) AllReadyH.nil; (case ho11_10 => ((simp only [List.getElem?_toArray, List.getElem?_cons_succ, List.getElem?_cons_zero]); rfl)); go_simp)
      refine hK.out _ _ b5 (fun hHeld5 => ?_)
      (try simp only [Act.put, List.setIfInBounds_toArray, List.set_cons_zero, List.set_cons_succ])
      refine wpAnyH_done (by kernel_rfl) ?_ _
      have hM5 := Fam.push Hf1.out hbl Hs1.out H3.out hb3r (hc3.wide HlF.out) hbA ho4 hg4 hat4
      generalize w4.setCell ⟨bh, 1, none⟩ (.slice A4 (i + 1) c4) = w5 at *
      have hbl2 : (bcs ++ [bc]).length = i + 1 := by rw [List.length_append, List.length_singleton, hbl]
      have hmem : ∀ r ∈ rest i, Pg.Fine r ∧ (∀ v ∈ r, v.ok) ∧ rowC r ≤ g ∧ r.length ≤ 1000000 := fun r hr => by
       rw [hri] at hr
       obtain ⟨c, hc, hrc⟩ := sorted_mem hr
       exact (Hrows.out c hc).2 r hrc
      have hnx := Lib.hid (hnext_c w0 B col0 P0 (TP [] s) TT bs bp most b7 bh rb n s F (bcs ++ [bc]) left1 least1 rest H i w5 hM5 (by omega) hlt (by omega) (by omega) (by have := Hsum.out; omega) (by omega) (fun r hr => by have := hmem r hr; exact ⟨this.1, by omega, this.2.2.2⟩) (by rw [hri]; exact sorted_len (fun c hc => (Hrows.out c hc).1) i) HF.out)
      have Hmem := Lib.hid hmem
      clear hM5 hmem hc3 hb3r hbA ho4 hg4 hat4 hk4 b4 c4' f4 ba ca b3 c3 Hf1 Hs1 H3 HM b0 c1 bd0 cd1 hHeld hHeld2 hHeld4
      refine NoPanic.normal ?_
      clear hK hHeld5
      go_wp2_with fail
      refine hnx.out.mono ?_
      rintro e w6 hx
      have hHi := Hnone.out i (Nat.le_refl _)
      have hset := heldN_set H i
      rcases hx with ⟨hr0, rfl, hm6⟩ | ⟨r, t, hrt, hlr, rfl, hm6⟩ | ⟨r, t, hrt, hlr, rfl, hm6⟩
      ·rw [setF_same H i none hHi] at hm6
       have HM6 := Lib.hid hm6
       have Hr0 := Lib.hid hr0
       clear hm6 hnx hr0 hset hHi hri
       go_wp2_with fail
       go_roundw
       case rel => exact ⟨i + 1, bcs ++ [bc], left1, least1, rest, H, by omega, by go_num, hbl2, HM6, Hrest, fun p hp => Hnone.out p (by omega), fun p hp hh => (by
        by_cases e : p = i
        ·rw [e]; exact Hr0.out
        ·exact Hends.out p (by omega) hh), Hsum, hle1⟩
       case measure => simp only [intOf, Int.toNat_natCast]; omega
      ·rw [setF_same H i none hHi] at hm6
       have hbud : left < n * g := by
        have h1 := hset (some r) n hlt
        rw [hHi] at h1
        change _ + 0 = _ + rowC r at h1
        have h2 := heldN_le (H := setF H i (some r)) (g := g) n fun p _ x hx => by
         by_cases e : p = i
         ·rw [e, setF_at] at hx
          injection hx with hx
          subst hx
          exact (Hmem.out r (by rw [hrt]; simp)).2.2.1
         ·rw [setF_ne _ _ e] at hx
          have h3 := Hrest.out p
          rw [hx] at h3
          obtain ⟨c, hc, hxc⟩ := sorted_mem (ks := ks) (Cs := Cs) (p := p) (r := x) (by rw [← h3]; simp)
          exact ((Hrows.out c hc).2 x hxc).2.2.1
        have h3 := Hsum.out
        omega
       have Hbud := Lib.hid hbud
       have hbk := hback_c w0 B col0 P0 (TP [] s) TT bs bp most b7 bh rb n s F (bcs ++ [bc]) left1 least1 (setF rest i t) H .returning w6 hm6 (by omega) (by have := Hsum.out; omega) hm
       rw [Hsum.out] at hbk
       have Hbk := Lib.hid hbk
       clear hm6 hnx hrt hset hHi hri hbud hbk
       go_wp2_with fail
       try simp only [Exit.inBlock, Exit.then]
       refine leaves_cons (f := 78) (args := #[.pointer (some ⟨b7, 0, none⟩)]) (by simp) (by simp [go_sem]) ?_
       refine Hbk.out.mono ?_
       rintro e u' w7 ⟨rfl, rfl, hm7⟩
       obtain ⟨col7, hf7, hs7⟩ := mdone hm7
       exact ⟨_, results_tmp rfl _ _ _, s, col7, least1, _, hf7, hs7, fun _ _ => rfl, hle1, .inr (.inl ⟨rfl, Hbud.out, [], rfl⟩)⟩
      ·have HM6 := Lib.hid hm6
       have hsum2 : left1 - rowC r + heldN (setF H i (some r)) n = left := by
        have h1 := hset (some r) n hlt
        rw [hHi] at h1
        change _ + 0 = _ + rowC r at h1
        have := Hsum.out
        omega
       have Hsum2 := Lib.hid hsum2
       have hrest2 : ∀ p, (setF H i (some r) p).toList ++ setF rest i t p = sortR ks (Cs.getD p []) := fun p => by
        by_cases e : p = i
        ·subst e
         rw [setF_at, setF_at, ← hri, hrt]
         rfl
        ·rw [setF_ne _ _ e, setF_ne _ _ e]
         exact Hrest.out p
       have Hrest2 := Lib.hid hrest2
       clear hm6 hnx hrt hset hHi hri hsum2 hrest2 hlr
       go_wp2_with fail
       go_roundw
       case rel => exact ⟨i + 1, bcs ++ [bc], left1 - rowC r, min least1 (left1 - rowC r), setF rest i t, setF H i (some r), by omega, by go_num, hbl2, HM6, Hrest2, fun p hp => (by show setF H i (some r) p = none; rw [setF_ne _ _ (show p ≠ i by omega)]; exact Hnone.out p (by omega)), fun p hp hh => (by
        by_cases e : p = i
        ·rw [e, setF_at] at hh; cases hh
        ·rw [setF_ne _ _ e] at hh ⊢
         exact Hends.out p (by omega) hh), Hsum2, by omega⟩
       case measure => simp only [intOf, Int.toNat_natCast]; omega
     ·go_simp
      refine hK.out _ _ b3 (fun hHeld2 => ?_)
      (try simp only [Act.put, List.setIfInBounds_toArray, List.set_cons_zero, List.set_cons_succ])
      (refine wpAnyH_ready (rs := [7]) (by kernel_rfl) (by simp) ?_; refine AllReadyH.cons (o := ?oc7_11) ?ho7_11 (fun K hK => ?_) AllReadyH.nil; (case ho7_11 => ((simp only [List.getElem?_toArray, List.getElem?_cons_succ, List.getElem?_cons_zero]); rfl)); go_simp)
      refine hK.out _ _ ba (fun hHeld2 => ?_)
      (try simp only [Act.put, List.setIfInBounds_toArray, List.set_cons_zero, List.set_cons_succ])
      (refine wpAnyH_ready (rs := [8]) (by kernel_rfl) (by simp) ?_; refine AllReadyH.cons (o := ?oc8_12) ?ho8_12 (fun K hK => ?_) AllReadyH.nil; (case ho8_12 => ((simp only [List.getElem?_toArray, List.getElem?_cons_succ, List.getElem?_cons_zero]); rfl)))
      refine step_apd rfl (.tmp 38) (.tmp 41) 115 rfl Ecurs 0 CA i cc (Ptrs bcs) (by simp [Act.eval, Act.put]) (Own.below (Own.below H3.out.curs hb3r) hbA) (some ⟨w3.heap.size, 0, none⟩) 1 1 [.pointer (some ⟨bc, 0, none⟩)] (by simp [Act.eval, Act.put]) rfl (Rd.of_blk (Blk.new w3 119 #[.pointer (some ⟨bc, 0, none⟩)])) (by simp [Value.oneCell']) (i + 1) rfl (Ptrs bcs ++ [.pointer (some ⟨bc, 0, none⟩)]) rfl (by omega) (by omega) (Nat.zero_le _) ?_
      intro A4 c4 w4 ho4 hg4 hat4
      have hk4 := Own.apd_keeps (Own.below (Own.below H3.out.curs hb3r) hbA) hg4
      have b4 := (((H3.out.box.below hb3r).below hbA).keeps (by decide) hk4).cell 0
      have c4' := (((H3.out.blk.below hb3r).below hbA).keeps (by decide) hk4).cell 1
      have f4 := (((H3.out.blk.below hb3r).below hbA).keeps (by decide) hk4).frozen 1
      simp only [List.getElem?_cons_zero, List.getElem?_cons_succ] at b4 c4'
      have b5 : (w4.setCell ⟨bh, 1, none⟩ (.slice A4 (i + 1) c4)).cell? ⟨b7, 0, none⟩ = some (.pointer (some ⟨bh, 0, none⟩)) := (World.cell?_setCell_other _ _ _ _ (fun e => hb7h (congrArg Addr.block e))).trans b4
      refine hK.out _ _ b4 (fun hHeld4 => ?_)
      (try simp only [Act.put, List.setIfInBounds_toArray, List.set_cons_zero, List.set_cons_succ])
      (refine wpAnyH_take (i := 9) (oi := ?oi9_13) (v := ?vv9_13) ?hi9_13 (by kernel_rfl) (by kernel_rfl) (by kernel_rfl) ?hQ9_13 ?hy9_13 (by assumption) ?rest9_13; (case hi9_13 => ((simp only [List.getElem?_toArray, List.getElem?_cons_succ, List.getElem?_cons_zero]); rfl)); (case hQ9_13 => exact (fun _ _ _ h => h)); (case hy9_13 => (refine Or.inl ⟨by rfl, ?_⟩; intro w hSw; (try dsimp only at hSw); go_simp; try (with_reducible rfl))); (try simp only [Act.put, List.setIfInBounds_toArray, List.set_cons_zero, List.set_cons_succ]))
      (refine wpAnyH_take (i := 10) (oi := ?oi10_14) (v := ?vv10_14) ?hi10_14 (by kernel_rfl) (by kernel_rfl) (by kernel_rfl) ?hQ10_14 ?hy10_14 (by assumption) ?rest10_14; (case hi10_14 => ((simp only [List.getElem?_toArray, List.getElem?_cons_succ, List.getElem?_cons_zero]); rfl)); (case hQ10_14 => exact (fun _ _ _ h => h)); (case hy10_14 => (refine Or.inl ⟨by rfl, ?_⟩; intro w hSw; (try dsimp only at hSw); go_simp; try (with_reducible rfl))); (try simp only [Act.put, List.setIfInBounds_toArray, List.set_cons_zero, List.set_cons_succ]))
      (refine wpAnyH_ready (rs := [11]) (by kernel_rfl) (by simp) ?_; refine AllReadyH.cons (o := ?oc11_15) ?ho11_15 (fun K hK => ?_) AllReadyH.nil; (case ho11_15 => ((simp only [List.getElem?_toArray, List.getElem?_cons_succ, List.getElem?_cons_zero]); rfl)); go_simp)
      refine hK.out _ _ b5 (fun hHeld5 => ?_)
      (try simp only [Act.put, List.setIfInBounds_toArray, List.set_cons_zero, List.set_cons_succ])
      refine wpAnyH_done (by kernel_rfl) ?_ _
      have hM5 := Fam.push Hf1.out hbl Hs1.out H3.out hb3r (hc3.wide HlF.out) hbA ho4 hg4 hat4
      generalize w4.setCell ⟨bh, 1, none⟩ (.slice A4 (i + 1) c4) = w5 at *
      have hbl2 : (bcs ++ [bc]).length = i + 1 := by rw [List.length_append, List.length_singleton, hbl]
      have hmem : ∀ r ∈ rest i, Pg.Fine r ∧ (∀ v ∈ r, v.ok) ∧ rowC r ≤ g ∧ r.length ≤ 1000000 := fun r hr => by
       rw [hri] at hr
       obtain ⟨c, hc, hrc⟩ := sorted_mem hr
       exact (Hrows.out c hc).2 r hrc
      have hnx := Lib.hid (hnext_c w0 B col0 P0 (TP [] s) TT bs bp most b7 bh rb n s F (bcs ++ [bc]) left1 least1 rest H i w5 hM5 (by omega) hlt (by omega) (by omega) (by have := Hsum.out; omega) (by omega) (fun r hr => by have := hmem r hr; exact ⟨this.1, by omega, this.2.2.2⟩) (by rw [hri]; exact sorted_len (fun c hc => (Hrows.out c hc).1) i) HF.out)
      have Hmem := Lib.hid hmem
      clear hM5 hmem hc3 hb3r hbA ho4 hg4 hat4 hk4 b4 c4' f4 ba ca b3 c3 Hf1 Hs1 H3 HM b0 c1 bd0 cd1 hHeld hHeld2 hHeld4
      refine NoPanic.normal ?_
      clear hK hHeld5
      go_wp2_with fail
      refine hnx.out.mono ?_
      rintro e w6 hx
      have hHi := Hnone.out i (Nat.le_refl _)
      have hset := heldN_set H i
      rcases hx with ⟨hr0, rfl, hm6⟩ | ⟨r, t, hrt, hlr, rfl, hm6⟩ | ⟨r, t, hrt, hlr, rfl, hm6⟩
      ·rw [setF_same H i none hHi] at hm6
       have HM6 := Lib.hid hm6
       have Hr0 := Lib.hid hr0
       clear hm6 hnx hr0 hset hHi hri
       go_wp2_with fail
       go_roundw
       case rel => exact ⟨i + 1, bcs ++ [bc], left1, least1, rest, H, by omega, by go_num, hbl2, HM6, Hrest, fun p hp => Hnone.out p (by omega), fun p hp hh => (by
        by_cases e : p = i
        ·rw [e]; exact Hr0.out
        ·exact Hends.out p (by omega) hh), Hsum, hle1⟩
       case measure => simp only [intOf, Int.toNat_natCast]; omega
      ·rw [setF_same H i none hHi] at hm6
       have hbud : left < n * g := by
        have h1 := hset (some r) n hlt
        rw [hHi] at h1
        change _ + 0 = _ + rowC r at h1
        have h2 := heldN_le (H := setF H i (some r)) (g := g) n fun p _ x hx => by
         by_cases e : p = i
         ·rw [e, setF_at] at hx
          injection hx with hx
          subst hx
          exact (Hmem.out r (by rw [hrt]; simp)).2.2.1
         ·rw [setF_ne _ _ e] at hx
          have h3 := Hrest.out p
          rw [hx] at h3
          obtain ⟨c, hc, hxc⟩ := sorted_mem (ks := ks) (Cs := Cs) (p := p) (r := x) (by rw [← h3]; simp)
          exact ((Hrows.out c hc).2 x hxc).2.2.1
        have h3 := Hsum.out
        omega
       have Hbud := Lib.hid hbud
       have hbk := hback_c w0 B col0 P0 (TP [] s) TT bs bp most b7 bh rb n s F (bcs ++ [bc]) left1 least1 (setF rest i t) H .returning w6 hm6 (by omega) (by have := Hsum.out; omega) hm
       rw [Hsum.out] at hbk
       have Hbk := Lib.hid hbk
       clear hm6 hnx hrt hset hHi hri hbud hbk
       go_wp2_with fail
       try simp only [Exit.inBlock, Exit.then]
       refine leaves_cons (f := 78) (args := #[.pointer (some ⟨b7, 0, none⟩)]) (by simp) (by simp [go_sem]) ?_
       refine Hbk.out.mono ?_
       rintro e u' w7 ⟨rfl, rfl, hm7⟩
       obtain ⟨col7, hf7, hs7⟩ := mdone hm7
       exact ⟨_, results_tmp rfl _ _ _, s, col7, least1, _, hf7, hs7, fun _ _ => rfl, hle1, .inr (.inl ⟨rfl, Hbud.out, [], rfl⟩)⟩
      ·have HM6 := Lib.hid hm6
       have hsum2 : left1 - rowC r + heldN (setF H i (some r)) n = left := by
        have h1 := hset (some r) n hlt
        rw [hHi] at h1
        change _ + 0 = _ + rowC r at h1
        have := Hsum.out
        omega
       have Hsum2 := Lib.hid hsum2
       have hrest2 : ∀ p, (setF H i (some r) p).toList ++ setF rest i t p = sortR ks (Cs.getD p []) := fun p => by
        by_cases e : p = i
        ·subst e
         rw [setF_at, setF_at, ← hri, hrt]
         rfl
        ·rw [setF_ne _ _ e, setF_ne _ _ e]
         exact Hrest.out p
       have Hrest2 := Lib.hid hrest2
       clear hm6 hnx hrt hset hHi hri hsum2 hrest2 hlr
       go_wp2_with fail
       go_roundw
       case rel => exact ⟨i + 1, bcs ++ [bc], left1 - rowC r, min least1 (left1 - rowC r), setF rest i t, setF H i (some r), by omega, by go_num, hbl2, HM6, Hrest2, fun p hp => (by show setF H i (some r) p = none; rw [setF_ne _ _ (show p ≠ i by omega)]; exact Hnone.out p (by omega)), fun p hp hh => (by
        by_cases e : p = i
        ·rw [e, setF_at] at hh; cases hh
        ·rw [setF_ne _ _ e] at hh ⊢
         exact Hends.out p (by omega) hh), Hsum2, by omega⟩
       case measure => simp only [intOf, Int.toNat_natCast]; omega
    ·go_simp
     refine hK.out _ _ hHeld (fun hHeld2 => ?_)
     (try simp only [Act.put, List.setIfInBounds_toArray, List.set_cons_zero, List.set_cons_succ])
     (refine wpAnyH_ready (rs := [6]) (by kernel_rfl) (by simp) ?_; refine AllReadyH.cons (o := ?oc6_16) ?ho6_16 (fun K hK => ?_) AllReadyH.nil; (case ho6_16 => ((simp only [List.getElem?_toArray, List.getElem?_cons_succ, List.getElem?_cons_zero]); rfl)); go_simp)
     refine hop.out.mono ?_
     rintro e w3 ⟨bc, rfl, hc3, hb3⟩
     have b3 := cell_keep hb3 bd0
     have c3 := cell_keep hb3 cd1
     have ba := cell_alloc1 (.cells #[.pointer (some ⟨bc, 0, none⟩)] 119) b3
     have ca := cell_alloc1 (.cells #[.pointer (some ⟨bc, 0, none⟩)] 119) c3
     have hb3r : Below wr.heap.size wr w3 := (Below.refl wr.heap.size wr).drew.trans hb3
     have hbA : Below w3.heap.size w3 (w3.alloc (.cells #[.pointer (some ⟨bc, 0, none⟩)] 119)) := (Below.refl _ _).alloc (Nat.le_refl _) _
     go_wp2_with fail
     refine hK.out _ _ b3 (fun hHeld2 => ?_)
     (try simp only [Act.put, List.setIfInBounds_toArray, List.set_cons_zero, List.set_cons_succ])
     (refine wpAnyH_ready (rs := [7]) (by kernel_rfl) (by simp) ?_; refine AllReadyH.cons (o := ?oc7_17) ?ho7_17 (fun K hK => ?_) AllReadyH.nil; (case ho7_17 => ((simp only [List.getElem?_toArray, List.getElem?_cons_succ, List.getElem?_cons_zero]); rfl)); go_simp)
     refine hK.out _ _ ba (fun hHeld2 => ?_)
     (try simp only [Act.put, List.setIfInBounds_toArray, List.set_cons_zero, List.set_cons_succ])
     (refine wpAnyH_ready (rs := [8]) (by kernel_rfl) (by simp) ?_; refine AllReadyH.cons (o := ?oc8_18) ?ho8_18 (fun K hK => ?_) AllReadyH.nil; (case ho8_18 => ((simp only [List.getElem?_toArray, List.getElem?_cons_succ, List.getElem?_cons_zero]); rfl)))
     refine step_apd rfl (.tmp 38) (.tmp 41) 115 rfl Ecurs 0 CA i cc (Ptrs bcs) (by simp [Act.eval, Act.put]) (Own.below (Own.below H3.out.curs hb3r) hbA) (some ⟨w3.heap.size, 0, none⟩) 1 1 [.pointer (some ⟨bc, 0, none⟩)] (by simp [Act.eval, Act.put]) rfl (Rd.of_blk (Blk.new w3 119 #[.pointer (some ⟨bc, 0, none⟩)])) (by simp [Value.oneCell']) (i + 1) rfl (Ptrs bcs ++ [.pointer (some ⟨bc, 0, none⟩)]) rfl (by omega) (by omega) (Nat.zero_le _) ?_
     intro A4 c4 w4 ho4 hg4 hat4
     have hk4 := Own.apd_keeps (Own.below (Own.below H3.out.curs hb3r) hbA) hg4
     have b4 := (((H3.out.box.below hb3r).below hbA).keeps (by decide) hk4).cell 0
     have c4' := (((H3.out.blk.below hb3r).below hbA).keeps (by decide) hk4).cell 1
     have f4 := (((H3.out.blk.below hb3r).below hbA).keeps (by decide) hk4).frozen 1
     simp only [List.getElem?_cons_zero, List.getElem?_cons_succ] at b4 c4'
     have b5 : (w4.setCell ⟨bh, 1, none⟩ (.slice A4 (i + 1) c4)).cell? ⟨b7, 0, none⟩ = some (.pointer (some ⟨bh, 0, none⟩)) := (World.cell?_setCell_other _ _ _ _ (fun e => hb7h (congrArg Addr.block e))).trans b4
     refine hK.out _ _ b4 (fun hHeld4 => ?_)
     (try simp only [Act.put, List.setIfInBounds_toArray, List.set_cons_zero, List.set_cons_succ])
     (refine wpAnyH_take (i := 9) (oi := ?oi9_19) (v := ?vv9_19) ?hi9_19 (by kernel_rfl) (by kernel_rfl) (by kernel_rfl) ?hQ9_19 ?hy9_19 (by assumption) ?rest9_19; (case hi9_19 => ((simp only [List.getElem?_toArray, List.getElem?_cons_succ, List.getElem?_cons_zero]); rfl)); (case hQ9_19 => exact (fun _ _ _ h => h)); (case hy9_19 => (refine Or.inl ⟨by rfl, ?_⟩; intro w hSw; (try dsimp only at hSw); go_simp; try (with_reducible rfl))); (try simp only [Act.put, List.setIfInBounds_toArray, List.set_cons_zero, List.set_cons_succ]))
     (refine wpAnyH_take (i := 10) (oi := ?oi10_20) (v := ?vv10_20) ?hi10_20 (by kernel_rfl) (by kernel_rfl) (by kernel_rfl) ?hQ10_20 ?hy10_20 (by assumption) ?rest10_20; (case hi10_20 => ((simp only [List.getElem?_toArray, List.getElem?_cons_succ, List.getElem?_cons_zero]); rfl)); (case hQ10_20 => exact (fun _ _ _ h => h)); (case hy10_20 => (refine Or.inl ⟨by rfl, ?_⟩; intro w hSw; (try dsimp only at hSw); go_simp; try (with_reducible rfl))); (try simp only [Act.put, List.setIfInBounds_toArray, List.set_cons_zero, List.set_cons_succ]))
     (refine wpAnyH_ready (rs := [11]) (by kernel_rfl) (by simp) ?_; refine AllReadyH.cons (o := ?oc11_21) ?ho11_21 (fun K hK => ?_) AllReadyH.nil; (case ho11_21 => ((simp only [List.getElem?_toArray, List.getElem?_cons_succ, List.getElem?_cons_zero]); rfl)); go_simp)
     refine hK.out _ _ b5 (fun hHeld5 => ?_)
     (try simp only [Act.put, List.setIfInBounds_toArray, List.set_cons_zero, List.set_cons_succ])
     refine wpAnyH_done (by kernel_rfl) ?_ _
     have hM5 := Fam.push Hf1.out hbl Hs1.out H3.out hb3r (hc3.wide HlF.out) hbA ho4 hg4 hat4
     generalize w4.setCell ⟨bh, 1, none⟩ (.slice A4 (i + 1) c4) = w5 at *
     have hbl2 : (bcs ++ [bc]).length = i + 1 := by rw [List.length_append, List.length_singleton, hbl]
     have hmem : ∀ r ∈ rest i, Pg.Fine r ∧ (∀ v ∈ r, v.ok) ∧ rowC r ≤ g ∧ r.length ≤ 1000000 := fun r hr => by
      rw [hri] at hr
      obtain ⟨c, hc, hrc⟩ := sorted_mem hr
      exact (Hrows.out c hc).2 r hrc
     have hnx := Lib.hid (hnext_c w0 B col0 P0 (TP [] s) TT bs bp most b7 bh rb n s F (bcs ++ [bc]) left1 least1 rest H i w5 hM5 (by omega) hlt (by omega) (by omega) (by have := Hsum.out; omega) (by omega) (fun r hr => by have := hmem r hr; exact ⟨this.1, by omega, this.2.2.2⟩) (by rw [hri]; exact sorted_len (fun c hc => (Hrows.out c hc).1) i) HF.out)
     have Hmem := Lib.hid hmem
     clear hM5 hmem hc3 hb3r hbA ho4 hg4 hat4 hk4 b4 c4' f4 ba ca b3 c3 Hf1 Hs1 H3 HM b0 c1 bd0 cd1 hHeld hHeld2 hHeld4
     refine NoPanic.normal ?_
     clear hK hHeld5
     go_wp2_with fail
     refine hnx.out.mono ?_
     rintro e w6 hx
     have hHi := Hnone.out i (Nat.le_refl _)
     have hset := heldN_set H i
     rcases hx with ⟨hr0, rfl, hm6⟩ | ⟨r, t, hrt, hlr, rfl, hm6⟩ | ⟨r, t, hrt, hlr, rfl, hm6⟩
     ·rw [setF_same H i none hHi] at hm6
      have HM6 := Lib.hid hm6
      have Hr0 := Lib.hid hr0
      clear hm6 hnx hr0 hset hHi hri
      go_wp2_with fail
      go_roundw
      case rel => exact ⟨i + 1, bcs ++ [bc], left1, least1, rest, H, by omega, by go_num, hbl2, HM6, Hrest, fun p hp => Hnone.out p (by omega), fun p hp hh => (by
       by_cases e : p = i
       ·rw [e]; exact Hr0.out
       ·exact Hends.out p (by omega) hh), Hsum, hle1⟩
      case measure => simp only [intOf, Int.toNat_natCast]; omega
     ·rw [setF_same H i none hHi] at hm6
      have hbud : left < n * g := by
       have h1 := hset (some r) n hlt
       rw [hHi] at h1
       change _ + 0 = _ + rowC r at h1
       have h2 := heldN_le (H := setF H i (some r)) (g := g) n fun p _ x hx => by
        by_cases e : p = i
        ·rw [e, setF_at] at hx
         injection hx with hx
         subst hx
         exact (Hmem.out r (by rw [hrt]; simp)).2.2.1
        ·rw [setF_ne _ _ e] at hx
         have h3 := Hrest.out p
         rw [hx] at h3
         obtain ⟨c, hc, hxc⟩ := sorted_mem (ks := ks) (Cs := Cs) (p := p) (r := x) (by rw [← h3]; simp)
         exact ((Hrows.out c hc).2 x hxc).2.2.1
       have h3 := Hsum.out
       omega
      have Hbud := Lib.hid hbud
      have hbk := hback_c w0 B col0 P0 (TP [] s) TT bs bp most b7 bh rb n s F (bcs ++ [bc]) left1 least1 (setF rest i t) H .returning w6 hm6 (by omega) (by have := Hsum.out; omega) hm
      rw [Hsum.out] at hbk
      have Hbk := Lib.hid hbk
      clear hm6 hnx hrt hset hHi hri hbud hbk
      go_wp2_with fail
      try simp only [Exit.inBlock, Exit.then]
      refine leaves_cons (f := 78) (args := #[.pointer (some ⟨b7, 0, none⟩)]) (by simp) (by simp [go_sem]) ?_
      refine Hbk.out.mono ?_
      rintro e u' w7 ⟨rfl, rfl, hm7⟩
      obtain ⟨col7, hf7, hs7⟩ := mdone hm7
      exact ⟨_, results_tmp rfl _ _ _, s, col7, least1, _, hf7, hs7, fun _ _ => rfl, hle1, .inr (.inl ⟨rfl, Hbud.out, [], rfl⟩)⟩
     ·have HM6 := Lib.hid hm6
      have hsum2 : left1 - rowC r + heldN (setF H i (some r)) n = left := by
       have h1 := hset (some r) n hlt
       rw [hHi] at h1
       change _ + 0 = _ + rowC r at h1
       have := Hsum.out
       omega
      have Hsum2 := Lib.hid hsum2
      have hrest2 : ∀ p, (setF H i (some r) p).toList ++ setF rest i t p = sortR ks (Cs.getD p []) := fun p => by
       by_cases e : p = i
       ·subst e
        rw [setF_at, setF_at, ← hri, hrt]
        rfl
       ·rw [setF_ne _ _ e, setF_ne _ _ e]
        exact Hrest.out p
      have Hrest2 := Lib.hid hrest2
      clear hm6 hnx hrt hset hHi hri hsum2 hrest2 hlr
      go_wp2_with fail
      go_roundw
      case rel => exact ⟨i + 1, bcs ++ [bc], left1 - rowC r, min least1 (left1 - rowC r), setF rest i t, setF H i (some r), by omega, by go_num, hbl2, HM6, Hrest2, fun p hp => (by show setF H i (some r) p = none; rw [setF_ne _ _ (show p ≠ i by omega)]; exact Hnone.out p (by omega)), fun p hp hh => (by
       by_cases e : p = i
       ·rw [e, setF_at] at hh; cases hh
       ·rw [setF_ne _ _ e] at hh ⊢
        exact Hends.out p (by omega) hh), Hsum2, by omega⟩
      case measure => simp only [intOf, Int.toNat_natCast]; omega
   ·obtain rfl : i = n := by omega
    have hnn : ∀ p, i ≤ p → H p = none := Hnone.out
    obtain ⟨V, vn, vc, hrd, hHR, b0, c2, _, _⟩ := MgS.rows HM.out hnn
    obtain ⟨s2, hkr⟩ := msorter HM.out Hin.out
    have hbd : Below wr.heap.size wr wr.drew := (Below.refl _ _).drew
    have hnew := Lib.hid (mtnew_c i V vn vc KA kn kc (HM.out.below hbd) (hrd.below hbd) (hHR.below hbd) hn16 hk (hkr.below hbd) hkn)
    have Hnn := Lib.hid hnn
    have bd0 : wr.drew.cell? ⟨b7, 0, none⟩ = some (.pointer (some ⟨bh, 0, none⟩)) := b0
    have cd2 : wr.drew.cell? ⟨bh, 2, none⟩ = some (.slice (some ⟨rb, 0, none⟩) i i) := c2
    have sd2 : wr.drew.cell? ⟨bS, 2, none⟩ = some (.slice KA kn kc) := s2
    clear hrd hHR hkr hbd hnn
    go_wp2_with fail
    go_region_held3 (fun w' => w'.cell? ⟨b7, 0, none⟩ = some (.pointer (some ⟨bh, 0, none⟩)) ∧ w'.cell? ⟨bh, 2, none⟩ = some (.slice (some ⟨rb, 0, none⟩) i i) ∧ w'.cell? ⟨bS, 2, none⟩ = some (.slice KA kn kc))
     (first | assumption | exact ⟨b0, c2, s2⟩ | exact ⟨bd0, cd2, sd2⟩ | exact ⟨b3, c3, s3⟩)
     (first | (go_at_call 82; refine hnew.out.mono ?_; rintro e w3 ⟨bt, sz, rfl, hz1, hz2, hz3, hm3⟩; obtain ⟨_, _, _, _, _, b3, c3, _, _⟩ := MgS.rows hm3 Hnn.out; obtain ⟨s3, _⟩ := msorter hm3 Hin.out))
    all_goals
     have hmg := LsOf.start ks Cs H rest fun p hp => by
      rw [Hrest.out p, List.getD_eq_getElem?_getD, List.getElem?_eq_getElem hp]
      rfl
     have hperm := LsOf.perm ks Cs H rest Hrest.out
     rw [hC] at hmg hperm
     have hout : ∀ p, i ≤ p → H p = none ∧ rest p = [] := fun p hp => by
      have h1 := Hrest.out p
      rw [List.getD_eq_getElem?_getD, List.getElem?_eq_none (by omega), Hnn.out p hp] at h1
      exact ⟨Hnn.out p hp, h1⟩
     have hends : Ends H rest := fun p hp => by
      by_cases e : p < i
      ·exact Hends.out p e hp
      ·exact (hout p (by omega)).2
     have HI : Hid (MInv w0 B col0 P0 TP bs bp most b7 bh rb i bt sz left least ks Cs s F bcs w3 _) := ⟨s, left1, least1, [], rest, H, hm3, hmg, hperm, hout, hends, Hsum.out, hle1, fun _ _ => rfl, rfl⟩
     clear hm3 hmg hperm hout hends Hrest Hnone Hends Hsum Hnn hnew HM bd0 cd2 sd2 b0 c2 s2
     have eg := Hto.out.enters
     go_wp2_with fail
     go_loopw [13] (fun x wr => ∃ k, MInv w0 B col0 P0 TP bs bp most b7 bh rb i bt sz left least ks Cs s F bcs wr k) (fun _ wr => lst (MInv w0 B col0 P0 TP bs bp most b7 bh rb i bt sz left least ks Cs s F bcs wr))
     case atStart => exact ⟨_, HI.out⟩
     case round =>
      obtain ⟨k0, hk0⟩ := hrel
      obtain ⟨hI, -⟩ := lst_spec hk0
      obtain ⟨s1, left2, least2, out, rest2, H2, hm2, hmg, hperm, hout, hends, hsum, hle2, hF2, hk2⟩ := hI
      obtain ⟨q, S2, htw, hmW⟩ := hm2.won
      have hnx := Lib.hid (tnext_c wr htw (by omega) hz1 hz2 (by omega))
      have HmW := Lib.hid hmW
      have Hmg := Lib.hid hmg
      have Hperm := Lib.hid hperm
      have Hout := Lib.hid hout
      have Hends := Lib.hid hends
      have Hsum := Lib.hid hsum
      have HF2 := Lib.hid hF2
      have Hk2 := Lib.hid hk2
      clear hk0 hm2 htw hmW hmg hperm hout hends hsum hF2 hk2 HI
      go_wp2_with fail
      refine hnx.out.mono ?_
      rintro e w5 ⟨⟨hall, rfl⟩ | ⟨r, hq, hqn, hle, rfl⟩, rfl⟩
      ·have hfin : out = sortR ks Cs.flatten := Hmg.out.end_ (leRow_ord ks) (LsOf.none_ Hends.out hall)
       have hbk := hback_c w0 B col0 P0 (TP out s1) _ bs bp most b7 bh rb i s1 F bcs left2 least2 rest2 H2 .returning wr HmW.out (by omega) (by have := Hsum.out; omega) hm
       rw [Hsum.out, hfin] at hbk
       have Hbk := Lib.hid hbk
       clear hnx hall hfin hbk
       go_wp2_with fail
       try simp only [Exit.inBlock, Exit.then]
       refine leaves_cons (f := 78) (args := #[.pointer (some ⟨b7, 0, none⟩)]) (by simp) (by simp [go_sem]) ?_
       refine Hbk.out.mono ?_
       rintro e u' w7 ⟨rfl, rfl, hm7⟩
       obtain ⟨col7, hf7, hs7⟩ := mdone hm7
       exact ⟨_, results_tmp rfl _ _ _, s1, col7, least2, _, hf7, hs7, HF2.out, hle2, .inl ⟨rfl, rfl⟩⟩
      ·obtain ⟨V, vn, vc, _, _, b0, c2, hcells, hhd⟩ := MgS.rows HmW.out fun p hp => (Hout.out p hp).1
       have cq := hcells q hqn
       have hdq := hhd q
       rw [hq] at hdq
       rcases hdq with ⟨_, _, _, hx⟩ | ⟨a, r', hva, hvn, hrr, hrd, hok, hrl⟩
       ·cases hx
       ·injection hrr with hrr
        subst hrr
        rw [hva, hvn] at cq
        have hcl := Lib.hid (cloner_any r r.length (vc q) (some a) wr rfl hrd hrl)
        have hqI : (q : Int) < (i : Int) := by omega
        have hqI0 : (0 : Int) ≤ (q : Int) := by omega
        have Hok := Lib.hid hok
        have Hcells := Lib.hid hcells
        have Hrl := Lib.hid hrl
        have Hq := Lib.hid hq
        have Hle := Lib.hid hle
        clear hnx hcells hhd hrd hok hrl hq hle hva hvn
        go_wp2_with fail
        refine hcl.out.mono ?_
        rintro e w6 ⟨A6, c6, rfl, ho6, hb6⟩
        have hat : (LsOf i H2 rest2)[q]? = some (r :: rest2 q) := by rw [LsOf.at_ hqn, Hq.out]; rfl
        have hmr : ∀ x ∈ r :: rest2 q, Pg.Fine x ∧ (∀ v ∈ x, v.ok) ∧ rowC x ≤ g ∧ x.length ≤ 1000000 := fun x hx => by
         have h1 : x ∈ (LsOf i H2 rest2).flatten := List.mem_flatten.2 ⟨_, List.mem_of_getElem? hat, hx⟩
         have h2 := Hperm.out.mem_iff.1 (List.mem_append_right out h1)
         obtain ⟨c, hc, hxc⟩ := List.mem_flatten.1 h2
         exact (Hrows.out c hc).2 x hxc
        have hfl := flat_set hat
        have hstep := Hmg.out.step (leRow_ord ks) (LsOf.pick hqn Hq.out Hends.out Hle.out)
        have hperm2 : (out ++ r :: ((LsOf i H2 rest2).set q (rest2 q)).flatten).Perm Cs.flatten := ((List.Perm.refl out).append hfl.symm).trans Hperm.out
        have hto := Lib.hid (mto_c Hto.out out r A6 r.length c6 HmW.out hb6 rfl ho6 (hmr r (by simp)).1 Hok.out Hrl.out ⟨_, hperm2⟩)
        have hlen2 : ((LsOf i H2 rest2).set q (rest2 q)).flatten.length + 1 = (LsOf i H2 rest2).flatten.length := by rw [hfl.length_eq, List.length_cons]
        have hset := heldN_set H2 q
        have hnone1 := hset none i hqn
        rw [Hq.out] at hnone1
        change _ + rowC r = _ + 0 at hnone1
        have hroom : left2 + heldC (H2 q) ≤ most := by
         rw [Hq.out]
         show left2 + rowC r ≤ most
         have := Hsum.out
         omega
        have Hstep := Lib.hid hstep
        have Hperm2 := Lib.hid hperm2
        have Hlen2 := Lib.hid hlen2
        have Hmr := Lib.hid hmr
        have Hset := Lib.hid hset
        have Hnone1 := Lib.hid hnone1
        clear hat hmr hfl hstep hperm2 hlen2 hset hnone1 ho6 hb6 hcl b0 c2 cq HmW Hcells
        go_wp2_with fail
        refine hto.out.mono ?_
        rintro e w7 ⟨s7, hF7, ⟨rfl, hm7⟩ | ⟨rfl, hm7⟩⟩
        ·have HF7 : Hid (∀ x ∈ F, s7[x]? = s[x]?) := fun x hx => (hF7 x hx).trans (HF2.out x hx)
         obtain ⟨V7, vn7, vc7, _, _, d0, d2, _, _⟩ := MgS.rows hm7 fun p hp => (Hout.out p hp).1
         have hgv := Lib.hid (hgive_c w0 B col0 P0 _ _ bs bp most b7 bh rb i s7 F bcs left2 least2 rest2 H2 q w7 hm7 hqn (by omega) hroom hm)
         clear hm7 hto hF7
         go_wp2_with fail
         refine hgv.out.mono ?_
         rintro e w8 ⟨rfl, hm8⟩
         rw [Hq.out] at hm8
         change MgS w0 B col0 P0 _ _ bs bp most b7 bh rb i s7 F bcs (left2 + rowC r) least2 rest2 _ w8 at hm8
         obtain ⟨V8, vn8, vc8, _, _, e0, e2, _, _⟩ := MgS.rows hm8 fun p hp => (by rw [setF_ne _ _ (show p ≠ q by omega)]; exact (Hout.out p hp).1)
         have hcn : bcs.length = i := by assumption
         have hrl2 : (rest2 q).length ≤ 1000000 := by
          have h1 := Hperm.out.length_eq
          have h2 := mem_len (List.mem_of_getElem? (show (LsOf i H2 rest2)[q]? = some (r :: rest2 q) by rw [LsOf.at_ hqn, Hq.out]; rfl))
          rw [List.length_append] at h1
          rw [List.length_cons] at h2
          omega
         have hnx := Lib.hid (hnext_c w0 B col0 P0 _ _ bs bp most b7 bh rb i s7 F bcs (left2 + rowC r) least2 rest2 _ q w8 hm8 (by omega) hqn (by omega) (by omega) (by have := Hsum.out; have := Hnone1.out; omega) (by omega) (fun x hx => by have := Hmr.out x (by simp [hx]); exact ⟨this.1, by omega, this.2.2.2⟩) hrl2 HF.out)
         clear hm8 hgv d0 d2
         go_wp2_with fail
         refine hnx.out.mono ?_
         rintro e w9 hx
         rcases hx with ⟨hr0, rfl, hm9⟩ | ⟨r2, t2, hrt, hlr, rfl, hm9⟩ | ⟨r2, t2, hrt, hlr, rfl, hm9⟩
         ·rw [setF_setF] at hm9
          obtain ⟨V9, vn9, vc9, _, _, g0, g2, gc, gh⟩ := MgS.rows hm9 fun p hp => (by rw [setF_ne _ _ (show p ≠ q by omega)]; exact (Hout.out p hp).1)
          have gq := gc q hqn
          have ghq := gh q
          rw [setF_at] at ghq
          have hpt := Lib.hid (mput_c (V9 q) (vn9 q) (vc9 q) none r hm9 Hq.out ghq (by omega) hz2 (by omega))
          generalize V9 q = A9 at *
          generalize vn9 q = n9 at *
          generalize vc9 q = c9 at *
          have hls : (LsOf i H2 rest2).set q (rest2 q) = LsOf i (setF H2 q none) rest2 := LsOf.set hqn (fun p hp => setF_ne _ _ hp) (fun p hp => rfl) (by rw [setF_at]; rfl)
          have hout9 : ∀ p, i ≤ p → setF H2 q none p = none ∧ rest2 p = [] := fun p hp => by rw [setF_ne _ _ (show p ≠ q by omega)]; exact Hout.out p hp
          have hends9 : Ends (setF H2 q none) rest2 := fun p hp => by
           by_cases e : p = q
           ·rw [e]; exact hr0
           ·rw [setF_ne _ _ e] at hp; exact Hends.out p hp
          have hsum9 : left2 + rowC r + heldN (setF H2 q none) i = left := by have := Hsum.out; have := Hnone1.out; omega
          clear hm9 hnx gc gh ghq
          go_wp2_with fail
          refine hpt.out.mono ?_
          rintro e w10 ⟨rfl, hm10⟩
          have HI2 : Hid (MInv w0 B col0 P0 TP bs bp most b7 bh rb i bt sz left least ks Cs s F bcs w10 _) := ⟨s7, left2 + rowC r, least2, out ++ [r], rest2, setF H2 q none, hm10, by rw [← hls]; exact Hstep.out, by rw [← hls, List.append_assoc]; exact Hperm2.out, hout9, hends9, hsum9, by omega, HF7.out, rfl⟩
          have hlt9 : lst (MInv w0 B col0 P0 TP bs bp most b7 bh rb i bt sz left least ks Cs s F bcs w10) < lst (MInv w0 B col0 P0 TP bs bp most b7 bh rb i bt sz left least ks Cs s F bcs wr) := by
           have h1 := (lst_spec HI2.out).2
           rw [← hls] at h1
           have h2 := Hlen2.out
           have h3 := Hk2.out
           omega
          clear hm10 hpt
          go_wp2_with fail
          go_roundw
          case rel => exact ⟨_, HI2.out⟩
          case measure => exact hlt9
         ·rw [setF_setF] at hm9
          have hbud : left < i * g := by
           have h1 := Hset.out (some r2) i hqn
           rw [Hq.out] at h1
           change _ + rowC r = _ + rowC r2 at h1
           have h2 := heldN_le (H := setF H2 q (some r2)) (g := g) i fun p hp x hx => by
            by_cases e : p = q
            ·rw [e, setF_at] at hx
             injection hx with hx
             subst hx
             exact (Hmr.out r2 (by rw [hrt]; simp)).2.2.1
            ·rw [setF_ne _ _ e] at hx
             have h3 : x ∈ (LsOf i H2 rest2).flatten := List.mem_flatten.2 ⟨_, List.mem_of_getElem? (LsOf.at_ hp), by rw [hx]; simp⟩
             obtain ⟨c, hc, hxc⟩ := List.mem_flatten.1 (Hperm.out.mem_iff.1 (List.mem_append_right out h3))
             exact ((Hrows.out c hc).2 x hxc).2.2.1
           have := Hsum.out
           omega
          have Hbud := Lib.hid hbud
          have hback := hback_c w0 B col0 P0 (TP (out ++ [r]) s7) _ bs bp most b7 bh rb i s7 F bcs (left2 + rowC r) least2 (setF rest2 q t2) (setF H2 q none) .returning w9 hm9 (by omega) (by have := Hsum.out; have := Hnone1.out; omega) hm
          have hfix : left2 + rowC r + heldN (setF H2 q none) i = left := by have := Hsum.out; have := Hnone1.out; omega
          rw [hfix] at hback
          have Hbk := Lib.hid hback
          clear hm9 hnx hbud hback hfix
          go_wp2_with fail
          try simp only [Exit.inBlock, Exit.then]
          refine leaves_cons (f := 78) (args := #[.pointer (some ⟨b7, 0, none⟩)]) (by simp) (by simp [go_sem]) ?_
          refine Hbk.out.mono ?_
          rintro e u' w7' ⟨rfl, rfl, hm7'⟩
          obtain ⟨col7, hf7, hs7⟩ := mdone hm7'
          exact ⟨_, results_tmp rfl _ _ _, s7, col7, least2, _, hf7, hs7, HF7.out, hle2, .inr (.inl ⟨rfl, Hbud.out, _, rfl⟩)⟩
         ·rw [setF_setF] at hm9
          obtain ⟨V9, vn9, vc9, _, _, g0, g2, gc, gh⟩ := MgS.rows hm9 fun p hp => (by rw [setF_ne _ _ (show p ≠ q by omega)]; exact (Hout.out p hp).1)
          have gq := gc q hqn
          have ghq := gh q
          rw [setF_at] at ghq
          have hpt := Lib.hid (mput_c (V9 q) (vn9 q) (vc9 q) (some r2) r hm9 Hq.out ghq (by omega) hz2 (by omega))
          generalize V9 q = A9 at *
          generalize vn9 q = n9 at *
          generalize vc9 q = c9 at *
          have hls : (LsOf i H2 rest2).set q (rest2 q) = LsOf i (setF H2 q (some r2)) (setF rest2 q t2) := LsOf.set hqn (fun p hp => setF_ne _ _ hp) (fun p hp => setF_ne _ _ hp) (by rw [setF_at, setF_at, hrt]; rfl)
          have hout9 : ∀ p, i ≤ p → setF H2 q (some r2) p = none ∧ setF rest2 q t2 p = [] := fun p hp => by rw [setF_ne _ _ (show p ≠ q by omega), setF_ne _ _ (show p ≠ q by omega)]; exact Hout.out p hp
          have hends9 : Ends (setF H2 q (some r2)) (setF rest2 q t2) := fun p hp => by
           by_cases e : p = q
           ·rw [e, setF_at] at hp; cases hp
           ·rw [setF_ne _ _ e] at hp ⊢; exact Hends.out p hp
          have hsum9 : left2 + rowC r - rowC r2 + heldN (setF H2 q (some r2)) i = left := by
           have h1 := Hset.out (some r2) i hqn
           rw [Hq.out] at h1
           change _ + rowC r = _ + rowC r2 at h1
           have := Hsum.out
           omega
          clear hm9 hnx gc gh ghq
          go_wp2_with fail
          refine hpt.out.mono ?_
          rintro e w10 ⟨rfl, hm10⟩
          have HI2 : Hid (MInv w0 B col0 P0 TP bs bp most b7 bh rb i bt sz left least ks Cs s F bcs w10 _) := ⟨s7, left2 + rowC r - rowC r2, min least2 (left2 + rowC r - rowC r2), out ++ [r], setF rest2 q t2, setF H2 q (some r2), hm10, by rw [← hls]; exact Hstep.out, by rw [← hls, List.append_assoc]; exact Hperm2.out, hout9, hends9, hsum9, by omega, HF7.out, rfl⟩
          have hlt9 : lst (MInv w0 B col0 P0 TP bs bp most b7 bh rb i bt sz left least ks Cs s F bcs w10) < lst (MInv w0 B col0 P0 TP bs bp most b7 bh rb i bt sz left least ks Cs s F bcs wr) := by
           have h1 := (lst_spec HI2.out).2
           rw [← hls] at h1
           have h2 := Hlen2.out
           have h3 := Hk2.out
           omega
          clear hm10 hpt
          go_wp2_with fail
          go_roundw
          case rel => exact ⟨_, HI2.out⟩
          case measure => exact hlt9
        ·have HF7 : Hid (∀ x ∈ F, s7[x]? = s[x]?) := fun x hx => (hF7 x hx).trans (HF2.out x hx)
         have hbk := hback_c w0 B col0 P0 (TX s7) _ bs bp most b7 bh rb i s7 F bcs left2 least2 rest2 H2 .returning w7 hm7 (by omega) (by have := Hsum.out; omega) hm
         rw [Hsum.out] at hbk
         have Hbk := Lib.hid hbk
         clear hm7 hto hF7 hbk
         go_wp2_with fail
         try simp only [Exit.inBlock, Exit.then]
         refine leaves_cons (f := 78) (args := #[.pointer (some ⟨b7, 0, none⟩)]) (by simp) (by simp [go_sem]) ?_
         refine Hbk.out.mono ?_
         rintro e u' w7' ⟨rfl, rfl, hm7'⟩
         obtain ⟨col7, hf7, hs7⟩ := mdone hm7'
         exact ⟨_, results_tmp rfl _ _ _, s7, col7, least2, _, hf7, hs7, HF7.out, hle2, .inr (.inr ⟨rfl, rfl⟩)⟩
 ·clear hmk s1
  have hmf : ∀ (fn : Fn) (first cap : Array Value) (w : World), (Instr.makeFunc fn first cap).run Tryz.prog w = .ok (.func fn first cap) w := fun _ _ _ _ => rfl
  go_wp2_with fail
  go_loopw [29] (fun vi wr => ∃ (i : Nat) (bcs : List Nat) (left' least' : Nat) (rest : Nat → List RowM) (H : Nat → Option RowM), i ≤ n ∧ vi = .int .i64 (i : Int) ∧ bcs.length = i ∧ Hid (MgS w0 B col0 P0 (TP [] s) TT bs bp most b7 bh rb n s F bcs left' least' rest H wr) ∧ Hid (∀ p, (H p).toList ++ rest p = sortR ks (Cs.getD p [])) ∧ Hid (∀ p, i ≤ p → H p = none) ∧ Hid (∀ p, p < i → H p = none → rest p = []) ∧ Hid (left' + heldN H n = left) ∧ least' ≤ least) (fun vi _ => n - (intOf vi).toNat)
  case atStart => exact ⟨0, [], left, least, _, fun _ => none, by omega, by go_num, rfl, HM.out, fun p => rfl, fun p _ => rfl, fun p hp => by omega, (by show _ = _; rw [show heldN (fun _ => none) n = 0 from by have := heldN_le (H := fun _ => none) (g := 0) n (fun p _ r h => by cases h); omega]; rfl), Nat.le_refl _⟩
  case round =>
   clear HM
   obtain ⟨i, bcs, left1, least1, rest, H, hin, rfl, hbl, HM, Hrest, Hnone, Hends, Hsum, hle1⟩ := hrel
   by_cases hlt : i < n
   ·obtain ⟨bf, hbf⟩ : ∃ bf, bfs[i]? = some bf := ⟨_, List.getElem?_eq_getElem (by omega)⟩
    obtain ⟨col1, V, vn, vc, hf1, hs1⟩ := HM.out
    rw [hbl] at hf1
    have hp0 := hf1.at_ 0
    obtain ⟨S', l, k, ic, I, hfi, hlF, hli⟩ := Hin.out.each wr _ hp0 i bf hbf
    have hri : rest i = sortR ks (Cs.getD i []) := by
     have h1 := Hrest.out i
     rw [Hnone.out i (Nat.le_refl _)] at h1
     exact h1
    rw [← hri] at hfi hli
    have hpt : (Ptrs bfs)[i]? = some (.pointer (some ⟨bf, 0, none⟩)) := by unfold Ptrs; rw [List.getElem?_map, hbf]; rfl
    obtain ⟨fb, fo, rfl, hrg⟩ := (Hin.out.files wr _ hp0) (fun e => by rw [e] at hpt; cases hpt)
    have cu := hrg i _ hpt
    obtain ⟨CA, cc, h3⟩ : HeP bp b7 bh rb n i bcs V vn vc wr (Of wr col1 3) := hf1.at_ 3
    have b0 := h3.box.cell 0
    have c1 := h3.blk.cell 1
    simp only [List.getElem?_cons_zero, List.getElem?_cons_succ] at b0 c1
    have hop := Lib.hid (fopen_c S' bs bf s l k ic I (rest i) wr.drew (hfi.below (Below.refl _ _).drew) hli)
    have H3 := Lib.hid h3
    have Hf1 := Lib.hid hf1
    have Hs1 := Lib.hid hs1
    have HlF := Lib.hid hlF
    have bd0 : wr.drew.cell? ⟨b7, 0, none⟩ = some (.pointer (some ⟨bh, 0, none⟩)) := b0
    have cd1 : wr.drew.cell? ⟨bh, 1, none⟩ = some (.slice CA i cc) := c1
    have hltI : (i : Int) < (n : Int) := by omega
    have hi0I : (0 : Int) ≤ (i : Int) := by omega
    clear hf1 hs1 hp0 hfi hlF hli hrg h3 hpt
    go_wp2_with fail
    have hb7h : bh ≠ b7 := Blk.ne_of_type H3.out.blk H3.out.box (by decide)
    refine wp_region_noPanic ?_
    refine wp_region_held_drew (S := fun w' => w'.cell? ⟨b7, 0, none⟩ = some (.pointer (some ⟨bh, 0, none⟩))) (by kernel_rfl) b0 (fun hHeld => ?_)
    (refine wpAnyH_take (i := 0) (oi := ?oi0_22) (v := ?vv0_22) ?hi0_22 (by kernel_rfl) (by kernel_rfl) (by kernel_rfl) ?hQ0_22 ?hy0_22 (by assumption) ?rest0_22; (case hi0_22 => ((simp only [List.getElem?_toArray, List.getElem?_cons_zero]); rfl)); (case hQ0_22 => exact (fun _ _ _ h => h)); (case hy0_22 => (refine Or.inl ⟨by rfl, ?_⟩; intro w hSw; (try dsimp only at hSw); go_simp; try (with_reducible rfl))); (try simp only [Act.put, List.setIfInBounds_toArray, List.set_cons_zero, List.set_cons_succ]))
    (refine wpAnyH_take (i := 1) (oi := ?oi1_23) (v := ?vv1_23) ?hi1_23 (by kernel_rfl) (by kernel_rfl) (by kernel_rfl) ?hQ1_23 ?hy1_23 (by assumption) ?rest1_23; (case hi1_23 => ((simp only [List.getElem?_toArray, List.getElem?_cons_succ, List.getElem?_cons_zero]); rfl)); (case hQ1_23 => exact (fun _ _ _ h => h)); (case hy1_23 => (refine Or.inl ⟨by rfl, ?_⟩; intro w hSw; (try dsimp only at hSw); go_simp; try (with_reducible rfl))); (try simp only [Act.put, List.setIfInBounds_toArray, List.set_cons_zero, List.set_cons_succ]))
    (refine wpAnyH_take (i := 2) (oi := ?oi2_24) (v := ?vv2_24) ?hi2_24 (by kernel_rfl) (by kernel_rfl) (by kernel_rfl) ?hQ2_24 ?hy2_24 (by assumption) ?rest2_24; (case hi2_24 => ((simp only [List.getElem?_toArray, List.getElem?_cons_succ, List.getElem?_cons_zero]); rfl)); (case hQ2_24 => exact (fun _ _ _ h => h)); (case hy2_24 => (refine Or.inl ⟨by rfl, ?_⟩; intro w hSw; (try dsimp only at hSw); go_simp; try (with_reducible rfl))); (try simp only [Act.put, List.setIfInBounds_toArray, List.set_cons_zero, List.set_cons_succ]))
    (refine wpAnyH_take (i := 3) (oi := ?oi3_25) (v := ?vv3_25) ?hi3_25 (by kernel_rfl) (by kernel_rfl) (by kernel_rfl) ?hQ3_25 ?hy3_25 (by assumption) ?rest3_25; (case hi3_25 => ((simp only [List.getElem?_toArray, List.getElem?_cons_succ, List.getElem?_cons_zero]); rfl)); (case hQ3_25 => exact (fun _ _ _ h => h)); (case hy3_25 => (refine Or.inl ⟨by rfl, ?_⟩; intro w hSw; (try dsimp only at hSw); go_simp; try (with_reducible rfl))); (try simp only [Act.put, List.setIfInBounds_toArray, List.set_cons_zero, List.set_cons_succ]))
    (refine wpAnyH_take (i := 5) (oi := ?oi5_26) (v := ?vv5_26) ?hi5_26 (by kernel_rfl) (by kernel_rfl) (by kernel_rfl) ?hQ5_26 ?hy5_26 (by assumption) ?rest5_26; (case hi5_26 => ((simp only [List.getElem?_toArray, List.getElem?_cons_succ, List.getElem?_cons_zero]); rfl)); (case hQ5_26 => exact (fun _ _ _ h => h)); (case hy5_26 => (refine Or.inl ⟨by rfl, ?_⟩; intro w hSw; (try dsimp only at hSw); go_simp; try (with_reducible rfl))); (try simp only [Act.put, List.setIfInBounds_toArray, List.set_cons_zero, List.set_cons_succ]))
    refine wpAnyH_ready (rs := [4, 6]) (by kernel_rfl) (by simp) ?_
    refine AllReadyH.cons (o := ?oa4y) ?hoa4y (fun K hK => ?_) (AllReadyH.cons (o := ?ob6y) ?hob6y (fun K hK => ?_) AllReadyH.nil)
    case hoa4y => ((simp only [List.getElem?_toArray, List.getElem?_cons_succ, List.getElem?_cons_zero]); try rfl)
    case hob6y => ((simp only [List.getElem?_toArray, List.getElem?_cons_succ, List.getElem?_cons_zero]); try rfl)
    rotate_left
    ·go_simp
     refine hop.out.mono ?_
     rintro e w3 ⟨bc, rfl, hc3, hb3⟩
     have b3 := cell_keep hb3 bd0
     have c3 := cell_keep hb3 cd1
     have ba := cell_alloc1 (.cells #[.pointer (some ⟨bc, 0, none⟩)] 119) b3
     have ca := cell_alloc1 (.cells #[.pointer (some ⟨bc, 0, none⟩)] 119) c3
     have hb3r : Below wr.heap.size wr w3 := (Below.refl wr.heap.size wr).drew.trans hb3
     have hbA : Below w3.heap.size w3 (w3.alloc (.cells #[.pointer (some ⟨bc, 0, none⟩)] 119)) := (Below.refl _ _).alloc (Nat.le_refl _) _
     go_wp2_with fail
     refine hK.out _ _ b3 (fun hHeld2 => ?_)
     (try simp only [Act.put, List.setIfInBounds_toArray, List.set_cons_zero, List.set_cons_succ])
     refine wpAnyH_ready (rs := [4, 7]) (by kernel_rfl) (by simp) ?_
     refine AllReadyH.cons (o := ?oa4y) ?hoa4y (fun K hK => ?_) (AllReadyH.cons (o := ?ob7y) ?hob7y (fun K hK => ?_) AllReadyH.nil)
     case hoa4y => ((simp only [List.getElem?_toArray, List.getElem?_cons_succ, List.getElem?_cons_zero]); try rfl)
     case hob7y => ((simp only [List.getElem?_toArray, List.getElem?_cons_succ, List.getElem?_cons_zero]); try rfl)
     rotate_left
     ·go_simp
      refine hK.out _ _ ba (fun hHeld2 => ?_)
      (try simp only [Act.put, List.setIfInBounds_toArray, List.set_cons_zero, List.set_cons_succ])
      (refine wpAnyH_ready (rs := [4]) (by kernel_rfl) (by simp) ?_; refine AllReadyH.cons (o := ?oc4_27) ?ho4_27 (fun K hK => ?_) AllReadyH.nil; (case ho4_27 => ((simp only [List.getElem?_toArray, List.getElem?_cons_succ, List.getElem?_cons_zero]); rfl)); go_simp)
      refine hK.out _ _ ba (fun hHeld2 => ?_)
      (try simp only [Act.put, List.setIfInBounds_toArray, List.set_cons_zero, List.set_cons_succ])
      (refine wpAnyH_ready (rs := [8]) (by kernel_rfl) (by simp) ?_; refine AllReadyH.cons (o := ?oc8_28) ?ho8_28 (fun K hK => ?_) AllReadyH.nil; (case ho8_28 => ((simp only [List.getElem?_toArray, List.getElem?_cons_succ, List.getElem?_cons_zero]); rfl)))
      refine step_apd rfl (.tmp 38) (.tmp 41) 115 rfl Ecurs 0 CA i cc (Ptrs bcs) (by simp [Act.eval, Act.put]) (Own.below (Own.below H3.out.curs hb3r) hbA) (some ⟨w3.heap.size, 0, none⟩) 1 1 [.pointer (some ⟨bc, 0, none⟩)] (by simp [Act.eval, Act.put]) rfl (Rd.of_blk (Blk.new w3 119 #[.pointer (some ⟨bc, 0, none⟩)])) (by simp [Value.oneCell']) (i + 1) rfl (Ptrs bcs ++ [.pointer (some ⟨bc, 0, none⟩)]) rfl (by omega) (by omega) (Nat.zero_le _) ?_
      intro A4 c4 w4 ho4 hg4 hat4
      have hk4 := Own.apd_keeps (Own.below (Own.below H3.out.curs hb3r) hbA) hg4
      have b4 := (((H3.out.box.below hb3r).below hbA).keeps (by decide) hk4).cell 0
      have c4' := (((H3.out.blk.below hb3r).below hbA).keeps (by decide) hk4).cell 1
      have f4 := (((H3.out.blk.below hb3r).below hbA).keeps (by decide) hk4).frozen 1
      simp only [List.getElem?_cons_zero, List.getElem?_cons_succ] at b4 c4'
      have b5 : (w4.setCell ⟨bh, 1, none⟩ (.slice A4 (i + 1) c4)).cell? ⟨b7, 0, none⟩ = some (.pointer (some ⟨bh, 0, none⟩)) := (World.cell?_setCell_other _ _ _ _ (fun e => hb7h (congrArg Addr.block e))).trans b4
      refine hK.out _ _ b4 (fun hHeld4 => ?_)
      (try simp only [Act.put, List.setIfInBounds_toArray, List.set_cons_zero, List.set_cons_succ])
      (refine wpAnyH_take (i := 9) (oi := ?oi9_29) (v := ?vv9_29) ?hi9_29 (by kernel_rfl) (by kernel_rfl) (by kernel_rfl) ?hQ9_29 ?hy9_29 (by assumption) ?rest9_29; (case hi9_29 => ((simp only [List.getElem?_toArray, List.getElem?_cons_succ, List.getElem?_cons_zero]); rfl)); (case hQ9_29 => exact (fun _ _ _ h => h)); (case hy9_29 => (refine Or.inl ⟨by rfl, ?_⟩; intro w hSw; (try dsimp only at hSw); go_simp; try (with_reducible rfl))); (try simp only [Act.put, List.setIfInBounds_toArray, List.set_cons_zero, List.set_cons_succ]))
      (refine wpAnyH_take (i := 10) (oi := ?oi10_30) (v := ?vv10_30) ?hi10_30 (by kernel_rfl) (by kernel_rfl) (by kernel_rfl) ?hQ10_30 ?hy10_30 (by assumption) ?rest10_30; (case hi10_30 => ((simp only [List.getElem?_toArray, List.getElem?_cons_succ, List.getElem?_cons_zero]); rfl)); (case hQ10_30 => exact (fun _ _ _ h => h)); (case hy10_30 => (refine Or.inl ⟨by rfl, ?_⟩; intro w hSw; (try dsimp only at hSw); go_simp; try (with_reducible rfl))); (try simp only [Act.put, List.setIfInBounds_toArray, List.set_cons_zero, List.set_cons_succ]))
      (refine wpAnyH_ready (rs := [11]) (by kernel_rfl) (by simp) ?_; refine AllReadyH.cons (o := ?oc11_31) ?ho11_31 (fun K hK => ?_) AllReadyH.nil; (case ho11_31 => ((simp only [List.getElem?_toArray, List.getElem?_cons_succ, List.getElem?_cons_zero]); rfl)); go_simp)
      refine hK.out _ _ b5 (fun hHeld5 => ?_)
      (try simp only [Act.put, List.setIfInBounds_toArray, List.set_cons_zero, List.set_cons_succ])
      refine wpAnyH_done (by kernel_rfl) ?_ _
      have hM5 := Fam.push Hf1.out hbl Hs1.out H3.out hb3r (hc3.wide HlF.out) hbA ho4 hg4 hat4
      generalize w4.setCell ⟨bh, 1, none⟩ (.slice A4 (i + 1) c4) = w5 at *
      have hbl2 : (bcs ++ [bc]).length = i + 1 := by rw [List.length_append, List.length_singleton, hbl]
      have hmem : ∀ r ∈ rest i, Pg.Fine r ∧ (∀ v ∈ r, v.ok) ∧ rowC r ≤ g ∧ r.length ≤ 1000000 := fun r hr => by
       rw [hri] at hr
       obtain ⟨c, hc, hrc⟩ := sorted_mem hr
       exact (Hrows.out c hc).2 r hrc
      have hnx := Lib.hid (hnext_c w0 B col0 P0 (TP [] s) TT bs bp most b7 bh rb n s F (bcs ++ [bc]) left1 least1 rest H i w5 hM5 (by omega) hlt (by omega) (by omega) (by have := Hsum.out; omega) (by omega) (fun r hr => by have := hmem r hr; exact ⟨this.1, by omega, this.2.2.2⟩) (by rw [hri]; exact sorted_len (fun c hc => (Hrows.out c hc).1) i) HF.out)
      have Hmem := Lib.hid hmem
      clear hM5 hmem hc3 hb3r hbA ho4 hg4 hat4 hk4 b4 c4' f4 ba ca b3 c3 Hf1 Hs1 H3 HM b0 c1 bd0 cd1 hHeld hHeld2 hHeld4
      refine NoPanic.normal ?_
      clear hK hHeld5
      go_wp2_with fail
      refine hnx.out.mono ?_
      rintro e w6 hx
      have hHi := Hnone.out i (Nat.le_refl _)
      have hset := heldN_set H i
      rcases hx with ⟨hr0, rfl, hm6⟩ | ⟨r, t, hrt, hlr, rfl, hm6⟩ | ⟨r, t, hrt, hlr, rfl, hm6⟩
      ·rw [setF_same H i none hHi] at hm6
       have HM6 := Lib.hid hm6
       have Hr0 := Lib.hid hr0
       clear hm6 hnx hr0 hset hHi hri
       go_wp2_with fail
       go_roundw
       case rel => exact ⟨i + 1, bcs ++ [bc], left1, least1, rest, H, by omega, by go_num, hbl2, HM6, Hrest, fun p hp => Hnone.out p (by omega), fun p hp hh => (by
        by_cases e : p = i
        ·rw [e]; exact Hr0.out
        ·exact Hends.out p (by omega) hh), Hsum, hle1⟩
       case measure => simp only [intOf, Int.toNat_natCast]; omega
      ·rw [setF_same H i none hHi] at hm6
       have hbud : left < n * g := by
        have h1 := hset (some r) n hlt
        rw [hHi] at h1
        change _ + 0 = _ + rowC r at h1
        have h2 := heldN_le (H := setF H i (some r)) (g := g) n fun p _ x hx => by
         by_cases e : p = i
         ·rw [e, setF_at] at hx
          injection hx with hx
          subst hx
          exact (Hmem.out r (by rw [hrt]; simp)).2.2.1
         ·rw [setF_ne _ _ e] at hx
          have h3 := Hrest.out p
          rw [hx] at h3
          obtain ⟨c, hc, hxc⟩ := sorted_mem (ks := ks) (Cs := Cs) (p := p) (r := x) (by rw [← h3]; simp)
          exact ((Hrows.out c hc).2 x hxc).2.2.1
        have h3 := Hsum.out
        omega
       have Hbud := Lib.hid hbud
       have hbk := hback_c w0 B col0 P0 (TP [] s) TT bs bp most b7 bh rb n s F (bcs ++ [bc]) left1 least1 (setF rest i t) H .returning w6 hm6 (by omega) (by have := Hsum.out; omega) hm
       rw [Hsum.out] at hbk
       have Hbk := Lib.hid hbk
       clear hm6 hnx hrt hset hHi hri hbud hbk
       go_wp2_with fail
       try simp only [Exit.inBlock, Exit.then]
       refine leaves_cons (f := 78) (args := #[.pointer (some ⟨b7, 0, none⟩)]) (by simp) (by simp [go_sem]) ?_
       refine Hbk.out.mono ?_
       rintro e u' w7 ⟨rfl, rfl, hm7⟩
       obtain ⟨col7, hf7, hs7⟩ := mdone hm7
       exact ⟨_, results_tmp rfl _ _ _, s, col7, least1, _, hf7, hs7, fun _ _ => rfl, hle1, .inr (.inl ⟨rfl, Hbud.out, [], rfl⟩)⟩
      ·have HM6 := Lib.hid hm6
       have hsum2 : left1 - rowC r + heldN (setF H i (some r)) n = left := by
        have h1 := hset (some r) n hlt
        rw [hHi] at h1
        change _ + 0 = _ + rowC r at h1
        have := Hsum.out
        omega
       have Hsum2 := Lib.hid hsum2
       have hrest2 : ∀ p, (setF H i (some r) p).toList ++ setF rest i t p = sortR ks (Cs.getD p []) := fun p => by
        by_cases e : p = i
        ·subst e
         rw [setF_at, setF_at, ← hri, hrt]
         rfl
        ·rw [setF_ne _ _ e, setF_ne _ _ e]
         exact Hrest.out p
       have Hrest2 := Lib.hid hrest2
       clear hm6 hnx hrt hset hHi hri hsum2 hrest2 hlr
       go_wp2_with fail
       go_roundw
       case rel => exact ⟨i + 1, bcs ++ [bc], left1 - rowC r, min least1 (left1 - rowC r), setF rest i t, setF H i (some r), by omega, by go_num, hbl2, HM6, Hrest2, fun p hp => (by show setF H i (some r) p = none; rw [setF_ne _ _ (show p ≠ i by omega)]; exact Hnone.out p (by omega)), fun p hp hh => (by
        by_cases e : p = i
        ·rw [e, setF_at] at hh; cases hh
        ·rw [setF_ne _ _ e] at hh ⊢
         exact Hends.out p (by omega) hh), Hsum2, by omega⟩
       case measure => simp only [intOf, Int.toNat_natCast]; omega
     ·go_simp
      refine hK.out _ _ b3 (fun hHeld2 => ?_)
      (try simp only [Act.put, List.setIfInBounds_toArray, List.set_cons_zero, List.set_cons_succ])
      (refine wpAnyH_ready (rs := [7]) (by kernel_rfl) (by simp) ?_; refine AllReadyH.cons (o := ?oc7_32) ?ho7_32 (fun K hK => ?_) AllReadyH.nil; (case ho7_32 => ((simp only [List.getElem?_toArray, List.getElem?_cons_succ, List.getElem?_cons_zero]); rfl)); go_simp)
      refine hK.out _ _ ba (fun hHeld2 => ?_)
      (try simp only [Act.put, List.setIfInBounds_toArray, List.set_cons_zero, List.set_cons_succ])
      (refine wpAnyH_ready (rs := [8]) (by kernel_rfl) (by simp) ?_; refine AllReadyH.cons (o := ?oc8_33) ?ho8_33 (fun K hK => ?_) AllReadyH.nil; (case ho8_33 => ((simp only [List.getElem?_toArray, List.getElem?_cons_succ, List.getElem?_cons_zero]); rfl)))
      refine step_apd rfl (.tmp 38) (.tmp 41) 115 rfl Ecurs 0 CA i cc (Ptrs bcs) (by simp [Act.eval, Act.put]) (Own.below (Own.below H3.out.curs hb3r) hbA) (some ⟨w3.heap.size, 0, none⟩) 1 1 [.pointer (some ⟨bc, 0, none⟩)] (by simp [Act.eval, Act.put]) rfl (Rd.of_blk (Blk.new w3 119 #[.pointer (some ⟨bc, 0, none⟩)])) (by simp [Value.oneCell']) (i + 1) rfl (Ptrs bcs ++ [.pointer (some ⟨bc, 0, none⟩)]) rfl (by omega) (by omega) (Nat.zero_le _) ?_
      intro A4 c4 w4 ho4 hg4 hat4
      have hk4 := Own.apd_keeps (Own.below (Own.below H3.out.curs hb3r) hbA) hg4
      have b4 := (((H3.out.box.below hb3r).below hbA).keeps (by decide) hk4).cell 0
      have c4' := (((H3.out.blk.below hb3r).below hbA).keeps (by decide) hk4).cell 1
      have f4 := (((H3.out.blk.below hb3r).below hbA).keeps (by decide) hk4).frozen 1
      simp only [List.getElem?_cons_zero, List.getElem?_cons_succ] at b4 c4'
      have b5 : (w4.setCell ⟨bh, 1, none⟩ (.slice A4 (i + 1) c4)).cell? ⟨b7, 0, none⟩ = some (.pointer (some ⟨bh, 0, none⟩)) := (World.cell?_setCell_other _ _ _ _ (fun e => hb7h (congrArg Addr.block e))).trans b4
      refine hK.out _ _ b4 (fun hHeld4 => ?_)
      (try simp only [Act.put, List.setIfInBounds_toArray, List.set_cons_zero, List.set_cons_succ])
      (refine wpAnyH_take (i := 9) (oi := ?oi9_34) (v := ?vv9_34) ?hi9_34 (by kernel_rfl) (by kernel_rfl) (by kernel_rfl) ?hQ9_34 ?hy9_34 (by assumption) ?rest9_34; (case hi9_34 => ((simp only [List.getElem?_toArray, List.getElem?_cons_succ, List.getElem?_cons_zero]); rfl)); (case hQ9_34 => exact (fun _ _ _ h => h)); (case hy9_34 => (refine Or.inl ⟨by rfl, ?_⟩; intro w hSw; (try dsimp only at hSw); go_simp; try (with_reducible rfl))); (try simp only [Act.put, List.setIfInBounds_toArray, List.set_cons_zero, List.set_cons_succ]))
      (refine wpAnyH_take (i := 10) (oi := ?oi10_35) (v := ?vv10_35) ?hi10_35 (by kernel_rfl) (by kernel_rfl) (by kernel_rfl) ?hQ10_35 ?hy10_35 (by assumption) ?rest10_35; (case hi10_35 => ((simp only [List.getElem?_toArray, List.getElem?_cons_succ, List.getElem?_cons_zero]); rfl)); (case hQ10_35 => exact (fun _ _ _ h => h)); (case hy10_35 => (refine Or.inl ⟨by rfl, ?_⟩; intro w hSw; (try dsimp only at hSw); go_simp; try (with_reducible rfl))); (try simp only [Act.put, List.setIfInBounds_toArray, List.set_cons_zero, List.set_cons_succ]))
      (refine wpAnyH_ready (rs := [11]) (by kernel_rfl) (by simp) ?_; refine AllReadyH.cons (o := ?oc11_36) ?ho11_36 (fun K hK => ?_) AllReadyH.nil; (case ho11_36 => ((simp only [List.getElem?_toArray, List.getElem?_cons_succ, List.getElem?_cons_zero]); rfl)); go_simp)
      refine hK.out _ _ b5 (fun hHeld5 => ?_)
      (try simp only [Act.put, List.setIfInBounds_toArray, List.set_cons_zero, List.set_cons_succ])
      refine wpAnyH_done (by kernel_rfl) ?_ _
      have hM5 := Fam.push Hf1.out hbl Hs1.out H3.out hb3r (hc3.wide HlF.out) hbA ho4 hg4 hat4
      generalize w4.setCell ⟨bh, 1, none⟩ (.slice A4 (i + 1) c4) = w5 at *
      have hbl2 : (bcs ++ [bc]).length = i + 1 := by rw [List.length_append, List.length_singleton, hbl]
      have hmem : ∀ r ∈ rest i, Pg.Fine r ∧ (∀ v ∈ r, v.ok) ∧ rowC r ≤ g ∧ r.length ≤ 1000000 := fun r hr => by
       rw [hri] at hr
       obtain ⟨c, hc, hrc⟩ := sorted_mem hr
       exact (Hrows.out c hc).2 r hrc
      have hnx := Lib.hid (hnext_c w0 B col0 P0 (TP [] s) TT bs bp most b7 bh rb n s F (bcs ++ [bc]) left1 least1 rest H i w5 hM5 (by omega) hlt (by omega) (by omega) (by have := Hsum.out; omega) (by omega) (fun r hr => by have := hmem r hr; exact ⟨this.1, by omega, this.2.2.2⟩) (by rw [hri]; exact sorted_len (fun c hc => (Hrows.out c hc).1) i) HF.out)
      have Hmem := Lib.hid hmem
      clear hM5 hmem hc3 hb3r hbA ho4 hg4 hat4 hk4 b4 c4' f4 ba ca b3 c3 Hf1 Hs1 H3 HM b0 c1 bd0 cd1 hHeld hHeld2 hHeld4
      refine NoPanic.normal ?_
      clear hK hHeld5
      go_wp2_with fail
      refine hnx.out.mono ?_
      rintro e w6 hx
      have hHi := Hnone.out i (Nat.le_refl _)
      have hset := heldN_set H i
      rcases hx with ⟨hr0, rfl, hm6⟩ | ⟨r, t, hrt, hlr, rfl, hm6⟩ | ⟨r, t, hrt, hlr, rfl, hm6⟩
      ·rw [setF_same H i none hHi] at hm6
       have HM6 := Lib.hid hm6
       have Hr0 := Lib.hid hr0
       clear hm6 hnx hr0 hset hHi hri
       go_wp2_with fail
       go_roundw
       case rel => exact ⟨i + 1, bcs ++ [bc], left1, least1, rest, H, by omega, by go_num, hbl2, HM6, Hrest, fun p hp => Hnone.out p (by omega), fun p hp hh => (by
        by_cases e : p = i
        ·rw [e]; exact Hr0.out
        ·exact Hends.out p (by omega) hh), Hsum, hle1⟩
       case measure => simp only [intOf, Int.toNat_natCast]; omega
      ·rw [setF_same H i none hHi] at hm6
       have hbud : left < n * g := by
        have h1 := hset (some r) n hlt
        rw [hHi] at h1
        change _ + 0 = _ + rowC r at h1
        have h2 := heldN_le (H := setF H i (some r)) (g := g) n fun p _ x hx => by
         by_cases e : p = i
         ·rw [e, setF_at] at hx
          injection hx with hx
          subst hx
          exact (Hmem.out r (by rw [hrt]; simp)).2.2.1
         ·rw [setF_ne _ _ e] at hx
          have h3 := Hrest.out p
          rw [hx] at h3
          obtain ⟨c, hc, hxc⟩ := sorted_mem (ks := ks) (Cs := Cs) (p := p) (r := x) (by rw [← h3]; simp)
          exact ((Hrows.out c hc).2 x hxc).2.2.1
        have h3 := Hsum.out
        omega
       have Hbud := Lib.hid hbud
       have hbk := hback_c w0 B col0 P0 (TP [] s) TT bs bp most b7 bh rb n s F (bcs ++ [bc]) left1 least1 (setF rest i t) H .returning w6 hm6 (by omega) (by have := Hsum.out; omega) hm
       rw [Hsum.out] at hbk
       have Hbk := Lib.hid hbk
       clear hm6 hnx hrt hset hHi hri hbud hbk
       go_wp2_with fail
       try simp only [Exit.inBlock, Exit.then]
       refine leaves_cons (f := 78) (args := #[.pointer (some ⟨b7, 0, none⟩)]) (by simp) (by simp [go_sem]) ?_
       refine Hbk.out.mono ?_
       rintro e u' w7 ⟨rfl, rfl, hm7⟩
       obtain ⟨col7, hf7, hs7⟩ := mdone hm7
       exact ⟨_, results_tmp rfl _ _ _, s, col7, least1, _, hf7, hs7, fun _ _ => rfl, hle1, .inr (.inl ⟨rfl, Hbud.out, [], rfl⟩)⟩
      ·have HM6 := Lib.hid hm6
       have hsum2 : left1 - rowC r + heldN (setF H i (some r)) n = left := by
        have h1 := hset (some r) n hlt
        rw [hHi] at h1
        change _ + 0 = _ + rowC r at h1
        have := Hsum.out
        omega
       have Hsum2 := Lib.hid hsum2
       have hrest2 : ∀ p, (setF H i (some r) p).toList ++ setF rest i t p = sortR ks (Cs.getD p []) := fun p => by
        by_cases e : p = i
        ·subst e
         rw [setF_at, setF_at, ← hri, hrt]
         rfl
        ·rw [setF_ne _ _ e, setF_ne _ _ e]
         exact Hrest.out p
       have Hrest2 := Lib.hid hrest2
       clear hm6 hnx hrt hset hHi hri hsum2 hrest2 hlr
       go_wp2_with fail
       go_roundw
       case rel => exact ⟨i + 1, bcs ++ [bc], left1 - rowC r, min least1 (left1 - rowC r), setF rest i t, setF H i (some r), by omega, by go_num, hbl2, HM6, Hrest2, fun p hp => (by show setF H i (some r) p = none; rw [setF_ne _ _ (show p ≠ i by omega)]; exact Hnone.out p (by omega)), fun p hp hh => (by
        by_cases e : p = i
        ·rw [e, setF_at] at hh; cases hh
        ·rw [setF_ne _ _ e] at hh ⊢
         exact Hends.out p (by omega) hh), Hsum2, by omega⟩
       case measure => simp only [intOf, Int.toNat_natCast]; omega
    ·go_simp
     refine hK.out _ _ hHeld (fun hHeld2 => ?_)
     (try simp only [Act.put, List.setIfInBounds_toArray, List.set_cons_zero, List.set_cons_succ])
     (refine wpAnyH_ready (rs := [6]) (by kernel_rfl) (by simp) ?_; refine AllReadyH.cons (o := ?oc6_37) ?ho6_37 (fun K hK => ?_) AllReadyH.nil; (case ho6_37 => ((simp only [List.getElem?_toArray, List.getElem?_cons_succ, List.getElem?_cons_zero]); rfl)); go_simp)
     refine hop.out.mono ?_
     rintro e w3 ⟨bc, rfl, hc3, hb3⟩
     have b3 := cell_keep hb3 bd0
     have c3 := cell_keep hb3 cd1
     have ba := cell_alloc1 (.cells #[.pointer (some ⟨bc, 0, none⟩)] 119) b3
     have ca := cell_alloc1 (.cells #[.pointer (some ⟨bc, 0, none⟩)] 119) c3
     have hb3r : Below wr.heap.size wr w3 := (Below.refl wr.heap.size wr).drew.trans hb3
     have hbA : Below w3.heap.size w3 (w3.alloc (.cells #[.pointer (some ⟨bc, 0, none⟩)] 119)) := (Below.refl _ _).alloc (Nat.le_refl _) _
     go_wp2_with fail
     refine hK.out _ _ b3 (fun hHeld2 => ?_)
     (try simp only [Act.put, List.setIfInBounds_toArray, List.set_cons_zero, List.set_cons_succ])
     (refine wpAnyH_ready (rs := [7]) (by kernel_rfl) (by simp) ?_; refine AllReadyH.cons (o := ?oc7_38) ?ho7_38 (fun K hK => ?_) AllReadyH.nil; (case ho7_38 => ((simp only [List.getElem?_toArray, List.getElem?_cons_succ, List.getElem?_cons_zero]); rfl)); go_simp)
     refine hK.out _ _ ba (fun hHeld2 => ?_)
     (try simp only [Act.put, List.setIfInBounds_toArray, List.set_cons_zero, List.set_cons_succ])
     (refine wpAnyH_ready (rs := [8]) (by kernel_rfl) (by simp) ?_; refine AllReadyH.cons (o := ?oc8_39) ?ho8_39 (fun K hK => ?_) AllReadyH.nil; (case ho8_39 => ((simp only [List.getElem?_toArray, List.getElem?_cons_succ, List.getElem?_cons_zero]); rfl)))
     refine step_apd rfl (.tmp 38) (.tmp 41) 115 rfl Ecurs 0 CA i cc (Ptrs bcs) (by simp [Act.eval, Act.put]) (Own.below (Own.below H3.out.curs hb3r) hbA) (some ⟨w3.heap.size, 0, none⟩) 1 1 [.pointer (some ⟨bc, 0, none⟩)] (by simp [Act.eval, Act.put]) rfl (Rd.of_blk (Blk.new w3 119 #[.pointer (some ⟨bc, 0, none⟩)])) (by simp [Value.oneCell']) (i + 1) rfl (Ptrs bcs ++ [.pointer (some ⟨bc, 0, none⟩)]) rfl (by omega) (by omega) (Nat.zero_le _) ?_
     intro A4 c4 w4 ho4 hg4 hat4
     have hk4 := Own.apd_keeps (Own.below (Own.below H3.out.curs hb3r) hbA) hg4
     have b4 := (((H3.out.box.below hb3r).below hbA).keeps (by decide) hk4).cell 0
     have c4' := (((H3.out.blk.below hb3r).below hbA).keeps (by decide) hk4).cell 1
     have f4 := (((H3.out.blk.below hb3r).below hbA).keeps (by decide) hk4).frozen 1
     simp only [List.getElem?_cons_zero, List.getElem?_cons_succ] at b4 c4'
     have b5 : (w4.setCell ⟨bh, 1, none⟩ (.slice A4 (i + 1) c4)).cell? ⟨b7, 0, none⟩ = some (.pointer (some ⟨bh, 0, none⟩)) := (World.cell?_setCell_other _ _ _ _ (fun e => hb7h (congrArg Addr.block e))).trans b4
     refine hK.out _ _ b4 (fun hHeld4 => ?_)
     (try simp only [Act.put, List.setIfInBounds_toArray, List.set_cons_zero, List.set_cons_succ])
     (refine wpAnyH_take (i := 9) (oi := ?oi9_40) (v := ?vv9_40) ?hi9_40 (by kernel_rfl) (by kernel_rfl) (by kernel_rfl) ?hQ9_40 ?hy9_40 (by assumption) ?rest9_40; (case hi9_40 => ((simp only [List.getElem?_toArray, List.getElem?_cons_succ, List.getElem?_cons_zero]); rfl)); (case hQ9_40 => exact (fun _ _ _ h => h)); (case hy9_40 => (refine Or.inl ⟨by rfl, ?_⟩; intro w hSw; (try dsimp only at hSw); go_simp; try (with_reducible rfl))); (try simp only [Act.put, List.setIfInBounds_toArray, List.set_cons_zero, List.set_cons_succ]))
     (refine wpAnyH_take (i := 10) (oi := ?oi10_41) (v := ?vv10_41) ?hi10_41 (by kernel_rfl) (by kernel_rfl) (by kernel_rfl) ?hQ10_41 ?hy10_41 (by assumption) ?rest10_41; (case hi10_41 => ((simp only [List.getElem?_toArray, List.getElem?_cons_succ, List.getElem?_cons_zero]); rfl)); (case hQ10_41 => exact (fun _ _ _ h => h)); (case hy10_41 => (refine Or.inl ⟨by rfl, ?_⟩; intro w hSw; (try dsimp only at hSw); go_simp; try (with_reducible rfl))); (try simp only [Act.put, List.setIfInBounds_toArray, List.set_cons_zero, List.set_cons_succ]))
     (refine wpAnyH_ready (rs := [11]) (by kernel_rfl) (by simp) ?_; refine AllReadyH.cons (o := ?oc11_42) ?ho11_42 (fun K hK => ?_) AllReadyH.nil; (case ho11_42 => ((simp only [List.getElem?_toArray, List.getElem?_cons_succ, List.getElem?_cons_zero]); rfl)); go_simp)
     refine hK.out _ _ b5 (fun hHeld5 => ?_)
     (try simp only [Act.put, List.setIfInBounds_toArray, List.set_cons_zero, List.set_cons_succ])
     refine wpAnyH_done (by kernel_rfl) ?_ _
     have hM5 := Fam.push Hf1.out hbl Hs1.out H3.out hb3r (hc3.wide HlF.out) hbA ho4 hg4 hat4
     generalize w4.setCell ⟨bh, 1, none⟩ (.slice A4 (i + 1) c4) = w5 at *
     have hbl2 : (bcs ++ [bc]).length = i + 1 := by rw [List.length_append, List.length_singleton, hbl]
     have hmem : ∀ r ∈ rest i, Pg.Fine r ∧ (∀ v ∈ r, v.ok) ∧ rowC r ≤ g ∧ r.length ≤ 1000000 := fun r hr => by
      rw [hri] at hr
      obtain ⟨c, hc, hrc⟩ := sorted_mem hr
      exact (Hrows.out c hc).2 r hrc
     have hnx := Lib.hid (hnext_c w0 B col0 P0 (TP [] s) TT bs bp most b7 bh rb n s F (bcs ++ [bc]) left1 least1 rest H i w5 hM5 (by omega) hlt (by omega) (by omega) (by have := Hsum.out; omega) (by omega) (fun r hr => by have := hmem r hr; exact ⟨this.1, by omega, this.2.2.2⟩) (by rw [hri]; exact sorted_len (fun c hc => (Hrows.out c hc).1) i) HF.out)
     have Hmem := Lib.hid hmem
     clear hM5 hmem hc3 hb3r hbA ho4 hg4 hat4 hk4 b4 c4' f4 ba ca b3 c3 Hf1 Hs1 H3 HM b0 c1 bd0 cd1 hHeld hHeld2 hHeld4
     refine NoPanic.normal ?_
     clear hK hHeld5
     go_wp2_with fail
     refine hnx.out.mono ?_
     rintro e w6 hx
     have hHi := Hnone.out i (Nat.le_refl _)
     have hset := heldN_set H i
     rcases hx with ⟨hr0, rfl, hm6⟩ | ⟨r, t, hrt, hlr, rfl, hm6⟩ | ⟨r, t, hrt, hlr, rfl, hm6⟩
     ·rw [setF_same H i none hHi] at hm6
      have HM6 := Lib.hid hm6
      have Hr0 := Lib.hid hr0
      clear hm6 hnx hr0 hset hHi hri
      go_wp2_with fail
      go_roundw
      case rel => exact ⟨i + 1, bcs ++ [bc], left1, least1, rest, H, by omega, by go_num, hbl2, HM6, Hrest, fun p hp => Hnone.out p (by omega), fun p hp hh => (by
       by_cases e : p = i
       ·rw [e]; exact Hr0.out
       ·exact Hends.out p (by omega) hh), Hsum, hle1⟩
      case measure => simp only [intOf, Int.toNat_natCast]; omega
     ·rw [setF_same H i none hHi] at hm6
      have hbud : left < n * g := by
       have h1 := hset (some r) n hlt
       rw [hHi] at h1
       change _ + 0 = _ + rowC r at h1
       have h2 := heldN_le (H := setF H i (some r)) (g := g) n fun p _ x hx => by
        by_cases e : p = i
        ·rw [e, setF_at] at hx
         injection hx with hx
         subst hx
         exact (Hmem.out r (by rw [hrt]; simp)).2.2.1
        ·rw [setF_ne _ _ e] at hx
         have h3 := Hrest.out p
         rw [hx] at h3
         obtain ⟨c, hc, hxc⟩ := sorted_mem (ks := ks) (Cs := Cs) (p := p) (r := x) (by rw [← h3]; simp)
         exact ((Hrows.out c hc).2 x hxc).2.2.1
       have h3 := Hsum.out
       omega
      have Hbud := Lib.hid hbud
      have hbk := hback_c w0 B col0 P0 (TP [] s) TT bs bp most b7 bh rb n s F (bcs ++ [bc]) left1 least1 (setF rest i t) H .returning w6 hm6 (by omega) (by have := Hsum.out; omega) hm
      rw [Hsum.out] at hbk
      have Hbk := Lib.hid hbk
      clear hm6 hnx hrt hset hHi hri hbud hbk
      go_wp2_with fail
      try simp only [Exit.inBlock, Exit.then]
      refine leaves_cons (f := 78) (args := #[.pointer (some ⟨b7, 0, none⟩)]) (by simp) (by simp [go_sem]) ?_
      refine Hbk.out.mono ?_
      rintro e u' w7 ⟨rfl, rfl, hm7⟩
      obtain ⟨col7, hf7, hs7⟩ := mdone hm7
      exact ⟨_, results_tmp rfl _ _ _, s, col7, least1, _, hf7, hs7, fun _ _ => rfl, hle1, .inr (.inl ⟨rfl, Hbud.out, [], rfl⟩)⟩
     ·have HM6 := Lib.hid hm6
      have hsum2 : left1 - rowC r + heldN (setF H i (some r)) n = left := by
       have h1 := hset (some r) n hlt
       rw [hHi] at h1
       change _ + 0 = _ + rowC r at h1
       have := Hsum.out
       omega
      have Hsum2 := Lib.hid hsum2
      have hrest2 : ∀ p, (setF H i (some r) p).toList ++ setF rest i t p = sortR ks (Cs.getD p []) := fun p => by
       by_cases e : p = i
       ·subst e
        rw [setF_at, setF_at, ← hri, hrt]
        rfl
       ·rw [setF_ne _ _ e, setF_ne _ _ e]
        exact Hrest.out p
      have Hrest2 := Lib.hid hrest2
      clear hm6 hnx hrt hset hHi hri hsum2 hrest2 hlr
      go_wp2_with fail
      go_roundw
      case rel => exact ⟨i + 1, bcs ++ [bc], left1 - rowC r, min least1 (left1 - rowC r), setF rest i t, setF H i (some r), by omega, by go_num, hbl2, HM6, Hrest2, fun p hp => (by show setF H i (some r) p = none; rw [setF_ne _ _ (show p ≠ i by omega)]; exact Hnone.out p (by omega)), fun p hp hh => (by
       by_cases e : p = i
       ·rw [e, setF_at] at hh; cases hh
       ·rw [setF_ne _ _ e] at hh ⊢
        exact Hends.out p (by omega) hh), Hsum2, by omega⟩
      case measure => simp only [intOf, Int.toNat_natCast]; omega
   ·obtain rfl : i = n := by omega
    have hnn : ∀ p, i ≤ p → H p = none := Hnone.out
    obtain ⟨V, vn, vc, hrd, hHR, b0, c2, _, _⟩ := MgS.rows HM.out hnn
    obtain ⟨s2, hkr⟩ := msorter HM.out Hin.out
    have hbd : Below wr.heap.size wr wr.drew := (Below.refl _ _).drew
    have hnew := Lib.hid (mtnew_c i V vn vc KA kn kc (HM.out.below hbd) (hrd.below hbd) (hHR.below hbd) hn16 hk (hkr.below hbd) hkn)
    have Hnn := Lib.hid hnn
    have bd0 : wr.drew.cell? ⟨b7, 0, none⟩ = some (.pointer (some ⟨bh, 0, none⟩)) := b0
    have cd2 : wr.drew.cell? ⟨bh, 2, none⟩ = some (.slice (some ⟨rb, 0, none⟩) i i) := c2
    have sd2 : wr.drew.cell? ⟨bS, 2, none⟩ = some (.slice KA kn kc) := s2
    clear hrd hHR hkr hbd hnn
    go_wp2_with fail
    go_region_held3 (fun w' => w'.cell? ⟨b7, 0, none⟩ = some (.pointer (some ⟨bh, 0, none⟩)) ∧ w'.cell? ⟨bh, 2, none⟩ = some (.slice (some ⟨rb, 0, none⟩) i i) ∧ w'.cell? ⟨bS, 2, none⟩ = some (.slice KA kn kc))
     (first | assumption | exact ⟨b0, c2, s2⟩ | exact ⟨bd0, cd2, sd2⟩ | exact ⟨b3, c3, s3⟩)
     (first | (go_at_call 82; refine hnew.out.mono ?_; rintro e w3 ⟨bt, sz, rfl, hz1, hz2, hz3, hm3⟩; obtain ⟨_, _, _, _, _, b3, c3, _, _⟩ := MgS.rows hm3 Hnn.out; obtain ⟨s3, _⟩ := msorter hm3 Hin.out))
    all_goals
     have hmg := LsOf.start ks Cs H rest fun p hp => by
      rw [Hrest.out p, List.getD_eq_getElem?_getD, List.getElem?_eq_getElem hp]
      rfl
     have hperm := LsOf.perm ks Cs H rest Hrest.out
     rw [hC] at hmg hperm
     have hout : ∀ p, i ≤ p → H p = none ∧ rest p = [] := fun p hp => by
      have h1 := Hrest.out p
      rw [List.getD_eq_getElem?_getD, List.getElem?_eq_none (by omega), Hnn.out p hp] at h1
      exact ⟨Hnn.out p hp, h1⟩
     have hends : Ends H rest := fun p hp => by
      by_cases e : p < i
      ·exact Hends.out p e hp
      ·exact (hout p (by omega)).2
     have HI : Hid (MInv w0 B col0 P0 TP bs bp most b7 bh rb i bt sz left least ks Cs s F bcs w3 _) := ⟨s, left1, least1, [], rest, H, hm3, hmg, hperm, hout, hends, Hsum.out, hle1, fun _ _ => rfl, rfl⟩
     clear hm3 hmg hperm hout hends Hrest Hnone Hends Hsum Hnn hnew HM bd0 cd2 sd2 b0 c2 s2
     have eg := Hto.out.enters
     go_wp2_with fail
     go_loopw [13] (fun x wr => ∃ k, MInv w0 B col0 P0 TP bs bp most b7 bh rb i bt sz left least ks Cs s F bcs wr k) (fun _ wr => lst (MInv w0 B col0 P0 TP bs bp most b7 bh rb i bt sz left least ks Cs s F bcs wr))
     case atStart => exact ⟨_, HI.out⟩
     case round =>
      obtain ⟨k0, hk0⟩ := hrel
      obtain ⟨hI, -⟩ := lst_spec hk0
      obtain ⟨s1, left2, least2, out, rest2, H2, hm2, hmg, hperm, hout, hends, hsum, hle2, hF2, hk2⟩ := hI
      obtain ⟨q, S2, htw, hmW⟩ := hm2.won
      have hnx := Lib.hid (tnext_c wr htw (by omega) hz1 hz2 (by omega))
      have HmW := Lib.hid hmW
      have Hmg := Lib.hid hmg
      have Hperm := Lib.hid hperm
      have Hout := Lib.hid hout
      have Hends := Lib.hid hends
      have Hsum := Lib.hid hsum
      have HF2 := Lib.hid hF2
      have Hk2 := Lib.hid hk2
      clear hk0 hm2 htw hmW hmg hperm hout hends hsum hF2 hk2 HI
      go_wp2_with fail
      refine hnx.out.mono ?_
      rintro e w5 ⟨⟨hall, rfl⟩ | ⟨r, hq, hqn, hle, rfl⟩, rfl⟩
      ·have hfin : out = sortR ks Cs.flatten := Hmg.out.end_ (leRow_ord ks) (LsOf.none_ Hends.out hall)
       have hbk := hback_c w0 B col0 P0 (TP out s1) _ bs bp most b7 bh rb i s1 F bcs left2 least2 rest2 H2 .returning wr HmW.out (by omega) (by have := Hsum.out; omega) hm
       rw [Hsum.out, hfin] at hbk
       have Hbk := Lib.hid hbk
       clear hnx hall hfin hbk
       go_wp2_with fail
       try simp only [Exit.inBlock, Exit.then]
       refine leaves_cons (f := 78) (args := #[.pointer (some ⟨b7, 0, none⟩)]) (by simp) (by simp [go_sem]) ?_
       refine Hbk.out.mono ?_
       rintro e u' w7 ⟨rfl, rfl, hm7⟩
       obtain ⟨col7, hf7, hs7⟩ := mdone hm7
       exact ⟨_, results_tmp rfl _ _ _, s1, col7, least2, _, hf7, hs7, HF2.out, hle2, .inl ⟨rfl, rfl⟩⟩
      ·obtain ⟨V, vn, vc, _, _, b0, c2, hcells, hhd⟩ := MgS.rows HmW.out fun p hp => (Hout.out p hp).1
       have cq := hcells q hqn
       have hdq := hhd q
       rw [hq] at hdq
       rcases hdq with ⟨_, _, _, hx⟩ | ⟨a, r', hva, hvn, hrr, hrd, hok, hrl⟩
       ·cases hx
       ·injection hrr with hrr
        subst hrr
        rw [hva, hvn] at cq
        have hcl := Lib.hid (cloner_any r r.length (vc q) (some a) wr rfl hrd hrl)
        have hqI : (q : Int) < (i : Int) := by omega
        have hqI0 : (0 : Int) ≤ (q : Int) := by omega
        have Hok := Lib.hid hok
        have Hcells := Lib.hid hcells
        have Hrl := Lib.hid hrl
        have Hq := Lib.hid hq
        have Hle := Lib.hid hle
        clear hnx hcells hhd hrd hok hrl hq hle hva hvn
        go_wp2_with fail
        refine hcl.out.mono ?_
        rintro e w6 ⟨A6, c6, rfl, ho6, hb6⟩
        have hat : (LsOf i H2 rest2)[q]? = some (r :: rest2 q) := by rw [LsOf.at_ hqn, Hq.out]; rfl
        have hmr : ∀ x ∈ r :: rest2 q, Pg.Fine x ∧ (∀ v ∈ x, v.ok) ∧ rowC x ≤ g ∧ x.length ≤ 1000000 := fun x hx => by
         have h1 : x ∈ (LsOf i H2 rest2).flatten := List.mem_flatten.2 ⟨_, List.mem_of_getElem? hat, hx⟩
         have h2 := Hperm.out.mem_iff.1 (List.mem_append_right out h1)
         obtain ⟨c, hc, hxc⟩ := List.mem_flatten.1 h2
         exact (Hrows.out c hc).2 x hxc
        have hfl := flat_set hat
        have hstep := Hmg.out.step (leRow_ord ks) (LsOf.pick hqn Hq.out Hends.out Hle.out)
        have hperm2 : (out ++ r :: ((LsOf i H2 rest2).set q (rest2 q)).flatten).Perm Cs.flatten := ((List.Perm.refl out).append hfl.symm).trans Hperm.out
        have hto := Lib.hid (mto_c Hto.out out r A6 r.length c6 HmW.out hb6 rfl ho6 (hmr r (by simp)).1 Hok.out Hrl.out ⟨_, hperm2⟩)
        have hlen2 : ((LsOf i H2 rest2).set q (rest2 q)).flatten.length + 1 = (LsOf i H2 rest2).flatten.length := by rw [hfl.length_eq, List.length_cons]
        have hset := heldN_set H2 q
        have hnone1 := hset none i hqn
        rw [Hq.out] at hnone1
        change _ + rowC r = _ + 0 at hnone1
        have hroom : left2 + heldC (H2 q) ≤ most := by
         rw [Hq.out]
         show left2 + rowC r ≤ most
         have := Hsum.out
         omega
        have Hstep := Lib.hid hstep
        have Hperm2 := Lib.hid hperm2
        have Hlen2 := Lib.hid hlen2
        have Hmr := Lib.hid hmr
        have Hset := Lib.hid hset
        have Hnone1 := Lib.hid hnone1
        clear hat hmr hfl hstep hperm2 hlen2 hset hnone1 ho6 hb6 hcl b0 c2 cq HmW Hcells
        go_wp2_with fail
        refine hto.out.mono ?_
        rintro e w7 ⟨s7, hF7, ⟨rfl, hm7⟩ | ⟨rfl, hm7⟩⟩
        ·have HF7 : Hid (∀ x ∈ F, s7[x]? = s[x]?) := fun x hx => (hF7 x hx).trans (HF2.out x hx)
         obtain ⟨V7, vn7, vc7, _, _, d0, d2, _, _⟩ := MgS.rows hm7 fun p hp => (Hout.out p hp).1
         have hgv := Lib.hid (hgive_c w0 B col0 P0 _ _ bs bp most b7 bh rb i s7 F bcs left2 least2 rest2 H2 q w7 hm7 hqn (by omega) hroom hm)
         clear hm7 hto hF7
         go_wp2_with fail
         refine hgv.out.mono ?_
         rintro e w8 ⟨rfl, hm8⟩
         rw [Hq.out] at hm8
         change MgS w0 B col0 P0 _ _ bs bp most b7 bh rb i s7 F bcs (left2 + rowC r) least2 rest2 _ w8 at hm8
         obtain ⟨V8, vn8, vc8, _, _, e0, e2, _, _⟩ := MgS.rows hm8 fun p hp => (by rw [setF_ne _ _ (show p ≠ q by omega)]; exact (Hout.out p hp).1)
         have hcn : bcs.length = i := by assumption
         have hrl2 : (rest2 q).length ≤ 1000000 := by
          have h1 := Hperm.out.length_eq
          have h2 := mem_len (List.mem_of_getElem? (show (LsOf i H2 rest2)[q]? = some (r :: rest2 q) by rw [LsOf.at_ hqn, Hq.out]; rfl))
          rw [List.length_append] at h1
          rw [List.length_cons] at h2
          omega
         have hnx := Lib.hid (hnext_c w0 B col0 P0 _ _ bs bp most b7 bh rb i s7 F bcs (left2 + rowC r) least2 rest2 _ q w8 hm8 (by omega) hqn (by omega) (by omega) (by have := Hsum.out; have := Hnone1.out; omega) (by omega) (fun x hx => by have := Hmr.out x (by simp [hx]); exact ⟨this.1, by omega, this.2.2.2⟩) hrl2 HF.out)
         clear hm8 hgv d0 d2
         go_wp2_with fail
         refine hnx.out.mono ?_
         rintro e w9 hx
         rcases hx with ⟨hr0, rfl, hm9⟩ | ⟨r2, t2, hrt, hlr, rfl, hm9⟩ | ⟨r2, t2, hrt, hlr, rfl, hm9⟩
         ·rw [setF_setF] at hm9
          obtain ⟨V9, vn9, vc9, _, _, g0, g2, gc, gh⟩ := MgS.rows hm9 fun p hp => (by rw [setF_ne _ _ (show p ≠ q by omega)]; exact (Hout.out p hp).1)
          have gq := gc q hqn
          have ghq := gh q
          rw [setF_at] at ghq
          have hpt := Lib.hid (mput_c (V9 q) (vn9 q) (vc9 q) none r hm9 Hq.out ghq (by omega) hz2 (by omega))
          generalize V9 q = A9 at *
          generalize vn9 q = n9 at *
          generalize vc9 q = c9 at *
          have hls : (LsOf i H2 rest2).set q (rest2 q) = LsOf i (setF H2 q none) rest2 := LsOf.set hqn (fun p hp => setF_ne _ _ hp) (fun p hp => rfl) (by rw [setF_at]; rfl)
          have hout9 : ∀ p, i ≤ p → setF H2 q none p = none ∧ rest2 p = [] := fun p hp => by rw [setF_ne _ _ (show p ≠ q by omega)]; exact Hout.out p hp
          have hends9 : Ends (setF H2 q none) rest2 := fun p hp => by
           by_cases e : p = q
           ·rw [e]; exact hr0
           ·rw [setF_ne _ _ e] at hp; exact Hends.out p hp
          have hsum9 : left2 + rowC r + heldN (setF H2 q none) i = left := by have := Hsum.out; have := Hnone1.out; omega
          clear hm9 hnx gc gh ghq
          go_wp2_with fail
          refine hpt.out.mono ?_
          rintro e w10 ⟨rfl, hm10⟩
          have HI2 : Hid (MInv w0 B col0 P0 TP bs bp most b7 bh rb i bt sz left least ks Cs s F bcs w10 _) := ⟨s7, left2 + rowC r, least2, out ++ [r], rest2, setF H2 q none, hm10, by rw [← hls]; exact Hstep.out, by rw [← hls, List.append_assoc]; exact Hperm2.out, hout9, hends9, hsum9, by omega, HF7.out, rfl⟩
          have hlt9 : lst (MInv w0 B col0 P0 TP bs bp most b7 bh rb i bt sz left least ks Cs s F bcs w10) < lst (MInv w0 B col0 P0 TP bs bp most b7 bh rb i bt sz left least ks Cs s F bcs wr) := by
           have h1 := (lst_spec HI2.out).2
           rw [← hls] at h1
           have h2 := Hlen2.out
           have h3 := Hk2.out
           omega
          clear hm10 hpt
          go_wp2_with fail
          go_roundw
          case rel => exact ⟨_, HI2.out⟩
          case measure => exact hlt9
         ·rw [setF_setF] at hm9
          have hbud : left < i * g := by
           have h1 := Hset.out (some r2) i hqn
           rw [Hq.out] at h1
           change _ + rowC r = _ + rowC r2 at h1
           have h2 := heldN_le (H := setF H2 q (some r2)) (g := g) i fun p hp x hx => by
            by_cases e : p = q
            ·rw [e, setF_at] at hx
             injection hx with hx
             subst hx
             exact (Hmr.out r2 (by rw [hrt]; simp)).2.2.1
            ·rw [setF_ne _ _ e] at hx
             have h3 : x ∈ (LsOf i H2 rest2).flatten := List.mem_flatten.2 ⟨_, List.mem_of_getElem? (LsOf.at_ hp), by rw [hx]; simp⟩
             obtain ⟨c, hc, hxc⟩ := List.mem_flatten.1 (Hperm.out.mem_iff.1 (List.mem_append_right out h3))
             exact ((Hrows.out c hc).2 x hxc).2.2.1
           have := Hsum.out
           omega
          have Hbud := Lib.hid hbud
          have hback := hback_c w0 B col0 P0 (TP (out ++ [r]) s7) _ bs bp most b7 bh rb i s7 F bcs (left2 + rowC r) least2 (setF rest2 q t2) (setF H2 q none) .returning w9 hm9 (by omega) (by have := Hsum.out; have := Hnone1.out; omega) hm
          have hfix : left2 + rowC r + heldN (setF H2 q none) i = left := by have := Hsum.out; have := Hnone1.out; omega
          rw [hfix] at hback
          have Hbk := Lib.hid hback
          clear hm9 hnx hbud hback hfix
          go_wp2_with fail
          try simp only [Exit.inBlock, Exit.then]
          refine leaves_cons (f := 78) (args := #[.pointer (some ⟨b7, 0, none⟩)]) (by simp) (by simp [go_sem]) ?_
          refine Hbk.out.mono ?_
          rintro e u' w7' ⟨rfl, rfl, hm7'⟩
          obtain ⟨col7, hf7, hs7⟩ := mdone hm7'
          exact ⟨_, results_tmp rfl _ _ _, s7, col7, least2, _, hf7, hs7, HF7.out, hle2, .inr (.inl ⟨rfl, Hbud.out, _, rfl⟩)⟩
         ·rw [setF_setF] at hm9
          obtain ⟨V9, vn9, vc9, _, _, g0, g2, gc, gh⟩ := MgS.rows hm9 fun p hp => (by rw [setF_ne _ _ (show p ≠ q by omega)]; exact (Hout.out p hp).1)
          have gq := gc q hqn
          have ghq := gh q
          rw [setF_at] at ghq
          have hpt := Lib.hid (mput_c (V9 q) (vn9 q) (vc9 q) (some r2) r hm9 Hq.out ghq (by omega) hz2 (by omega))
          generalize V9 q = A9 at *
          generalize vn9 q = n9 at *
          generalize vc9 q = c9 at *
          have hls : (LsOf i H2 rest2).set q (rest2 q) = LsOf i (setF H2 q (some r2)) (setF rest2 q t2) := LsOf.set hqn (fun p hp => setF_ne _ _ hp) (fun p hp => setF_ne _ _ hp) (by rw [setF_at, setF_at, hrt]; rfl)
          have hout9 : ∀ p, i ≤ p → setF H2 q (some r2) p = none ∧ setF rest2 q t2 p = [] := fun p hp => by rw [setF_ne _ _ (show p ≠ q by omega), setF_ne _ _ (show p ≠ q by omega)]; exact Hout.out p hp
          have hends9 : Ends (setF H2 q (some r2)) (setF rest2 q t2) := fun p hp => by
           by_cases e : p = q
           ·rw [e, setF_at] at hp; cases hp
           ·rw [setF_ne _ _ e] at hp ⊢; exact Hends.out p hp
          have hsum9 : left2 + rowC r - rowC r2 + heldN (setF H2 q (some r2)) i = left := by
           have h1 := Hset.out (some r2) i hqn
           rw [Hq.out] at h1
           change _ + rowC r = _ + rowC r2 at h1
           have := Hsum.out
           omega
          clear hm9 hnx gc gh ghq
          go_wp2_with fail
          refine hpt.out.mono ?_
          rintro e w10 ⟨rfl, hm10⟩
          have HI2 : Hid (MInv w0 B col0 P0 TP bs bp most b7 bh rb i bt sz left least ks Cs s F bcs w10 _) := ⟨s7, left2 + rowC r - rowC r2, min least2 (left2 + rowC r - rowC r2), out ++ [r], setF rest2 q t2, setF H2 q (some r2), hm10, by rw [← hls]; exact Hstep.out, by rw [← hls, List.append_assoc]; exact Hperm2.out, hout9, hends9, hsum9, by omega, HF7.out, rfl⟩
          have hlt9 : lst (MInv w0 B col0 P0 TP bs bp most b7 bh rb i bt sz left least ks Cs s F bcs w10) < lst (MInv w0 B col0 P0 TP bs bp most b7 bh rb i bt sz left least ks Cs s F bcs wr) := by
           have h1 := (lst_spec HI2.out).2
           rw [← hls] at h1
           have h2 := Hlen2.out
           have h3 := Hk2.out
           omega
          clear hm10 hpt
          go_wp2_with fail
          go_roundw
          case rel => exact ⟨_, HI2.out⟩
          case measure => exact hlt9
        ·have HF7 : Hid (∀ x ∈ F, s7[x]? = s[x]?) := fun x hx => (hF7 x hx).trans (HF2.out x hx)
         have hbk := hback_c w0 B col0 P0 (TX s7) _ bs bp most b7 bh rb i s7 F bcs left2 least2 rest2 H2 .returning w7 hm7 (by omega) (by have := Hsum.out; omega) hm
         rw [Hsum.out] at hbk
         have Hbk := Lib.hid hbk
         clear hm7 hto hF7 hbk
         go_wp2_with fail
         try simp only [Exit.inBlock, Exit.then]
         refine leaves_cons (f := 78) (args := #[.pointer (some ⟨b7, 0, none⟩)]) (by simp) (by simp [go_sem]) ?_
         refine Hbk.out.mono ?_
         rintro e u' w7' ⟨rfl, rfl, hm7'⟩
         obtain ⟨col7, hf7, hs7⟩ := mdone hm7'
         exact ⟨_, results_tmp rfl _ _ _, s7, col7, least2, _, hf7, hs7, HF7.out, hle2, .inr (.inr ⟨rfl, rfl⟩)⟩
 ·clear hmk s1
  have hmf : ∀ (fn : Fn) (first cap : Array Value) (w : World), (Instr.makeFunc fn first cap).run Tryz.prog w = .ok (.func fn first cap) w := fun _ _ _ _ => rfl
  go_wp2_with fail
  go_loopw [29] (fun vi wr => ∃ (i : Nat) (bcs : List Nat) (left' least' : Nat) (rest : Nat → List RowM) (H : Nat → Option RowM), i ≤ n ∧ vi = .int .i64 (i : Int) ∧ bcs.length = i ∧ Hid (MgS w0 B col0 P0 (TP [] s) TT bs bp most b7 bh rb n s F bcs left' least' rest H wr) ∧ Hid (∀ p, (H p).toList ++ rest p = sortR ks (Cs.getD p [])) ∧ Hid (∀ p, i ≤ p → H p = none) ∧ Hid (∀ p, p < i → H p = none → rest p = []) ∧ Hid (left' + heldN H n = left) ∧ least' ≤ least) (fun vi _ => n - (intOf vi).toNat)
  case atStart => exact ⟨0, [], left, least, _, fun _ => none, by omega, by go_num, rfl, HM.out, fun p => rfl, fun p _ => rfl, fun p hp => by omega, (by show _ = _; rw [show heldN (fun _ => none) n = 0 from by have := heldN_le (H := fun _ => none) (g := 0) n (fun p _ r h => by cases h); omega]; rfl), Nat.le_refl _⟩
  case round =>
   clear HM
   obtain ⟨i, bcs, left1, least1, rest, H, hin, rfl, hbl, HM, Hrest, Hnone, Hends, Hsum, hle1⟩ := hrel
   by_cases hlt : i < n
   ·obtain ⟨bf, hbf⟩ : ∃ bf, bfs[i]? = some bf := ⟨_, List.getElem?_eq_getElem (by omega)⟩
    obtain ⟨col1, V, vn, vc, hf1, hs1⟩ := HM.out
    rw [hbl] at hf1
    have hp0 := hf1.at_ 0
    obtain ⟨S', l, k, ic, I, hfi, hlF, hli⟩ := Hin.out.each wr _ hp0 i bf hbf
    have hri : rest i = sortR ks (Cs.getD i []) := by
     have h1 := Hrest.out i
     rw [Hnone.out i (Nat.le_refl _)] at h1
     exact h1
    rw [← hri] at hfi hli
    have hpt : (Ptrs bfs)[i]? = some (.pointer (some ⟨bf, 0, none⟩)) := by unfold Ptrs; rw [List.getElem?_map, hbf]; rfl
    obtain ⟨fb, fo, rfl, hrg⟩ := (Hin.out.files wr _ hp0) (fun e => by rw [e] at hpt; cases hpt)
    have cu := hrg i _ hpt
    obtain ⟨CA, cc, h3⟩ : HeP bp b7 bh rb n i bcs V vn vc wr (Of wr col1 3) := hf1.at_ 3
    have b0 := h3.box.cell 0
    have c1 := h3.blk.cell 1
    simp only [List.getElem?_cons_zero, List.getElem?_cons_succ] at b0 c1
    have hop := Lib.hid (fopen_c S' bs bf s l k ic I (rest i) wr.drew (hfi.below (Below.refl _ _).drew) hli)
    have H3 := Lib.hid h3
    have Hf1 := Lib.hid hf1
    have Hs1 := Lib.hid hs1
    have HlF := Lib.hid hlF
    have bd0 : wr.drew.cell? ⟨b7, 0, none⟩ = some (.pointer (some ⟨bh, 0, none⟩)) := b0
    have cd1 : wr.drew.cell? ⟨bh, 1, none⟩ = some (.slice CA i cc) := c1
    have hltI : (i : Int) < (n : Int) := by omega
    have hi0I : (0 : Int) ≤ (i : Int) := by omega
    clear hf1 hs1 hp0 hfi hlF hli hrg h3 hpt
    go_wp2_with fail
    have hb7h : bh ≠ b7 := Blk.ne_of_type H3.out.blk H3.out.box (by decide)
    refine wp_region_noPanic ?_
    refine wp_region_held_drew (S := fun w' => w'.cell? ⟨b7, 0, none⟩ = some (.pointer (some ⟨bh, 0, none⟩))) (by kernel_rfl) b0 (fun hHeld => ?_)
    (refine wpAnyH_take (i := 0) (oi := ?oi0_43) (v := ?vv0_43) ?hi0_43 (by kernel_rfl) (by kernel_rfl) (by kernel_rfl) ?hQ0_43 ?hy0_43 (by assumption) ?rest0_43; (case hi0_43 => ((simp only [List.getElem?_toArray, List.getElem?_cons_zero]); rfl)); (case hQ0_43 => exact (fun _ _ _ h => h)); (case hy0_43 => (refine Or.inl ⟨by rfl, ?_⟩; intro w hSw; (try dsimp only at hSw); go_simp; try (with_reducible rfl))); (try simp only [Act.put, List.setIfInBounds_toArray, List.set_cons_zero, List.set_cons_succ]))
    (refine wpAnyH_take (i := 1) (oi := ?oi1_44) (v := ?vv1_44) ?hi1_44 (by kernel_rfl) (by kernel_rfl) (by kernel_rfl) ?hQ1_44 ?hy1_44 (by assumption) ?rest1_44; (case hi1_44 => ((simp only [List.getElem?_toArray, List.getElem?_cons_succ, List.getElem?_cons_zero]); rfl)); (case hQ1_44 => exact (fun _ _ _ h => h)); (case hy1_44 => (refine Or.inl ⟨by rfl, ?_⟩; intro w hSw; (try dsimp only at hSw); go_simp; try (with_reducible rfl))); (try simp only [Act.put, List.setIfInBounds_toArray, List.set_cons_zero, List.set_cons_succ]))
    (refine wpAnyH_take (i := 2) (oi := ?oi2_45) (v := ?vv2_45) ?hi2_45 (by kernel_rfl) (by kernel_rfl) (by kernel_rfl) ?hQ2_45 ?hy2_45 (by assumption) ?rest2_45; (case hi2_45 => ((simp only [List.getElem?_toArray, List.getElem?_cons_succ, List.getElem?_cons_zero]); rfl)); (case hQ2_45 => exact (fun _ _ _ h => h)); (case hy2_45 => (refine Or.inl ⟨by rfl, ?_⟩; intro w hSw; (try dsimp only at hSw); go_simp; try (with_reducible rfl))); (try simp only [Act.put, List.setIfInBounds_toArray, List.set_cons_zero, List.set_cons_succ]))
    (refine wpAnyH_take (i := 3) (oi := ?oi3_46) (v := ?vv3_46) ?hi3_46 (by kernel_rfl) (by kernel_rfl) (by kernel_rfl) ?hQ3_46 ?hy3_46 (by assumption) ?rest3_46; (case hi3_46 => ((simp only [List.getElem?_toArray, List.getElem?_cons_succ, List.getElem?_cons_zero]); rfl)); (case hQ3_46 => exact (fun _ _ _ h => h)); (case hy3_46 => (refine Or.inl ⟨by rfl, ?_⟩; intro w hSw; (try dsimp only at hSw); go_simp; try (with_reducible rfl))); (try simp only [Act.put, List.setIfInBounds_toArray, List.set_cons_zero, List.set_cons_succ]))
    (refine wpAnyH_take (i := 5) (oi := ?oi5_47) (v := ?vv5_47) ?hi5_47 (by kernel_rfl) (by kernel_rfl) (by kernel_rfl) ?hQ5_47 ?hy5_47 (by assumption) ?rest5_47; (case hi5_47 => ((simp only [List.getElem?_toArray, List.getElem?_cons_succ, List.getElem?_cons_zero]); rfl)); (case hQ5_47 => exact (fun _ _ _ h => h)); (case hy5_47 => (refine Or.inl ⟨by rfl, ?_⟩; intro w hSw; (try dsimp only at hSw); go_simp; try (with_reducible rfl))); (try simp only [Act.put, List.setIfInBounds_toArray, List.set_cons_zero, List.set_cons_succ]))
    refine wpAnyH_ready (rs := [4, 6]) (by kernel_rfl) (by simp) ?_
    refine AllReadyH.cons (o := ?oa4z) ?hoa4z (fun K hK => ?_) (AllReadyH.cons (o := ?ob6z) ?hob6z (fun K hK => ?_) AllReadyH.nil)
    case hoa4z => ((simp only [List.getElem?_toArray, List.getElem?_cons_succ, List.getElem?_cons_zero]); try rfl)
    case hob6z => ((simp only [List.getElem?_toArray, List.getElem?_cons_succ, List.getElem?_cons_zero]); try rfl)
    rotate_left
    ·go_simp
     refine hop.out.mono ?_
     rintro e w3 ⟨bc, rfl, hc3, hb3⟩
     have b3 := cell_keep hb3 bd0
     have c3 := cell_keep hb3 cd1
     have ba := cell_alloc1 (.cells #[.pointer (some ⟨bc, 0, none⟩)] 119) b3
     have ca := cell_alloc1 (.cells #[.pointer (some ⟨bc, 0, none⟩)] 119) c3
     have hb3r : Below wr.heap.size wr w3 := (Below.refl wr.heap.size wr).drew.trans hb3
     have hbA : Below w3.heap.size w3 (w3.alloc (.cells #[.pointer (some ⟨bc, 0, none⟩)] 119)) := (Below.refl _ _).alloc (Nat.le_refl _) _
     go_wp2_with fail
     refine hK.out _ _ b3 (fun hHeld2 => ?_)
     (try simp only [Act.put, List.setIfInBounds_toArray, List.set_cons_zero, List.set_cons_succ])
     refine wpAnyH_ready (rs := [4, 7]) (by kernel_rfl) (by simp) ?_
     refine AllReadyH.cons (o := ?oa4z) ?hoa4z (fun K hK => ?_) (AllReadyH.cons (o := ?ob7z) ?hob7z (fun K hK => ?_) AllReadyH.nil)
     case hoa4z => ((simp only [List.getElem?_toArray, List.getElem?_cons_succ, List.getElem?_cons_zero]); try rfl)
     case hob7z => ((simp only [List.getElem?_toArray, List.getElem?_cons_succ, List.getElem?_cons_zero]); try rfl)
     rotate_left
     ·go_simp
      refine hK.out _ _ ba (fun hHeld2 => ?_)
      (try simp only [Act.put, List.setIfInBounds_toArray, List.set_cons_zero, List.set_cons_succ])
      (refine wpAnyH_ready (rs := [4]) (by kernel_rfl) (by simp) ?_; refine AllReadyH.cons (o := ?oc4_48) ?ho4_48 (fun K hK => ?_) AllReadyH.nil; (case ho4_48 => ((simp only [List.getElem?_toArray, List.getElem?_cons_succ, List.getElem?_cons_zero]); rfl)); go_simp)
      refine hK.out _ _ ba (fun hHeld2 => ?_)
      (try simp only [Act.put, List.setIfInBounds_toArray, List.set_cons_zero, List.set_cons_succ])
      (refine wpAnyH_ready (rs := [8]) (by kernel_rfl) (by simp) ?_; refine AllReadyH.cons (o := ?oc8_49) ?ho8_49 (fun K hK => ?_) AllReadyH.nil; (case ho8_49 => ((simp only [List.getElem?_toArray, List.getElem?_cons_succ, List.getElem?_cons_zero]); rfl)))
      refine step_apd rfl (.tmp 38) (.tmp 41) 115 rfl Ecurs 0 CA i cc (Ptrs bcs) (by simp [Act.eval, Act.put]) (Own.below (Own.below H3.out.curs hb3r) hbA) (some ⟨w3.heap.size, 0, none⟩) 1 1 [.pointer (some ⟨bc, 0, none⟩)] (by simp [Act.eval, Act.put]) rfl (Rd.of_blk (Blk.new w3 119 #[.pointer (some ⟨bc, 0, none⟩)])) (by simp [Value.oneCell']) (i + 1) rfl (Ptrs bcs ++ [.pointer (some ⟨bc, 0, none⟩)]) rfl (by omega) (by omega) (Nat.zero_le _) ?_
      intro A4 c4 w4 ho4 hg4 hat4
      have hk4 := Own.apd_keeps (Own.below (Own.below H3.out.curs hb3r) hbA) hg4
      have b4 := (((H3.out.box.below hb3r).below hbA).keeps (by decide) hk4).cell 0
      have c4' := (((H3.out.blk.below hb3r).below hbA).keeps (by decide) hk4).cell 1
      have f4 := (((H3.out.blk.below hb3r).below hbA).keeps (by decide) hk4).frozen 1
      simp only [List.getElem?_cons_zero, List.getElem?_cons_succ] at b4 c4'
      have b5 : (w4.setCell ⟨bh, 1, none⟩ (.slice A4 (i + 1) c4)).cell? ⟨b7, 0, none⟩ = some (.pointer (some ⟨bh, 0, none⟩)) := (World.cell?_setCell_other _ _ _ _ (fun e => hb7h (congrArg Addr.block e))).trans b4
      refine hK.out _ _ b4 (fun hHeld4 => ?_)
      (try simp only [Act.put, List.setIfInBounds_toArray, List.set_cons_zero, List.set_cons_succ])
      (refine wpAnyH_take (i := 9) (oi := ?oi9_50) (v := ?vv9_50) ?hi9_50 (by kernel_rfl) (by kernel_rfl) (by kernel_rfl) ?hQ9_50 ?hy9_50 (by assumption) ?rest9_50; (case hi9_50 => ((simp only [List.getElem?_toArray, List.getElem?_cons_succ, List.getElem?_cons_zero]); rfl)); (case hQ9_50 => exact (fun _ _ _ h => h)); (case hy9_50 => (refine Or.inl ⟨by rfl, ?_⟩; intro w hSw; (try dsimp only at hSw); go_simp; try (with_reducible rfl))); (try simp only [Act.put, List.setIfInBounds_toArray, List.set_cons_zero, List.set_cons_succ]))
      (refine wpAnyH_take (i := 10) (oi := ?oi10_51) (v := ?vv10_51) ?hi10_51 (by kernel_rfl) (by kernel_rfl) (by kernel_rfl) ?hQ10_51 ?hy10_51 (by assumption) ?rest10_51; (case hi10_51 => ((simp only [List.getElem?_toArray, List.getElem?_cons_succ, List.getElem?_cons_zero]); rfl)); (case hQ10_51 => exact (fun _ _ _ h => h)); (case hy10_51 => (refine Or.inl ⟨by rfl, ?_⟩; intro w hSw; (try dsimp only at hSw); go_simp; try (with_reducible rfl))); (try simp only [Act.put, List.setIfInBounds_toArray, List.set_cons_zero, List.set_cons_succ]))
      (refine wpAnyH_ready (rs := [11]) (by kernel_rfl) (by simp) ?_; refine AllReadyH.cons (o := ?oc11_52) ?ho11_52 (fun K hK => ?_) AllReadyH.nil; (case ho11_52 => ((simp only [List.getElem?_toArray, List.getElem?_cons_succ, List.getElem?_cons_zero]); rfl)); go_simp)
      refine hK.out _ _ b5 (fun hHeld5 => ?_)
      (try simp only [Act.put, List.setIfInBounds_toArray, List.set_cons_zero, List.set_cons_succ])
      refine wpAnyH_done (by kernel_rfl) ?_ _
      have hM5 := Fam.push Hf1.out hbl Hs1.out H3.out hb3r (hc3.wide HlF.out) hbA ho4 hg4 hat4
      generalize w4.setCell ⟨bh, 1, none⟩ (.slice A4 (i + 1) c4) = w5 at *
      have hbl2 : (bcs ++ [bc]).length = i + 1 := by rw [List.length_append, List.length_singleton, hbl]
      have hmem : ∀ r ∈ rest i, Pg.Fine r ∧ (∀ v ∈ r, v.ok) ∧ rowC r ≤ g ∧ r.length ≤ 1000000 := fun r hr => by
       rw [hri] at hr
       obtain ⟨c, hc, hrc⟩ := sorted_mem hr
       exact (Hrows.out c hc).2 r hrc
      have hnx := Lib.hid (hnext_c w0 B col0 P0 (TP [] s) TT bs bp most b7 bh rb n s F (bcs ++ [bc]) left1 least1 rest H i w5 hM5 (by omega) hlt (by omega) (by omega) (by have := Hsum.out; omega) (by omega) (fun r hr => by have := hmem r hr; exact ⟨this.1, by omega, this.2.2.2⟩) (by rw [hri]; exact sorted_len (fun c hc => (Hrows.out c hc).1) i) HF.out)
      have Hmem := Lib.hid hmem
      clear hM5 hmem hc3 hb3r hbA ho4 hg4 hat4 hk4 b4 c4' f4 ba ca b3 c3 Hf1 Hs1 H3 HM b0 c1 bd0 cd1 hHeld hHeld2 hHeld4
      refine NoPanic.normal ?_
      clear hK hHeld5
      go_wp2_with fail
      refine hnx.out.mono ?_
      rintro e w6 hx
      have hHi := Hnone.out i (Nat.le_refl _)
      have hset := heldN_set H i
      rcases hx with ⟨hr0, rfl, hm6⟩ | ⟨r, t, hrt, hlr, rfl, hm6⟩ | ⟨r, t, hrt, hlr, rfl, hm6⟩
      ·rw [setF_same H i none hHi] at hm6
       have HM6 := Lib.hid hm6
       have Hr0 := Lib.hid hr0
       clear hm6 hnx hr0 hset hHi hri
       go_wp2_with fail
       go_roundw
       case rel => exact ⟨i + 1, bcs ++ [bc], left1, least1, rest, H, by omega, by go_num, hbl2, HM6, Hrest, fun p hp => Hnone.out p (by omega), fun p hp hh => (by
        by_cases e : p = i
        ·rw [e]; exact Hr0.out
        ·exact Hends.out p (by omega) hh), Hsum, hle1⟩
       case measure => simp only [intOf, Int.toNat_natCast]; omega
      ·rw [setF_same H i none hHi] at hm6
       have hbud : left < n * g := by
        have h1 := hset (some r) n hlt
        rw [hHi] at h1
        change _ + 0 = _ + rowC r at h1
        have h2 := heldN_le (H := setF H i (some r)) (g := g) n fun p _ x hx => by
         by_cases e : p = i
         ·rw [e, setF_at] at hx
          injection hx with hx
          subst hx
          exact (Hmem.out r (by rw [hrt]; simp)).2.2.1
         ·rw [setF_ne _ _ e] at hx
          have h3 := Hrest.out p
          rw [hx] at h3
          obtain ⟨c, hc, hxc⟩ := sorted_mem (ks := ks) (Cs := Cs) (p := p) (r := x) (by rw [← h3]; simp)
          exact ((Hrows.out c hc).2 x hxc).2.2.1
        have h3 := Hsum.out
        omega
       have Hbud := Lib.hid hbud
       have hbk := hback_c w0 B col0 P0 (TP [] s) TT bs bp most b7 bh rb n s F (bcs ++ [bc]) left1 least1 (setF rest i t) H .returning w6 hm6 (by omega) (by have := Hsum.out; omega) hm
       rw [Hsum.out] at hbk
       have Hbk := Lib.hid hbk
       clear hm6 hnx hrt hset hHi hri hbud hbk
       go_wp2_with fail
       try simp only [Exit.inBlock, Exit.then]
       refine leaves_cons (f := 78) (args := #[.pointer (some ⟨b7, 0, none⟩)]) (by simp) (by simp [go_sem]) ?_
       refine Hbk.out.mono ?_
       rintro e u' w7 ⟨rfl, rfl, hm7⟩
       obtain ⟨col7, hf7, hs7⟩ := mdone hm7
       exact ⟨_, results_tmp rfl _ _ _, s, col7, least1, _, hf7, hs7, fun _ _ => rfl, hle1, .inr (.inl ⟨rfl, Hbud.out, [], rfl⟩)⟩
      ·have HM6 := Lib.hid hm6
       have hsum2 : left1 - rowC r + heldN (setF H i (some r)) n = left := by
        have h1 := hset (some r) n hlt
        rw [hHi] at h1
        change _ + 0 = _ + rowC r at h1
        have := Hsum.out
        omega
       have Hsum2 := Lib.hid hsum2
       have hrest2 : ∀ p, (setF H i (some r) p).toList ++ setF rest i t p = sortR ks (Cs.getD p []) := fun p => by
        by_cases e : p = i
        ·subst e
         rw [setF_at, setF_at, ← hri, hrt]
         rfl
        ·rw [setF_ne _ _ e, setF_ne _ _ e]
         exact Hrest.out p
       have Hrest2 := Lib.hid hrest2
       clear hm6 hnx hrt hset hHi hri hsum2 hrest2 hlr
       go_wp2_with fail
       go_roundw
       case rel => exact ⟨i + 1, bcs ++ [bc], left1 - rowC r, min least1 (left1 - rowC r), setF rest i t, setF H i (some r), by omega, by go_num, hbl2, HM6, Hrest2, fun p hp => (by show setF H i (some r) p = none; rw [setF_ne _ _ (show p ≠ i by omega)]; exact Hnone.out p (by omega)), fun p hp hh => (by
        by_cases e : p = i
        ·rw [e, setF_at] at hh; cases hh
        ·rw [setF_ne _ _ e] at hh ⊢
         exact Hends.out p (by omega) hh), Hsum2, by omega⟩
       case measure => simp only [intOf, Int.toNat_natCast]; omega
     ·go_simp
      refine hK.out _ _ b3 (fun hHeld2 => ?_)
      (try simp only [Act.put, List.setIfInBounds_toArray, List.set_cons_zero, List.set_cons_succ])
      (refine wpAnyH_ready (rs := [7]) (by kernel_rfl) (by simp) ?_; refine AllReadyH.cons (o := ?oc7_53) ?ho7_53 (fun K hK => ?_) AllReadyH.nil; (case ho7_53 => ((simp only [List.getElem?_toArray, List.getElem?_cons_succ, List.getElem?_cons_zero]); rfl)); go_simp)
      refine hK.out _ _ ba (fun hHeld2 => ?_)
      (try simp only [Act.put, List.setIfInBounds_toArray, List.set_cons_zero, List.set_cons_succ])
      (refine wpAnyH_ready (rs := [8]) (by kernel_rfl) (by simp) ?_; refine AllReadyH.cons (o := ?oc8_54) ?ho8_54 (fun K hK => ?_) AllReadyH.nil; (case ho8_54 => ((simp only [List.getElem?_toArray, List.getElem?_cons_succ, List.getElem?_cons_zero]); rfl)))
      refine step_apd rfl (.tmp 38) (.tmp 41) 115 rfl Ecurs 0 CA i cc (Ptrs bcs) (by simp [Act.eval, Act.put]) (Own.below (Own.below H3.out.curs hb3r) hbA) (some ⟨w3.heap.size, 0, none⟩) 1 1 [.pointer (some ⟨bc, 0, none⟩)] (by simp [Act.eval, Act.put]) rfl (Rd.of_blk (Blk.new w3 119 #[.pointer (some ⟨bc, 0, none⟩)])) (by simp [Value.oneCell']) (i + 1) rfl (Ptrs bcs ++ [.pointer (some ⟨bc, 0, none⟩)]) rfl (by omega) (by omega) (Nat.zero_le _) ?_
      intro A4 c4 w4 ho4 hg4 hat4
      have hk4 := Own.apd_keeps (Own.below (Own.below H3.out.curs hb3r) hbA) hg4
      have b4 := (((H3.out.box.below hb3r).below hbA).keeps (by decide) hk4).cell 0
      have c4' := (((H3.out.blk.below hb3r).below hbA).keeps (by decide) hk4).cell 1
      have f4 := (((H3.out.blk.below hb3r).below hbA).keeps (by decide) hk4).frozen 1
      simp only [List.getElem?_cons_zero, List.getElem?_cons_succ] at b4 c4'
      have b5 : (w4.setCell ⟨bh, 1, none⟩ (.slice A4 (i + 1) c4)).cell? ⟨b7, 0, none⟩ = some (.pointer (some ⟨bh, 0, none⟩)) := (World.cell?_setCell_other _ _ _ _ (fun e => hb7h (congrArg Addr.block e))).trans b4
      refine hK.out _ _ b4 (fun hHeld4 => ?_)
      (try simp only [Act.put, List.setIfInBounds_toArray, List.set_cons_zero, List.set_cons_succ])
      (refine wpAnyH_take (i := 9) (oi := ?oi9_55) (v := ?vv9_55) ?hi9_55 (by kernel_rfl) (by kernel_rfl) (by kernel_rfl) ?hQ9_55 ?hy9_55 (by assumption) ?rest9_55; (case hi9_55 => ((simp only [List.getElem?_toArray, List.getElem?_cons_succ, List.getElem?_cons_zero]); rfl)); (case hQ9_55 => exact (fun _ _ _ h => h)); (case hy9_55 => (refine Or.inl ⟨by rfl, ?_⟩; intro w hSw; (try dsimp only at hSw); go_simp; try (with_reducible rfl))); (try simp only [Act.put, List.setIfInBounds_toArray, List.set_cons_zero, List.set_cons_succ]))
      (refine wpAnyH_take (i := 10) (oi := ?oi10_56) (v := ?vv10_56) ?hi10_56 (by kernel_rfl) (by kernel_rfl) (by kernel_rfl) ?hQ10_56 ?hy10_56 (by assumption) ?rest10_56; (case hi10_56 => ((simp only [List.getElem?_toArray, List.getElem?_cons_succ, List.getElem?_cons_zero]); rfl)); (case hQ10_56 => exact (fun _ _ _ h => h)); (case hy10_56 => (refine Or.inl ⟨by rfl, ?_⟩; intro w hSw; (try dsimp only at hSw); go_simp; try (with_reducible rfl))); (try simp only [Act.put, List.setIfInBounds_toArray, List.set_cons_zero, List.set_cons_succ]))
      (refine wpAnyH_ready (rs := [11]) (by kernel_rfl) (by simp) ?_; refine AllReadyH.cons (o := ?oc11_57) ?ho11_57 (fun K hK => ?_) AllReadyH.nil; (case ho11_57 => ((simp only [List.getElem?_toArray, List.getElem?_cons_succ, List.getElem?_cons_zero]); rfl)); go_simp)
      refine hK.out _ _ b5 (fun hHeld5 => ?_)
      (try simp only [Act.put, List.setIfInBounds_toArray, List.set_cons_zero, List.set_cons_succ])
      refine wpAnyH_done (by kernel_rfl) ?_ _
      have hM5 := Fam.push Hf1.out hbl Hs1.out H3.out hb3r (hc3.wide HlF.out) hbA ho4 hg4 hat4
      generalize w4.setCell ⟨bh, 1, none⟩ (.slice A4 (i + 1) c4) = w5 at *
      have hbl2 : (bcs ++ [bc]).length = i + 1 := by rw [List.length_append, List.length_singleton, hbl]
      have hmem : ∀ r ∈ rest i, Pg.Fine r ∧ (∀ v ∈ r, v.ok) ∧ rowC r ≤ g ∧ r.length ≤ 1000000 := fun r hr => by
       rw [hri] at hr
       obtain ⟨c, hc, hrc⟩ := sorted_mem hr
       exact (Hrows.out c hc).2 r hrc
      have hnx := Lib.hid (hnext_c w0 B col0 P0 (TP [] s) TT bs bp most b7 bh rb n s F (bcs ++ [bc]) left1 least1 rest H i w5 hM5 (by omega) hlt (by omega) (by omega) (by have := Hsum.out; omega) (by omega) (fun r hr => by have := hmem r hr; exact ⟨this.1, by omega, this.2.2.2⟩) (by rw [hri]; exact sorted_len (fun c hc => (Hrows.out c hc).1) i) HF.out)
      have Hmem := Lib.hid hmem
      clear hM5 hmem hc3 hb3r hbA ho4 hg4 hat4 hk4 b4 c4' f4 ba ca b3 c3 Hf1 Hs1 H3 HM b0 c1 bd0 cd1 hHeld hHeld2 hHeld4
      refine NoPanic.normal ?_
      clear hK hHeld5
      go_wp2_with fail
      refine hnx.out.mono ?_
      rintro e w6 hx
      have hHi := Hnone.out i (Nat.le_refl _)
      have hset := heldN_set H i
      rcases hx with ⟨hr0, rfl, hm6⟩ | ⟨r, t, hrt, hlr, rfl, hm6⟩ | ⟨r, t, hrt, hlr, rfl, hm6⟩
      ·rw [setF_same H i none hHi] at hm6
       have HM6 := Lib.hid hm6
       have Hr0 := Lib.hid hr0
       clear hm6 hnx hr0 hset hHi hri
       go_wp2_with fail
       go_roundw
       case rel => exact ⟨i + 1, bcs ++ [bc], left1, least1, rest, H, by omega, by go_num, hbl2, HM6, Hrest, fun p hp => Hnone.out p (by omega), fun p hp hh => (by
        by_cases e : p = i
        ·rw [e]; exact Hr0.out
        ·exact Hends.out p (by omega) hh), Hsum, hle1⟩
       case measure => simp only [intOf, Int.toNat_natCast]; omega
      ·rw [setF_same H i none hHi] at hm6
       have hbud : left < n * g := by
        have h1 := hset (some r) n hlt
        rw [hHi] at h1
        change _ + 0 = _ + rowC r at h1
        have h2 := heldN_le (H := setF H i (some r)) (g := g) n fun p _ x hx => by
         by_cases e : p = i
         ·rw [e, setF_at] at hx
          injection hx with hx
          subst hx
          exact (Hmem.out r (by rw [hrt]; simp)).2.2.1
         ·rw [setF_ne _ _ e] at hx
          have h3 := Hrest.out p
          rw [hx] at h3
          obtain ⟨c, hc, hxc⟩ := sorted_mem (ks := ks) (Cs := Cs) (p := p) (r := x) (by rw [← h3]; simp)
          exact ((Hrows.out c hc).2 x hxc).2.2.1
        have h3 := Hsum.out
        omega
       have Hbud := Lib.hid hbud
       have hbk := hback_c w0 B col0 P0 (TP [] s) TT bs bp most b7 bh rb n s F (bcs ++ [bc]) left1 least1 (setF rest i t) H .returning w6 hm6 (by omega) (by have := Hsum.out; omega) hm
       rw [Hsum.out] at hbk
       have Hbk := Lib.hid hbk
       clear hm6 hnx hrt hset hHi hri hbud hbk
       go_wp2_with fail
       try simp only [Exit.inBlock, Exit.then]
       refine leaves_cons (f := 78) (args := #[.pointer (some ⟨b7, 0, none⟩)]) (by simp) (by simp [go_sem]) ?_
       refine Hbk.out.mono ?_
       rintro e u' w7 ⟨rfl, rfl, hm7⟩
       obtain ⟨col7, hf7, hs7⟩ := mdone hm7
       exact ⟨_, results_tmp rfl _ _ _, s, col7, least1, _, hf7, hs7, fun _ _ => rfl, hle1, .inr (.inl ⟨rfl, Hbud.out, [], rfl⟩)⟩
      ·have HM6 := Lib.hid hm6
       have hsum2 : left1 - rowC r + heldN (setF H i (some r)) n = left := by
        have h1 := hset (some r) n hlt
        rw [hHi] at h1
        change _ + 0 = _ + rowC r at h1
        have := Hsum.out
        omega
       have Hsum2 := Lib.hid hsum2
       have hrest2 : ∀ p, (setF H i (some r) p).toList ++ setF rest i t p = sortR ks (Cs.getD p []) := fun p => by
        by_cases e : p = i
        ·subst e
         rw [setF_at, setF_at, ← hri, hrt]
         rfl
        ·rw [setF_ne _ _ e, setF_ne _ _ e]
         exact Hrest.out p
       have Hrest2 := Lib.hid hrest2
       clear hm6 hnx hrt hset hHi hri hsum2 hrest2 hlr
       go_wp2_with fail
       go_roundw
       case rel => exact ⟨i + 1, bcs ++ [bc], left1 - rowC r, min least1 (left1 - rowC r), setF rest i t, setF H i (some r), by omega, by go_num, hbl2, HM6, Hrest2, fun p hp => (by show setF H i (some r) p = none; rw [setF_ne _ _ (show p ≠ i by omega)]; exact Hnone.out p (by omega)), fun p hp hh => (by
        by_cases e : p = i
        ·rw [e, setF_at] at hh; cases hh
        ·rw [setF_ne _ _ e] at hh ⊢
         exact Hends.out p (by omega) hh), Hsum2, by omega⟩
       case measure => simp only [intOf, Int.toNat_natCast]; omega
    ·go_simp
     refine hK.out _ _ hHeld (fun hHeld2 => ?_)
     (try simp only [Act.put, List.setIfInBounds_toArray, List.set_cons_zero, List.set_cons_succ])
     (refine wpAnyH_ready (rs := [6]) (by kernel_rfl) (by simp) ?_; refine AllReadyH.cons (o := ?oc6_58) ?ho6_58 (fun K hK => ?_) AllReadyH.nil; (case ho6_58 => ((simp only [List.getElem?_toArray, List.getElem?_cons_succ, List.getElem?_cons_zero]); rfl)); go_simp)
     refine hop.out.mono ?_
     rintro e w3 ⟨bc, rfl, hc3, hb3⟩
     have b3 := cell_keep hb3 bd0
     have c3 := cell_keep hb3 cd1
     have ba := cell_alloc1 (.cells #[.pointer (some ⟨bc, 0, none⟩)] 119) b3
     have ca := cell_alloc1 (.cells #[.pointer (some ⟨bc, 0, none⟩)] 119) c3
     have hb3r : Below wr.heap.size wr w3 := (Below.refl wr.heap.size wr).drew.trans hb3
     have hbA : Below w3.heap.size w3 (w3.alloc (.cells #[.pointer (some ⟨bc, 0, none⟩)] 119)) := (Below.refl _ _).alloc (Nat.le_refl _) _
     go_wp2_with fail
     refine hK.out _ _ b3 (fun hHeld2 => ?_)
     (try simp only [Act.put, List.setIfInBounds_toArray, List.set_cons_zero, List.set_cons_succ])
     (refine wpAnyH_ready (rs := [7]) (by kernel_rfl) (by simp) ?_; refine AllReadyH.cons (o := ?oc7_59) ?ho7_59 (fun K hK => ?_) AllReadyH.nil; (case ho7_59 => ((simp only [List.getElem?_toArray, List.getElem?_cons_succ, List.getElem?_cons_zero]); rfl)); go_simp)
     refine hK.out _ _ ba (fun hHeld2 => ?_)
     (try simp only [Act.put, List.setIfInBounds_toArray, List.set_cons_zero, List.set_cons_succ])
     (refine wpAnyH_ready (rs := [8]) (by kernel_rfl) (by simp) ?_; refine AllReadyH.cons (o := ?oc8_60) ?ho8_60 (fun K hK => ?_) AllReadyH.nil; (case ho8_60 => ((simp only [List.getElem?_toArray, List.getElem?_cons_succ, List.getElem?_cons_zero]); rfl)))
     refine step_apd rfl (.tmp 38) (.tmp 41) 115 rfl Ecurs 0 CA i cc (Ptrs bcs) (by simp [Act.eval, Act.put]) (Own.below (Own.below H3.out.curs hb3r) hbA) (some ⟨w3.heap.size, 0, none⟩) 1 1 [.pointer (some ⟨bc, 0, none⟩)] (by simp [Act.eval, Act.put]) rfl (Rd.of_blk (Blk.new w3 119 #[.pointer (some ⟨bc, 0, none⟩)])) (by simp [Value.oneCell']) (i + 1) rfl (Ptrs bcs ++ [.pointer (some ⟨bc, 0, none⟩)]) rfl (by omega) (by omega) (Nat.zero_le _) ?_
     intro A4 c4 w4 ho4 hg4 hat4
     have hk4 := Own.apd_keeps (Own.below (Own.below H3.out.curs hb3r) hbA) hg4
     have b4 := (((H3.out.box.below hb3r).below hbA).keeps (by decide) hk4).cell 0
     have c4' := (((H3.out.blk.below hb3r).below hbA).keeps (by decide) hk4).cell 1
     have f4 := (((H3.out.blk.below hb3r).below hbA).keeps (by decide) hk4).frozen 1
     simp only [List.getElem?_cons_zero, List.getElem?_cons_succ] at b4 c4'
     have b5 : (w4.setCell ⟨bh, 1, none⟩ (.slice A4 (i + 1) c4)).cell? ⟨b7, 0, none⟩ = some (.pointer (some ⟨bh, 0, none⟩)) := (World.cell?_setCell_other _ _ _ _ (fun e => hb7h (congrArg Addr.block e))).trans b4
     refine hK.out _ _ b4 (fun hHeld4 => ?_)
     (try simp only [Act.put, List.setIfInBounds_toArray, List.set_cons_zero, List.set_cons_succ])
     (refine wpAnyH_take (i := 9) (oi := ?oi9_61) (v := ?vv9_61) ?hi9_61 (by kernel_rfl) (by kernel_rfl) (by kernel_rfl) ?hQ9_61 ?hy9_61 (by assumption) ?rest9_61; (case hi9_61 => ((simp only [List.getElem?_toArray, List.getElem?_cons_succ, List.getElem?_cons_zero]); rfl)); (case hQ9_61 => exact (fun _ _ _ h => h)); (case hy9_61 => (refine Or.inl ⟨by rfl, ?_⟩; intro w hSw; (try dsimp only at hSw); go_simp; try (with_reducible rfl))); (try simp only [Act.put, List.setIfInBounds_toArray, List.set_cons_zero, List.set_cons_succ]))
     (refine wpAnyH_take (i := 10) (oi := ?oi10_62) (v := ?vv10_62) ?hi10_62 (by kernel_rfl) (by kernel_rfl) (by kernel_rfl) ?hQ10_62 ?hy10_62 (by assumption) ?rest10_62; (case hi10_62 => ((simp only [List.getElem?_toArray, List.getElem?_cons_succ, List.getElem?_cons_zero]); rfl)); (case hQ10_62 => exact (fun _ _ _ h => h)); (case hy10_62 => (refine Or.inl ⟨by rfl, ?_⟩; intro w hSw; (try dsimp only at hSw); go_simp; try (with_reducible rfl))); (try simp only [Act.put, List.setIfInBounds_toArray, List.set_cons_zero, List.set_cons_succ]))
     (refine wpAnyH_ready (rs := [11]) (by kernel_rfl) (by simp) ?_; refine AllReadyH.cons (o := ?oc11_63) ?ho11_63 (fun K hK => ?_) AllReadyH.nil; (case ho11_63 => ((simp only [List.getElem?_toArray, List.getElem?_cons_succ, List.getElem?_cons_zero]); rfl)); go_simp)
     refine hK.out _ _ b5 (fun hHeld5 => ?_)
     (try simp only [Act.put, List.setIfInBounds_toArray, List.set_cons_zero, List.set_cons_succ])
     refine wpAnyH_done (by kernel_rfl) ?_ _
     have hM5 := Fam.push Hf1.out hbl Hs1.out H3.out hb3r (hc3.wide HlF.out) hbA ho4 hg4 hat4
     generalize w4.setCell ⟨bh, 1, none⟩ (.slice A4 (i + 1) c4) = w5 at *
     have hbl2 : (bcs ++ [bc]).length = i + 1 := by rw [List.length_append, List.length_singleton, hbl]
     have hmem : ∀ r ∈ rest i, Pg.Fine r ∧ (∀ v ∈ r, v.ok) ∧ rowC r ≤ g ∧ r.length ≤ 1000000 := fun r hr => by
      rw [hri] at hr
      obtain ⟨c, hc, hrc⟩ := sorted_mem hr
      exact (Hrows.out c hc).2 r hrc
     have hnx := Lib.hid (hnext_c w0 B col0 P0 (TP [] s) TT bs bp most b7 bh rb n s F (bcs ++ [bc]) left1 least1 rest H i w5 hM5 (by omega) hlt (by omega) (by omega) (by have := Hsum.out; omega) (by omega) (fun r hr => by have := hmem r hr; exact ⟨this.1, by omega, this.2.2.2⟩) (by rw [hri]; exact sorted_len (fun c hc => (Hrows.out c hc).1) i) HF.out)
     have Hmem := Lib.hid hmem
     clear hM5 hmem hc3 hb3r hbA ho4 hg4 hat4 hk4 b4 c4' f4 ba ca b3 c3 Hf1 Hs1 H3 HM b0 c1 bd0 cd1 hHeld hHeld2 hHeld4
     refine NoPanic.normal ?_
     clear hK hHeld5
     go_wp2_with fail
     refine hnx.out.mono ?_
     rintro e w6 hx
     have hHi := Hnone.out i (Nat.le_refl _)
     have hset := heldN_set H i
     rcases hx with ⟨hr0, rfl, hm6⟩ | ⟨r, t, hrt, hlr, rfl, hm6⟩ | ⟨r, t, hrt, hlr, rfl, hm6⟩
     ·rw [setF_same H i none hHi] at hm6
      have HM6 := Lib.hid hm6
      have Hr0 := Lib.hid hr0
      clear hm6 hnx hr0 hset hHi hri
      go_wp2_with fail
      go_roundw
      case rel => exact ⟨i + 1, bcs ++ [bc], left1, least1, rest, H, by omega, by go_num, hbl2, HM6, Hrest, fun p hp => Hnone.out p (by omega), fun p hp hh => (by
       by_cases e : p = i
       ·rw [e]; exact Hr0.out
       ·exact Hends.out p (by omega) hh), Hsum, hle1⟩
      case measure => simp only [intOf, Int.toNat_natCast]; omega
     ·rw [setF_same H i none hHi] at hm6
      have hbud : left < n * g := by
       have h1 := hset (some r) n hlt
       rw [hHi] at h1
       change _ + 0 = _ + rowC r at h1
       have h2 := heldN_le (H := setF H i (some r)) (g := g) n fun p _ x hx => by
        by_cases e : p = i
        ·rw [e, setF_at] at hx
         injection hx with hx
         subst hx
         exact (Hmem.out r (by rw [hrt]; simp)).2.2.1
        ·rw [setF_ne _ _ e] at hx
         have h3 := Hrest.out p
         rw [hx] at h3
         obtain ⟨c, hc, hxc⟩ := sorted_mem (ks := ks) (Cs := Cs) (p := p) (r := x) (by rw [← h3]; simp)
         exact ((Hrows.out c hc).2 x hxc).2.2.1
       have h3 := Hsum.out
       omega
      have Hbud := Lib.hid hbud
      have hbk := hback_c w0 B col0 P0 (TP [] s) TT bs bp most b7 bh rb n s F (bcs ++ [bc]) left1 least1 (setF rest i t) H .returning w6 hm6 (by omega) (by have := Hsum.out; omega) hm
      rw [Hsum.out] at hbk
      have Hbk := Lib.hid hbk
      clear hm6 hnx hrt hset hHi hri hbud hbk
      go_wp2_with fail
      try simp only [Exit.inBlock, Exit.then]
      refine leaves_cons (f := 78) (args := #[.pointer (some ⟨b7, 0, none⟩)]) (by simp) (by simp [go_sem]) ?_
      refine Hbk.out.mono ?_
      rintro e u' w7 ⟨rfl, rfl, hm7⟩
      obtain ⟨col7, hf7, hs7⟩ := mdone hm7
      exact ⟨_, results_tmp rfl _ _ _, s, col7, least1, _, hf7, hs7, fun _ _ => rfl, hle1, .inr (.inl ⟨rfl, Hbud.out, [], rfl⟩)⟩
     ·have HM6 := Lib.hid hm6
      have hsum2 : left1 - rowC r + heldN (setF H i (some r)) n = left := by
       have h1 := hset (some r) n hlt
       rw [hHi] at h1
       change _ + 0 = _ + rowC r at h1
       have := Hsum.out
       omega
      have Hsum2 := Lib.hid hsum2
      have hrest2 : ∀ p, (setF H i (some r) p).toList ++ setF rest i t p = sortR ks (Cs.getD p []) := fun p => by
       by_cases e : p = i
       ·subst e
        rw [setF_at, setF_at, ← hri, hrt]
        rfl
       ·rw [setF_ne _ _ e, setF_ne _ _ e]
        exact Hrest.out p
      have Hrest2 := Lib.hid hrest2
      clear hm6 hnx hrt hset hHi hri hsum2 hrest2 hlr
      go_wp2_with fail
      go_roundw
      case rel => exact ⟨i + 1, bcs ++ [bc], left1 - rowC r, min least1 (left1 - rowC r), setF rest i t, setF H i (some r), by omega, by go_num, hbl2, HM6, Hrest2, fun p hp => (by show setF H i (some r) p = none; rw [setF_ne _ _ (show p ≠ i by omega)]; exact Hnone.out p (by omega)), fun p hp hh => (by
       by_cases e : p = i
       ·rw [e, setF_at] at hh; cases hh
       ·rw [setF_ne _ _ e] at hh ⊢
        exact Hends.out p (by omega) hh), Hsum2, by omega⟩
      case measure => simp only [intOf, Int.toNat_natCast]; omega
   ·obtain rfl : i = n := by omega
    have hnn : ∀ p, i ≤ p → H p = none := Hnone.out
    obtain ⟨V, vn, vc, hrd, hHR, b0, c2, _, _⟩ := MgS.rows HM.out hnn
    obtain ⟨s2, hkr⟩ := msorter HM.out Hin.out
    have hbd : Below wr.heap.size wr wr.drew := (Below.refl _ _).drew
    have hnew := Lib.hid (mtnew_c i V vn vc KA kn kc (HM.out.below hbd) (hrd.below hbd) (hHR.below hbd) hn16 hk (hkr.below hbd) hkn)
    have Hnn := Lib.hid hnn
    have bd0 : wr.drew.cell? ⟨b7, 0, none⟩ = some (.pointer (some ⟨bh, 0, none⟩)) := b0
    have cd2 : wr.drew.cell? ⟨bh, 2, none⟩ = some (.slice (some ⟨rb, 0, none⟩) i i) := c2
    have sd2 : wr.drew.cell? ⟨bS, 2, none⟩ = some (.slice KA kn kc) := s2
    clear hrd hHR hkr hbd hnn
    go_wp2_with fail
    go_region_held3 (fun w' => w'.cell? ⟨b7, 0, none⟩ = some (.pointer (some ⟨bh, 0, none⟩)) ∧ w'.cell? ⟨bh, 2, none⟩ = some (.slice (some ⟨rb, 0, none⟩) i i) ∧ w'.cell? ⟨bS, 2, none⟩ = some (.slice KA kn kc))
     (first | assumption | exact ⟨b0, c2, s2⟩ | exact ⟨bd0, cd2, sd2⟩ | exact ⟨b3, c3, s3⟩)
     (first | (go_at_call 82; refine hnew.out.mono ?_; rintro e w3 ⟨bt, sz, rfl, hz1, hz2, hz3, hm3⟩; obtain ⟨_, _, _, _, _, b3, c3, _, _⟩ := MgS.rows hm3 Hnn.out; obtain ⟨s3, _⟩ := msorter hm3 Hin.out))
    all_goals
     have hmg := LsOf.start ks Cs H rest fun p hp => by
      rw [Hrest.out p, List.getD_eq_getElem?_getD, List.getElem?_eq_getElem hp]
      rfl
     have hperm := LsOf.perm ks Cs H rest Hrest.out
     rw [hC] at hmg hperm
     have hout : ∀ p, i ≤ p → H p = none ∧ rest p = [] := fun p hp => by
      have h1 := Hrest.out p
      rw [List.getD_eq_getElem?_getD, List.getElem?_eq_none (by omega), Hnn.out p hp] at h1
      exact ⟨Hnn.out p hp, h1⟩
     have hends : Ends H rest := fun p hp => by
      by_cases e : p < i
      ·exact Hends.out p e hp
      ·exact (hout p (by omega)).2
     have HI : Hid (MInv w0 B col0 P0 TP bs bp most b7 bh rb i bt sz left least ks Cs s F bcs w3 _) := ⟨s, left1, least1, [], rest, H, hm3, hmg, hperm, hout, hends, Hsum.out, hle1, fun _ _ => rfl, rfl⟩
     clear hm3 hmg hperm hout hends Hrest Hnone Hends Hsum Hnn hnew HM bd0 cd2 sd2 b0 c2 s2
     have eg := Hto.out.enters
     go_wp2_with fail
     go_loopw [13] (fun x wr => ∃ k, MInv w0 B col0 P0 TP bs bp most b7 bh rb i bt sz left least ks Cs s F bcs wr k) (fun _ wr => lst (MInv w0 B col0 P0 TP bs bp most b7 bh rb i bt sz left least ks Cs s F bcs wr))
     case atStart => exact ⟨_, HI.out⟩
     case round =>
      obtain ⟨k0, hk0⟩ := hrel
      obtain ⟨hI, -⟩ := lst_spec hk0
      obtain ⟨s1, left2, least2, out, rest2, H2, hm2, hmg, hperm, hout, hends, hsum, hle2, hF2, hk2⟩ := hI
      obtain ⟨q, S2, htw, hmW⟩ := hm2.won
      have hnx := Lib.hid (tnext_c wr htw (by omega) hz1 hz2 (by omega))
      have HmW := Lib.hid hmW
      have Hmg := Lib.hid hmg
      have Hperm := Lib.hid hperm
      have Hout := Lib.hid hout
      have Hends := Lib.hid hends
      have Hsum := Lib.hid hsum
      have HF2 := Lib.hid hF2
      have Hk2 := Lib.hid hk2
      clear hk0 hm2 htw hmW hmg hperm hout hends hsum hF2 hk2 HI
      go_wp2_with fail
      refine hnx.out.mono ?_
      rintro e w5 ⟨⟨hall, rfl⟩ | ⟨r, hq, hqn, hle, rfl⟩, rfl⟩
      ·have hfin : out = sortR ks Cs.flatten := Hmg.out.end_ (leRow_ord ks) (LsOf.none_ Hends.out hall)
       have hbk := hback_c w0 B col0 P0 (TP out s1) _ bs bp most b7 bh rb i s1 F bcs left2 least2 rest2 H2 .returning wr HmW.out (by omega) (by have := Hsum.out; omega) hm
       rw [Hsum.out, hfin] at hbk
       have Hbk := Lib.hid hbk
       clear hnx hall hfin hbk
       go_wp2_with fail
       try simp only [Exit.inBlock, Exit.then]
       refine leaves_cons (f := 78) (args := #[.pointer (some ⟨b7, 0, none⟩)]) (by simp) (by simp [go_sem]) ?_
       refine Hbk.out.mono ?_
       rintro e u' w7 ⟨rfl, rfl, hm7⟩
       obtain ⟨col7, hf7, hs7⟩ := mdone hm7
       exact ⟨_, results_tmp rfl _ _ _, s1, col7, least2, _, hf7, hs7, HF2.out, hle2, .inl ⟨rfl, rfl⟩⟩
      ·obtain ⟨V, vn, vc, _, _, b0, c2, hcells, hhd⟩ := MgS.rows HmW.out fun p hp => (Hout.out p hp).1
       have cq := hcells q hqn
       have hdq := hhd q
       rw [hq] at hdq
       rcases hdq with ⟨_, _, _, hx⟩ | ⟨a, r', hva, hvn, hrr, hrd, hok, hrl⟩
       ·cases hx
       ·injection hrr with hrr
        subst hrr
        rw [hva, hvn] at cq
        have hcl := Lib.hid (cloner_any r r.length (vc q) (some a) wr rfl hrd hrl)
        have hqI : (q : Int) < (i : Int) := by omega
        have hqI0 : (0 : Int) ≤ (q : Int) := by omega
        have Hok := Lib.hid hok
        have Hcells := Lib.hid hcells
        have Hrl := Lib.hid hrl
        have Hq := Lib.hid hq
        have Hle := Lib.hid hle
        clear hnx hcells hhd hrd hok hrl hq hle hva hvn
        go_wp2_with fail
        refine hcl.out.mono ?_
        rintro e w6 ⟨A6, c6, rfl, ho6, hb6⟩
        have hat : (LsOf i H2 rest2)[q]? = some (r :: rest2 q) := by rw [LsOf.at_ hqn, Hq.out]; rfl
        have hmr : ∀ x ∈ r :: rest2 q, Pg.Fine x ∧ (∀ v ∈ x, v.ok) ∧ rowC x ≤ g ∧ x.length ≤ 1000000 := fun x hx => by
         have h1 : x ∈ (LsOf i H2 rest2).flatten := List.mem_flatten.2 ⟨_, List.mem_of_getElem? hat, hx⟩
         have h2 := Hperm.out.mem_iff.1 (List.mem_append_right out h1)
         obtain ⟨c, hc, hxc⟩ := List.mem_flatten.1 h2
         exact (Hrows.out c hc).2 x hxc
        have hfl := flat_set hat
        have hstep := Hmg.out.step (leRow_ord ks) (LsOf.pick hqn Hq.out Hends.out Hle.out)
        have hperm2 : (out ++ r :: ((LsOf i H2 rest2).set q (rest2 q)).flatten).Perm Cs.flatten := ((List.Perm.refl out).append hfl.symm).trans Hperm.out
        have hto := Lib.hid (mto_c Hto.out out r A6 r.length c6 HmW.out hb6 rfl ho6 (hmr r (by simp)).1 Hok.out Hrl.out ⟨_, hperm2⟩)
        have hlen2 : ((LsOf i H2 rest2).set q (rest2 q)).flatten.length + 1 = (LsOf i H2 rest2).flatten.length := by rw [hfl.length_eq, List.length_cons]
        have hset := heldN_set H2 q
        have hnone1 := hset none i hqn
        rw [Hq.out] at hnone1
        change _ + rowC r = _ + 0 at hnone1
        have hroom : left2 + heldC (H2 q) ≤ most := by
         rw [Hq.out]
         show left2 + rowC r ≤ most
         have := Hsum.out
         omega
        have Hstep := Lib.hid hstep
        have Hperm2 := Lib.hid hperm2
        have Hlen2 := Lib.hid hlen2
        have Hmr := Lib.hid hmr
        have Hset := Lib.hid hset
        have Hnone1 := Lib.hid hnone1
        clear hat hmr hfl hstep hperm2 hlen2 hset hnone1 ho6 hb6 hcl b0 c2 cq HmW Hcells
        go_wp2_with fail
        refine hto.out.mono ?_
        rintro e w7 ⟨s7, hF7, ⟨rfl, hm7⟩ | ⟨rfl, hm7⟩⟩
        ·have HF7 : Hid (∀ x ∈ F, s7[x]? = s[x]?) := fun x hx => (hF7 x hx).trans (HF2.out x hx)
         obtain ⟨V7, vn7, vc7, _, _, d0, d2, _, _⟩ := MgS.rows hm7 fun p hp => (Hout.out p hp).1
         have hgv := Lib.hid (hgive_c w0 B col0 P0 _ _ bs bp most b7 bh rb i s7 F bcs left2 least2 rest2 H2 q w7 hm7 hqn (by omega) hroom hm)
         clear hm7 hto hF7
         go_wp2_with fail
         refine hgv.out.mono ?_
         rintro e w8 ⟨rfl, hm8⟩
         rw [Hq.out] at hm8
         change MgS w0 B col0 P0 _ _ bs bp most b7 bh rb i s7 F bcs (left2 + rowC r) least2 rest2 _ w8 at hm8
         obtain ⟨V8, vn8, vc8, _, _, e0, e2, _, _⟩ := MgS.rows hm8 fun p hp => (by rw [setF_ne _ _ (show p ≠ q by omega)]; exact (Hout.out p hp).1)
         have hcn : bcs.length = i := by assumption
         have hrl2 : (rest2 q).length ≤ 1000000 := by
          have h1 := Hperm.out.length_eq
          have h2 := mem_len (List.mem_of_getElem? (show (LsOf i H2 rest2)[q]? = some (r :: rest2 q) by rw [LsOf.at_ hqn, Hq.out]; rfl))
          rw [List.length_append] at h1
          rw [List.length_cons] at h2
          omega
         have hnx := Lib.hid (hnext_c w0 B col0 P0 _ _ bs bp most b7 bh rb i s7 F bcs (left2 + rowC r) least2 rest2 _ q w8 hm8 (by omega) hqn (by omega) (by omega) (by have := Hsum.out; have := Hnone1.out; omega) (by omega) (fun x hx => by have := Hmr.out x (by simp [hx]); exact ⟨this.1, by omega, this.2.2.2⟩) hrl2 HF.out)
         clear hm8 hgv d0 d2
         go_wp2_with fail
         refine hnx.out.mono ?_
         rintro e w9 hx
         rcases hx with ⟨hr0, rfl, hm9⟩ | ⟨r2, t2, hrt, hlr, rfl, hm9⟩ | ⟨r2, t2, hrt, hlr, rfl, hm9⟩
         ·rw [setF_setF] at hm9
          obtain ⟨V9, vn9, vc9, _, _, g0, g2, gc, gh⟩ := MgS.rows hm9 fun p hp => (by rw [setF_ne _ _ (show p ≠ q by omega)]; exact (Hout.out p hp).1)
          have gq := gc q hqn
          have ghq := gh q
          rw [setF_at] at ghq
          have hpt := Lib.hid (mput_c (V9 q) (vn9 q) (vc9 q) none r hm9 Hq.out ghq (by omega) hz2 (by omega))
          generalize V9 q = A9 at *
          generalize vn9 q = n9 at *
          generalize vc9 q = c9 at *
          have hls : (LsOf i H2 rest2).set q (rest2 q) = LsOf i (setF H2 q none) rest2 := LsOf.set hqn (fun p hp => setF_ne _ _ hp) (fun p hp => rfl) (by rw [setF_at]; rfl)
          have hout9 : ∀ p, i ≤ p → setF H2 q none p = none ∧ rest2 p = [] := fun p hp => by rw [setF_ne _ _ (show p ≠ q by omega)]; exact Hout.out p hp
          have hends9 : Ends (setF H2 q none) rest2 := fun p hp => by
           by_cases e : p = q
           ·rw [e]; exact hr0
           ·rw [setF_ne _ _ e] at hp; exact Hends.out p hp
          have hsum9 : left2 + rowC r + heldN (setF H2 q none) i = left := by have := Hsum.out; have := Hnone1.out; omega
          clear hm9 hnx gc gh ghq
          go_wp2_with fail
          refine hpt.out.mono ?_
          rintro e w10 ⟨rfl, hm10⟩
          have HI2 : Hid (MInv w0 B col0 P0 TP bs bp most b7 bh rb i bt sz left least ks Cs s F bcs w10 _) := ⟨s7, left2 + rowC r, least2, out ++ [r], rest2, setF H2 q none, hm10, by rw [← hls]; exact Hstep.out, by rw [← hls, List.append_assoc]; exact Hperm2.out, hout9, hends9, hsum9, by omega, HF7.out, rfl⟩
          have hlt9 : lst (MInv w0 B col0 P0 TP bs bp most b7 bh rb i bt sz left least ks Cs s F bcs w10) < lst (MInv w0 B col0 P0 TP bs bp most b7 bh rb i bt sz left least ks Cs s F bcs wr) := by
           have h1 := (lst_spec HI2.out).2
           rw [← hls] at h1
           have h2 := Hlen2.out
           have h3 := Hk2.out
           omega
          clear hm10 hpt
          go_wp2_with fail
          go_roundw
          case rel => exact ⟨_, HI2.out⟩
          case measure => exact hlt9
         ·rw [setF_setF] at hm9
          have hbud : left < i * g := by
           have h1 := Hset.out (some r2) i hqn
           rw [Hq.out] at h1
           change _ + rowC r = _ + rowC r2 at h1
           have h2 := heldN_le (H := setF H2 q (some r2)) (g := g) i fun p hp x hx => by
            by_cases e : p = q
            ·rw [e, setF_at] at hx
             injection hx with hx
             subst hx
             exact (Hmr.out r2 (by rw [hrt]; simp)).2.2.1
            ·rw [setF_ne _ _ e] at hx
             have h3 : x ∈ (LsOf i H2 rest2).flatten := List.mem_flatten.2 ⟨_, List.mem_of_getElem? (LsOf.at_ hp), by rw [hx]; simp⟩
             obtain ⟨c, hc, hxc⟩ := List.mem_flatten.1 (Hperm.out.mem_iff.1 (List.mem_append_right out h3))
             exact ((Hrows.out c hc).2 x hxc).2.2.1
           have := Hsum.out
           omega
          have Hbud := Lib.hid hbud
          have hback := hback_c w0 B col0 P0 (TP (out ++ [r]) s7) _ bs bp most b7 bh rb i s7 F bcs (left2 + rowC r) least2 (setF rest2 q t2) (setF H2 q none) .returning w9 hm9 (by omega) (by have := Hsum.out; have := Hnone1.out; omega) hm
          have hfix : left2 + rowC r + heldN (setF H2 q none) i = left := by have := Hsum.out; have := Hnone1.out; omega
          rw [hfix] at hback
          have Hbk := Lib.hid hback
          clear hm9 hnx hbud hback hfix
          go_wp2_with fail
          try simp only [Exit.inBlock, Exit.then]
          refine leaves_cons (f := 78) (args := #[.pointer (some ⟨b7, 0, none⟩)]) (by simp) (by simp [go_sem]) ?_
          refine Hbk.out.mono ?_
          rintro e u' w7' ⟨rfl, rfl, hm7'⟩
          obtain ⟨col7, hf7, hs7⟩ := mdone hm7'
          exact ⟨_, results_tmp rfl _ _ _, s7, col7, least2, _, hf7, hs7, HF7.out, hle2, .inr (.inl ⟨rfl, Hbud.out, _, rfl⟩)⟩
         ·rw [setF_setF] at hm9
          obtain ⟨V9, vn9, vc9, _, _, g0, g2, gc, gh⟩ := MgS.rows hm9 fun p hp => (by rw [setF_ne _ _ (show p ≠ q by omega)]; exact (Hout.out p hp).1)
          have gq := gc q hqn
          have ghq := gh q
          rw [setF_at] at ghq
          have hpt := Lib.hid (mput_c (V9 q) (vn9 q) (vc9 q) (some r2) r hm9 Hq.out ghq (by omega) hz2 (by omega))
          generalize V9 q = A9 at *
          generalize vn9 q = n9 at *
          generalize vc9 q = c9 at *
          have hls : (LsOf i H2 rest2).set q (rest2 q) = LsOf i (setF H2 q (some r2)) (setF rest2 q t2) := LsOf.set hqn (fun p hp => setF_ne _ _ hp) (fun p hp => setF_ne _ _ hp) (by rw [setF_at, setF_at, hrt]; rfl)
          have hout9 : ∀ p, i ≤ p → setF H2 q (some r2) p = none ∧ setF rest2 q t2 p = [] := fun p hp => by rw [setF_ne _ _ (show p ≠ q by omega), setF_ne _ _ (show p ≠ q by omega)]; exact Hout.out p hp
          have hends9 : Ends (setF H2 q (some r2)) (setF rest2 q t2) := fun p hp => by
           by_cases e : p = q
           ·rw [e, setF_at] at hp; cases hp
           ·rw [setF_ne _ _ e] at hp ⊢; exact Hends.out p hp
          have hsum9 : left2 + rowC r - rowC r2 + heldN (setF H2 q (some r2)) i = left := by
           have h1 := Hset.out (some r2) i hqn
           rw [Hq.out] at h1
           change _ + rowC r = _ + rowC r2 at h1
           have := Hsum.out
           omega
          clear hm9 hnx gc gh ghq
          go_wp2_with fail
          refine hpt.out.mono ?_
          rintro e w10 ⟨rfl, hm10⟩
          have HI2 : Hid (MInv w0 B col0 P0 TP bs bp most b7 bh rb i bt sz left least ks Cs s F bcs w10 _) := ⟨s7, left2 + rowC r - rowC r2, min least2 (left2 + rowC r - rowC r2), out ++ [r], setF rest2 q t2, setF H2 q (some r2), hm10, by rw [← hls]; exact Hstep.out, by rw [← hls, List.append_assoc]; exact Hperm2.out, hout9, hends9, hsum9, by omega, HF7.out, rfl⟩
          have hlt9 : lst (MInv w0 B col0 P0 TP bs bp most b7 bh rb i bt sz left least ks Cs s F bcs w10) < lst (MInv w0 B col0 P0 TP bs bp most b7 bh rb i bt sz left least ks Cs s F bcs wr) := by
           have h1 := (lst_spec HI2.out).2
           rw [← hls] at h1
           have h2 := Hlen2.out
           have h3 := Hk2.out
           omega
          clear hm10 hpt
          go_wp2_with fail
          go_roundw
          case rel => exact ⟨_, HI2.out⟩
          case measure => exact hlt9
        ·have HF7 : Hid (∀ x ∈ F, s7[x]? = s[x]?) := fun x hx => (hF7 x hx).trans (HF2.out x hx)
         have hbk := hback_c w0 B col0 P0 (TX s7) _ bs bp most b7 bh rb i s7 F bcs left2 least2 rest2 H2 .returning w7 hm7 (by omega) (by have := Hsum.out; omega) hm
         rw [Hsum.out] at hbk
         have Hbk := Lib.hid hbk
         clear hm7 hto hF7 hbk
         go_wp2_with fail
         try simp only [Exit.inBlock, Exit.then]
         refine leaves_cons (f := 78) (args := #[.pointer (some ⟨b7, 0, none⟩)]) (by simp) (by simp [go_sem]) ?_
         refine Hbk.out.mono ?_
         rintro e u' w7' ⟨rfl, rfl, hm7'⟩
         obtain ⟨col7, hf7, hs7⟩ := mdone hm7'
         exact ⟨_, results_tmp rfl _ _ _, s7, col7, least2, _, hf7, hs7, HF7.out, hle2, .inr (.inr ⟨rfl, rfl⟩)⟩
end Go.Proofs.YtcadjekcdokkjaaGreat
