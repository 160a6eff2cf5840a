/-
  The parts ValR, ValS, ValT, ValU, ValV: the contracts of the program's functions and the plain laws below them; each part's own remark says which.
-/
import Derived.Test.YtldkcpgnccknpaaGreatVC
import Derived.Deep.RegionWith
set_option linter.unusedVariables false
set_option linter.unusedSimpArgs false
/-
  The contracts of slices.EqualFunc at values and types, and of value.each.
-/
namespace Go.Proofs.YtldkcpgnccknpaaGreat
open Go.RowKit Go.Proofs.YtldkcpgnccknpaaGreatW.PrintWords Go.Proofs.YtldkcpgnccknpaaGreatW.PrintMore Go.Proofs.YtldkcpgnccknpaaGreatW.PrintLast
set_option linter.unusedVariables false
/-- One by one. -/
def all2 (p : Tr → Tr → Bool) : List Tr → List Tr → Bool
 | [], [] => true
 | x :: xs, t :: ts => p x t && all2 p xs ts
 | [], _ :: _ => false
 | _ :: _, [] => false
theorem all2_ne (p : Tr → Tr → Bool) : ∀ xs ts : List Tr, xs.length ≠ ts.length → all2 p xs ts = false
 | [], [], h => absurd rfl h
 | x :: xs, t :: ts, h => by rw [all2, all2_ne p xs ts (by simpa using h), Bool.and_false]
 | [], _ :: _, _ => rfl
 | _ :: _, [], _ => rfl
theorem all2_iff (p : Tr → Tr → Bool) : ∀ xs ts : List Tr, xs.length = ts.length → (all2 p xs ts = true ↔ ∀ i, i < xs.length → p (xs.getD i z0) (ts.getD i z0) = true)
 | [], [], _ => ⟨fun _ i hi => absurd hi (Nat.not_lt_zero _), fun _ => rfl⟩
 | x :: xs, t :: ts, h => by
  rw [all2, Bool.and_eq_true, all2_iff p xs ts (by simpa using h)]
  constructor
  ·rintro ⟨h1, h2⟩ i hi
   cases i with
   | zero => exact h1
   | succ i => exact h2 i (by simpa using hi)
  ·intro h2
   exact ⟨h2 0 (by simp), fun i hi => h2 (i + 1) (by simpa using hi)⟩
 | [], _ :: _, h => by simp at h
 | _ :: _, [], h => by simp at h
set_option maxRecDepth 100000 in
set_option maxHeartbeats 2000000 in
theorem equal_val (p : Tr → Tr → Bool) (ok : Nat → Prop) (v vt cap : Value) (xs ts : List Tr) (w : World) (h : LTr 28 w ok v xs) (ht : LTr 25 w ok vt ts)
  (hf : ∀ i, i < xs.length → i < ts.length → ∀ (v' t' : Value) (w' : World), Below w.heap.size w w' → ITr 28 w' ok v' (xs.getD i z0) → ITr 25 w' ok t' (ts.getD i z0) → Calls Tryz.prog 70 #[v', t', cap] w' (RetB (p (xs.getD i z0) (ts.getD i z0)) w')) :
  Calls Tryz.prog 69 #[v, vt, .func (.func 70) #[] #[cap]] w (RetB (all2 p xs ts) w) := by
 have hmx := h.max
 have hmt := ht.max
 have HL := As h
 have HT := As ht
 obtain ⟨A, c, rfl, _, _⟩ := h
 obtain ⟨B, e, rfl, _, _⟩ := ht
 have HB := As (Below.refl w.heap.size w)
 have HFN := As hf
 clear hf
 by_cases hne : xs.length = ts.length
 ·have hnb : decide ((xs.length : Int) = (ts.length : Int)) = true := decide_eq_true (by omega)
  have HNE := As hne
  go_enter Tryz.func69, Tryz.ntmps69
  go_upto_region 3 with fail
  clear hnb hne
  go_wp2
  go_loopw [17] (fun v17 wr => ∃ i : Nat, v17 = .int .i64 i ∧ i ≤ xs.length ∧ Aside0 (∀ j, j < i → p (xs.getD j z0) (ts.getD j z0) = true) ∧ Aside0 (Below w.heap.size w wr)) (fun v17 _ => xs.length - (intOf v17).toNat)
  case atStart => exact ⟨0, rfl, Nat.zero_le _, ⟨fun j hj => absurd hj (Nat.not_lt_zero _)⟩, HB⟩
  case round =>
   clear HB
   obtain ⟨i, rfl, hi, HK, HB⟩ := hrel
   by_cases hlt : i < xs.length
   ·have hlb : decide ((i : Int) < (xs.length : Int)) = true := decide_eq_true (by omega)
    obtain ⟨b, o, A1, c1, rfl, p0, p1, p2, hkid⟩ := (HL.out.below HB.out).at i hlt
    obtain ⟨b', o', A2, c2, rfl, q0, q1, q2, hkid2⟩ := (HT.out.below HB.out).at i (by have := HNE.out; omega)
    have HK2 := As hkid
    have HK3 := As hkid2
    have HFi := As (HFN.out i hlt (by have := HNE.out; omega))
    obtain ⟨y, hy⟩ : ∃ y, xs.getD i z0 = y := ⟨_, rfl⟩
    obtain ⟨t, htt⟩ : ∃ t, ts.getD i z0 = t := ⟨_, rfl⟩
    have HYY := As (And.intro hy htt)
    have hil : (i : Int) < (ts.length : Int) := by have := HNE.out; omega
    rw [hy] at p0 p1 p2 HK2 HFi
    rw [htt] at q0 q1 q2 HK3 HFi
    obtain ⟨W1, hW1⟩ : ∃ W1, wr.alloc (.cells #[.int .i64 y.k, .int .i64 y.n, .slice A1 y.l.length c1] 28) = W1 := ⟨_, rfl⟩
    obtain ⟨W2, hW2⟩ : ∃ W2, W1.alloc (.cells #[.int .i64 t.k, .int .i64 t.n, .slice A2 t.l.length c2] 25) = W2 := ⟨_, rfl⟩
    have hb1 : Below wr.heap.size wr W1 := by rw [← hW1]; exact below_alloc (Below.refl _ _) _
    have hb12 : Below W1.heap.size W1 W2 := by rw [← hW2]; exact below_alloc (Below.refl _ _) _
    have hg1 : W1.heap[wr.heap.size]? = some (.cells #[.int .i64 y.k, .int .i64 y.n, .slice A1 y.l.length c1] 28 (0, 0)) := by rw [← hW1]; exact heap_alloc_new _ _
    have hg12 := blk_below hg1 hb12
    have HB2 := As (below_step HB.out (below_step hb1 hb12))
    have HKv := As ((HK2.out.below hb1).below hb12)
    have HKt := As ((HK3.out.below hb1).below hb12)
    replace q0 := pw_cell_below hb1 q0
    replace q1 := pw_cell_below hb1 q1
    replace q2 := pw_cell_below hb1 q2
    have y0 : W2.cell? ⟨wr.heap.size, 0, none⟩ = some (.int .i64 y.k) := (blk_cell hg12 0).trans rfl
    have y1 : W2.cell? ⟨wr.heap.size, 1, none⟩ = some (.int .i64 y.n) := (blk_cell hg12 1).trans rfl
    have y2 : W2.cell? ⟨wr.heap.size, 2, none⟩ = some (.slice A1 y.l.length c1) := (blk_cell hg12 2).trans rfl
    have hg2 : W2.heap[W1.heap.size]? = some (.cells #[.int .i64 t.k, .int .i64 t.n, .slice A2 t.l.length c2] 25 (0, 0)) := by rw [← hW2]; exact heap_alloc_new _ _
    have t0 : W2.cell? ⟨W1.heap.size, 0, none⟩ = some (.int .i64 t.k) := (blk_cell hg2 0).trans rfl
    have t1 : W2.cell? ⟨W1.heap.size, 1, none⟩ = some (.int .i64 t.n) := (blk_cell hg2 1).trans rfl
    have t2 : W2.cell? ⟨W1.heap.size, 2, none⟩ = some (.slice A2 t.l.length c2) := (blk_cell hg2 2).trans rfl
    have HW1 := As hW1
    have HW2 := As hW2
    clear hg2
    clear hkid hkid2 hy htt hb1 hb12 hW1 hW2 hg1 hg12
    go_upto_region 6 with fail
    rw [HW1.out]
    go_upto_region 7 with fail
    rw [HW2.out]
    go_wp2_with fail
    with_reducible refine (HFi.out _ _ _ HB2.out HKv.out HKt.out).mono ?_
    rintro e w3 ⟨rfl, hb⟩
    have HB3 := As (below_step HB2.out hb)
    obtain ⟨q, hq⟩ : ∃ q, p y t = q := ⟨_, rfl⟩
    have HQ := As hq
    rw [hq]
    clear hb hq
    cases q with
    | false =>
     have hA := As (show all2 p xs ts = false by
      rw [Bool.eq_false_iff, Ne, all2_iff p xs ts HNE.out]
      intro hall
      have h1 := hall i hlt
      rw [HYY.out.1, HYY.out.2, HQ.out] at h1
      cases h1)
     go_wp2
     go_ret
     exact RetB.mk hA.out HB3.out
    | true =>
     go_wp2
     go_roundw
     case rel => exact ⟨i + 1, by go_num, by omega, ⟨fun j hj => by rcases Nat.lt_or_ge j i with h | h; exact HK.out j h; rw [show j = i by omega, HYY.out.1, HYY.out.2]; exact HQ.out⟩, HB3⟩
     case measure => simp [intOf]; omega
   ·have hlb : decide ((i : Int) < (xs.length : Int)) = false := decide_eq_false (by omega)
    have hA := As (show all2 p xs ts = true by
     rw [all2_iff p xs ts HNE.out]
     intro j hj
     exact HK.out j (by omega))
    go_wp2
    go_ret
    exact RetB.mk hA.out HB.out
 ·have hnb : decide ((xs.length : Int) = (ts.length : Int)) = false := decide_eq_false (by omega)
  have hA := As (all2_ne p xs ts hne)
  go_enter Tryz.func69, Tryz.ntmps69
  go_wp2
  go_ret
  exact RetB.mk hA.out HB.out
/-- value.each, where value.has answers p at the elements. -/
theorem each_has (p : Tr → Tr → Bool) (ds : List Dt) (ok : Nat → Prop) (vd v vt : Value) (xs ts : List Tr) (w : World) (hd : LDt w ok vd ds) (h : LTr 28 w ok v xs) (ht : LTr 25 w ok vt ts)
  (hf : ∀ i, i < xs.length → i < ts.length → ∀ (v' t' : Value) (w' : World), Below w.heap.size w w' → LDt w' ok vd ds → ITr 28 w' ok v' (xs.getD i z0) → ITr 25 w' ok t' (ts.getD i z0) → Calls Tryz.prog 19 #[vd, v', t'] w' (RetB (p (xs.getD i z0) (ts.getD i z0)) w')) :
  Calls Tryz.prog 37 #[vd, v, vt] w (RetB (all2 p xs ts) w) := by
 have HD := As hd
 obtain ⟨D, dc, rfl, hdc, _⟩ := hd
 obtain ⟨W1, hW1⟩ : ∃ W1, w.alloc (.cells #[.slice D ds.length dc] 22) = W1 := ⟨_, rfl⟩
 have hb1 : Below w.heap.size w W1 := by rw [← hW1]; exact below_alloc (Below.refl _ _) _
 have hg1 : W1.heap[w.heap.size]? = some (.cells #[.slice D ds.length dc] 22 (0, 0)) := by rw [← hW1]; exact heap_alloc_new _ _
 have HB1 := As hb1
 have HW1 := As hW1
 have HV := As (h.below hb1)
 have HT := As (ht.below hb1)
 have HCL := As (show ∀ i, i < xs.length → i < ts.length → ∀ (v' t' : Value) (w' : World), Below W1.heap.size W1 w' → ITr 28 w' ok v' (xs.getD i z0) → ITr 25 w' ok t' (ts.getD i z0) → Calls Tryz.prog 70 #[v', t', .pointer (some ⟨w.heap.size, 0, none⟩)] w' (RetB (p (xs.getD i z0) (ts.getD i z0)) w') from fun i hi hi2 v' t' w' hb hv' ht' => by
  obtain ⟨Av, cv, rfl⟩ := hv'.shape
  obtain ⟨At, ct, rfl⟩ := ht'.shape
  have hc := blk_below hg1 hb
  have a0 : w'.cell? ⟨w.heap.size, 0, none⟩ = some (.slice D ds.length dc) := (blk_cell hc 0).trans rfl
  have HV1 := As hv'
  have HT1 := As ht'
  have HBB := As (below_step hb1 hb)
  have HF := As (hf i hi hi2)
  have HDD := As ((HD.out.below hb1).below hb)
  obtain ⟨y, hy⟩ : ∃ y, xs.getD i z0 = y := ⟨_, rfl⟩
  obtain ⟨t, htt⟩ : ∃ t, ts.getD i z0 = t := ⟨_, rfl⟩
  rw [hy] at HV1 HF ⊢
  rw [htt] at HT1 HF ⊢
  obtain ⟨W5, hW5⟩ : ∃ W5, w'.alloc (.cells #[.int .i64 y.k, .int .i64 y.n, .slice Av y.l.length cv] 28) = W5 := ⟨_, rfl⟩
  obtain ⟨W6, hW6⟩ : ∃ W6, W5.alloc (.cells #[.int .i64 t.k, .int .i64 t.n, .slice At t.l.length ct] 25) = W6 := ⟨_, rfl⟩
  have hWW : (w'.alloc (.cells #[.int .i64 y.k, .int .i64 y.n, .slice Av y.l.length cv] 28)).alloc (.cells #[.int .i64 t.k, .int .i64 t.n, .slice At t.l.length ct] 25) = W6 := by rw [hW5]; exact hW6
  have hs5 : W5.heap.size = w'.heap.size + 1 := by rw [← hW5]; show (w'.heap.push _).size = _; simp
  have hb5 : Below w'.heap.size w' W5 := by rw [← hW5]; exact below_alloc (Below.refl _ _) _
  have hb56 : Below W5.heap.size W5 W6 := by rw [← hW6]; exact below_alloc (Below.refl _ _) _
  have hg5 : W5.heap[w'.heap.size]? = some (.cells #[.int .i64 y.k, .int .i64 y.n, .slice Av y.l.length cv] 28 (0, 0)) := by rw [← hW5]; exact heap_alloc_new _ _
  have hg6 : W6.heap[w'.heap.size + 1]? = some (.cells #[.int .i64 t.k, .int .i64 t.n, .slice At t.l.length ct] 25 (0, 0)) := by rw [← hs5, ← hW6]; exact heap_alloc_new _ _
  have hg5' := blk_below hg5 hb56
  have b0 : W6.cell? ⟨w'.heap.size, 0, none⟩ = some (.int .i64 y.k) := (blk_cell hg5' 0).trans rfl
  have b1 : W6.cell? ⟨w'.heap.size, 1, none⟩ = some (.int .i64 y.n) := (blk_cell hg5' 1).trans rfl
  have b2 : W6.cell? ⟨w'.heap.size, 2, none⟩ = some (.slice Av y.l.length cv) := (blk_cell hg5' 2).trans rfl
  have e0 : W6.cell? ⟨w'.heap.size + 1, 0, none⟩ = some (.int .i64 t.k) := (blk_cell hg6 0).trans rfl
  have e1 : W6.cell? ⟨w'.heap.size + 1, 1, none⟩ = some (.int .i64 t.n) := (blk_cell hg6 1).trans rfl
  have e2 : W6.cell? ⟨w'.heap.size + 1, 2, none⟩ = some (.slice At t.l.length ct) := (blk_cell hg6 2).trans rfl
  replace a0 := pw_cell_below hb5 a0
  replace a0 := pw_cell_below hb56 a0
  have HB6 := As (below_step hb5 hb56)
  have HV6 := As (HV1.out.below HB6.out)
  have HT6 := As (HT1.out.below HB6.out)
  have HD6 := As (HDD.out.below HB6.out)
  have HWW := As hWW
  clear hWW hW5 hW6 hs5 hb5 hb56 hg5 hg6 hg5' hc hb hv' ht' hy htt hb1 hg1 hW1
  go_enter Tryz.func70, Tryz.ntmps70
  go_upto_region 1 with fail
  rw [HWW.out]
  go_wp2_with fail
  with_reducible refine (HF.out _ _ _ (below_step HBB.out HB6.out) HD6.out HV6.out HT6.out).mono ?_
  rintro e w3 ⟨rfl, hb⟩
  have HB9 := As (below_step HB6.out hb)
  clear hb
  go_wp2
  go_ret
  exact RetB.mk rfl HB9.out)
 clear hW1 hb1 hg1 h ht hf
 go_enter Tryz.func37, Tryz.ntmps37
 go_upto_region 1 with fail
 rw [HW1.out]
 go_wp2_with fail
 with_reducible refine (equal_val p ok _ _ _ xs ts _ HV.out HT.out HCL.out).mono ?_
 rintro e w3 ⟨rfl, hb⟩
 have HB9 := As (below_step HB1.out hb)
 clear hb
 go_wp2
 go_ret
 exact RetB.mk rfl HB9.out
/-
  Values of types: the plain function; its types stay valid.
-/
/-- The data types' arguments are valid, and not many. -/
structure VD (ds : List Dt) : Prop where
 args : ∀ i j m, i < ds.length → j < (ds.getD i d0).l.length → m < ((ds.getD i d0).l.getD j c0).l.length → (((ds.getD i d0).l.getD j c0).l.getD m z0).ok ds (ds.getD i d0).n = true
 len : ∀ i j, ((ds.getD i d0).l.getD j c0).l.length ≤ 1000000
theorem getD_out {α : Type} {l : List α} {i : Nat} {d : α} (h : ¬ i < l.length) : l.getD i d = d := by
 rw [List.getD_eq_getElem?_getD, List.getElem?_eq_none (by omega)]
 rfl
theorem VD.small {ds : List Dt} (h : VD ds) : SmallD ds := fun i j => ⟨h.len i j, fun m => by
 by_cases hi : i < ds.length
 ·by_cases hj : j < (ds.getD i d0).l.length
  ·by_cases hm : m < ((ds.getD i d0).l.getD j c0).l.length
   ·have h1 := h.args i j m hi hj hm
    unfold Tr.ok at h1
    rw [Bool.and_eq_true, decide_eq_true_iff] at h1
    omega
   ·rw [getD_out hm]; decide
  ·rw [getD_out hj, getD_out (by simp [c0])]; decide
 ·rw [getD_out hi, show d0.l.getD j c0 = c0 from rfl, getD_out (by simp [c0])]; decide⟩
theorem Tr.ok_iff {ds : List Dt} {vars : Int} {x : Tr} : x.ok ds vars = true ↔ x.sz ≤ 200 ∧ x.vld ds vars = true := by
 unfold Tr.ok
 rw [Bool.and_eq_true, decide_eq_true_iff]
theorem vld_iff (ds : List Dt) (vars : Int) (x : Tr) : x.vld ds vars = true ↔ hdB ds vars x.k x.n x.l.length = true ∧ ∀ i, i < x.l.length → (x.l.getD i z0).vld ds vars = true := by
 rw [x.vld_eq, Bool.and_eq_true]
 refine and_congr_right (fun _ => ?_)
 rw [Bool.not_eq_true', List.any_eq_false]
 constructor
 ·intro h i hi
  have h1 := h (x.l.getD i z0) (by rw [List.getD_eq_getElem?_getD, List.getElem?_eq_getElem hi]; exact List.getElem_mem hi)
  simpa using h1
 ·intro h y hy
  obtain ⟨i, hi, rfl⟩ := List.mem_iff_getElem.1 hy
  have h1 := h i hi
  rw [List.getD_eq_getElem?_getD, List.getElem?_eq_getElem hi] at h1
  simpa using h1
theorem hdB_mono {ds : List Dt} {m : Nat} {vars k n : Int} {len : Nat} (h : hdB (ds.take m) vars k n len = true) : hdB ds vars k n len = true := by
 by_cases h5 : k = 5
 ·unfold hdB at h ⊢
  rw [if_neg (by omega), if_neg (by omega), if_pos h5] at h ⊢
  simp only [Bool.and_eq_true, decide_eq_true_iff, List.length_take] at h ⊢
  obtain ⟨⟨h1, h2⟩, h3⟩ := h
  have h4 : n.toNat < m := by omega
  refine ⟨⟨h1, by omega⟩, ?_⟩
  rw [h3, List.getD_eq_getElem?_getD, List.getD_eq_getElem?_getD, List.getElem?_take, if_pos h4]
 ·unfold hdB at h ⊢
  rw [if_neg h5] at h ⊢
  exact h
theorem vld_mono {ds : List Dt} {m : Nat} {vars : Int} (N : Nat) : ∀ x : Tr, x.sz ≤ N → x.vld (ds.take m) vars = true → x.vld ds vars = true := by
 induction N with
 | zero => intro x h; have := x.sz_eq; omega
 | succ N ih =>
  intro x hN h
  rw [vld_iff] at h ⊢
  exact ⟨hdB_mono h.1, fun i hi => ih _ (by have := kid_sz hi; omega) (h.2 i hi)⟩
theorem vld_sub {ds : List Dt} {ts : List Tr} (hts : ∀ i, i < ts.length → (ts.getD i z0).vld ds 0 = true) (N : Nat) : ∀ x : Tr, x.sz ≤ N → x.vld ds (ts.length : Int) = true → (x.sub ts).vld ds 0 = true := by
 induction N with
 | zero => intro x h; have := x.sz_eq; omega
 | succ N ih =>
  intro x hN h
  rw [vld_iff] at h
  rw [x.sub_eq]
  by_cases h4 : x.k = 4 ∧ 0 ≤ x.n ∧ x.n < ts.length
  ·rw [if_pos h4]
   exact hts _ (by omega)
  ·rw [if_neg h4, vld_iff]
   refine ⟨?_, fun i hi => ?_⟩
   ·show hdB ds 0 x.k x.n (subl ts x.l).length = true
    rw [subl_length]
    have h1 := h.1
    unfold hdB at h1 ⊢
    by_cases hk : x.k = 4
    ·rw [if_neg (by omega), if_pos hk] at h1
     simp only [Bool.and_eq_true, decide_eq_true_iff] at h1
     exact absurd ⟨hk, h1.1.1, h1.1.2⟩ h4
    ·rw [if_neg hk] at h1 ⊢
     exact h1
   ·have hi' : i < x.l.length := by rw [← subl_length ts x.l]; exact hi
    have h1 := ih (x.l.getD i z0) (by have := kid_sz hi'; omega) (h.2 i hi')
    show ((subl ts x.l).getD i z0).vld ds 0 = true
    rw [subl_map, List.getD_eq_getElem?_getD, List.getElem?_map, List.getElem?_eq_getElem hi']
    rw [List.getD_eq_getElem?_getD, List.getElem?_eq_getElem hi'] at h1
    exact h1
/-- A valid data type's number and arguments. -/
theorem vld_data {ds : List Dt} {vars : Int} {t : Tr} (h : t.vld ds vars = true) (hk : t.k = 5) : 0 ≤ t.n ∧ t.n < (ds.length : Int) ∧ (t.l.length : Int) = (fldD ds t).n := by
 have h1 := ((vld_iff ds vars t).1 h).1
 unfold hdB at h1
 rw [if_neg (by omega), if_neg (by omega), if_pos hk] at h1
 simp only [Bool.and_eq_true, decide_eq_true_iff] at h1
 exact ⟨h1.1.1, h1.1.2, h1.2⟩
theorem vld_one {ds : List Dt} {vars : Int} {t : Tr} (h : t.vld ds vars = true) (hk : t.k = 7) : t.l.length = 1 := by
 have h1 := ((vld_iff ds vars t).1 h).1
 unfold hdB at h1
 rw [if_neg (by omega), if_neg (by omega), if_neg (by omega), if_neg (by omega), if_pos (by omega)] at h1
 simp only [Bool.and_eq_true, decide_eq_true_iff] at h1
 exact h1.2
theorem ok_kid {ds : List Dt} {vars : Int} {t : Tr} (h : t.ok ds vars = true) {i : Nat} (hi : i < t.l.length) : (t.l.getD i z0).ok ds vars = true := by
 rw [Tr.ok_iff] at h ⊢
 exact ⟨by have := kid_sz hi; omega, ((vld_iff ds vars t).1 h.2).2 i hi⟩
theorem ok_fields {ds : List Dt} {t : Tr} {c : Int} {fs : List Tr} (hv : VD ds) (h : t.ok ds 0 = true) (hf : fieldsP ds t c = some fs) : ∀ i, i < fs.length → (fs.getD i z0).ok ds 0 = true := by
 unfold fieldsP at hf
 by_cases ho : fldOk ds t c
 ·rw [if_pos ho] at hf
  by_cases hs : short (subl t.l (fldC ds t c).l) = true
  ·rw [if_pos hs] at hf
   cases hf
   obtain ⟨h1, h2, h3, h4, h5, h6⟩ := ho
   intro i hi
   have hi' : i < (fldC ds t c).l.length := by rw [← subl_length t.l]; exact hi
   have ha := hv.args t.n.toNat c.toNat i (by omega) (by unfold fldD at h6; omega) hi'
   rw [Tr.ok_iff] at ha ⊢
   have hsz := ((subl t.l (fldC ds t c).l)).all_eq_true.1 hs ((subl t.l (fldC ds t c).l).getD i z0) (by rw [List.getD_eq_getElem?_getD, List.getElem?_eq_getElem hi]; exact List.getElem_mem hi)
   refine ⟨by simpa using hsz, ?_⟩
   have hn : (ds.getD t.n.toNat d0).n = (t.l.length : Int) := h4.symm
   rw [hn] at ha
   have hl : (subl t.l (fldC ds t c).l).getD i z0 = ((fldC ds t c).l.getD i z0).sub t.l := by
    rw [subl_map, List.getD_eq_getElem?_getD, List.getElem?_map, List.getD_eq_getElem?_getD, List.getElem?_eq_getElem hi']
    rfl
   rw [hl]
   exact vld_sub (fun j hj => ((vld_iff ds 0 t).1 (Tr.ok_iff.1 h).2).2 j hj) _ _ (Nat.le_refl _) ha.2
  ·rw [if_neg hs] at hf
   cases hf
 ·rw [if_neg ho] at hf
  cases hf
mutual
/-- A value has a type. -/
noncomputable def Tr.has (ds : List Dt) : Tr → Tr → Bool
 | ⟨k, n, l⟩, t =>
  if k = 1 then (t.k == 3) && (n == 0) && ((l.length : Int) == 0)
  else if k = 2 then (t.k == 2) && ((n == 0) || (n == 1)) && ((l.length : Int) == 0)
  else if k = 3 then (t.k == 1) && decide (-1099511627776 ≤ n) && decide (n ≤ 1099511627776) && ((l.length : Int) == 0)
  else if k = 8 then (t.k == 9) && decide (0 ≤ n) && decide (n < 64) && ((l.length : Int) == 0)
  else if k = 4 then (t.k == 6) && (n == 0) && hasl ds l t.l
  else if k = 5 then (t.k == 5) && !decide (n < 0) && !decide (((fldD ds t).l.length : Int) ≤ n) && (match fieldsP ds t n with | none => false | some fs => hasl ds l fs)
  else if k = 6 then (t.k == 7) && (n == 0) && !decide (4096 < (l.length : Int)) && hasa ds l (t.l.getD 0 z0)
  else if k = 7 then (t.k == 8) && (n == 0) && hasl ds l t.l
  else false
noncomputable def hasl (ds : List Dt) : List Tr → List Tr → Bool
 | [], [] => true
 | x :: xs, t :: ts => x.has ds t && hasl ds xs ts
 | [], _ :: _ => false
 | _ :: _, [] => false
noncomputable def hasa (ds : List Dt) : List Tr → Tr → Bool
 | [], _ => true
 | x :: xs, t => x.has ds t && hasa ds xs t
end
theorem hasl_all (ds : List Dt) : ∀ xs ts : List Tr, hasl ds xs ts = all2 (Tr.has ds) xs ts
 | [], [] => by rw [hasl, all2]
 | x :: xs, t :: ts => by rw [hasl, all2, hasl_all ds xs ts]
 | [], _ :: _ => by rw [hasl, all2]
 | _ :: _, [] => by rw [hasl, all2]
theorem hasa_any (ds : List Dt) (t : Tr) : ∀ xs : List Tr, hasa ds xs t = !(xs.any (fun x => !(x.has ds t)))
 | [] => by rw [hasa]; rfl
 | x :: xs => by rw [hasa, hasa_any ds t xs, List.any_cons, Bool.not_or, Bool.not_not]
/-
  The contract of value.has.
-/
/-- value.has at the elements of l. -/
def HasAt (ds : List Dt) (ok : Nat → Prop) (l : List Tr) : Prop := ∀ (x t : Tr) (vd v vt : Value) (w : World), x ∈ l → (∀ k, w.heap.size ≤ k → ok k) → LDt w ok vd ds → ITr 28 w ok v x → ITr 25 w ok vt t → t.ok ds 0 = true →
 Calls Tryz.prog 19 #[vd, v, vt] w (RetB (x.has ds t) w)
theorem mem_getD {l : List Tr} {i : Nat} (h : i < l.length) : l.getD i z0 ∈ l := by
 rw [List.getD_eq_getElem?_getD, List.getElem?_eq_getElem h]
 exact List.getElem_mem h
theorem each_val2 (ds : List Dt) (ok : Nat → Prop) (l ts : List Tr) (hh : HasAt ds ok l) (vd v vt : Value) (w : World) (hok : ∀ k, w.heap.size ≤ k → ok k) (hd : LDt w ok vd ds) (h : LTr 28 w ok v l) (ht : LTr 25 w ok vt ts)
  (hts : ∀ i, i < ts.length → (ts.getD i z0).ok ds 0 = true) :
  Calls Tryz.prog 37 #[vd, v, vt] w (RetB (hasl ds l ts) w) := by
 rw [hasl_all]
 exact each_has (Tr.has ds) ds ok vd v vt l ts w hd h ht (fun i hi hi2 v' t' w' hb hd' hv' ht' => hh _ _ vd v' t' w' (mem_getD hi) (fun k hk => hok k (Nat.le_trans hb.size hk)) hd' hv' ht' (hts i hi2))
set_option maxRecDepth 100000 in
set_option maxHeartbeats 4000000 in
/-- The closure of value.has at arrays. -/
theorem has1_val (ds : List Dt) (ok : Nat → Prop) (l : List Tr) (hh : HasAt ds ok l) (t : Tr) (g : Nat) (D At : Option Addr) (dc ct : Nat) (W : World) (hok : ∀ k, W.heap.size ≤ k → ok k)
  (hd : LDt W ok (.slice D ds.length dc) ds) (ht : LTr 25 W ok (.slice At t.l.length ct) t.l) (htl : 0 < t.l.length) (hto : (t.l.getD 0 z0).ok ds 0 = true)
  (hg1 : W.heap[g]? = some (.cells #[.slice D ds.length dc] 22 (0, 0))) (hg2 : W.heap[g + 1 + 1]? = some (.cells #[.int .i64 t.k, .int .i64 t.n, .slice At t.l.length ct] 25 (0, 0))) :
  ∀ i, i < l.length → ∀ (v' : Value) (w' : World), Below W.heap.size W w' → ITr 28 w' ok v' (l.getD i z0) → Calls Tryz.prog 40 #[v', .pointer (some ⟨g, 0, none⟩), .pointer (some ⟨g + 1 + 1, 0, none⟩)] w' (RetB (!((l.getD i z0).has ds (t.l.getD 0 z0))) w') := by
 intro i hi v' w' hb hv'
 have hmt := ht.max
 have HMEM := As (mem_getD hi)
 obtain ⟨y, hy⟩ : ∃ y, l.getD i z0 = y := ⟨_, rfl⟩
 obtain ⟨s, hs⟩ : ∃ s, t.l.getD 0 z0 = s := ⟨_, rfl⟩
 rw [hy] at hv' HMEM ⊢
 obtain ⟨Av, cv, rfl⟩ := hv'.shape
 obtain ⟨W5, hW5⟩ : ∃ W5, w'.alloc (.cells #[.int .i64 y.k, .int .i64 y.n, .slice Av y.l.length cv] 28) = W5 := ⟨_, rfl⟩
 have hb5 : Below w'.heap.size w' W5 := by rw [← hW5]; exact below_alloc (Below.refl _ _) _
 have hg5 : W5.heap[w'.heap.size]? = some (.cells #[.int .i64 y.k, .int .i64 y.n, .slice Av y.l.length cv] 28 (0, 0)) := by rw [← hW5]; exact heap_alloc_new _ _
 have hbb := below_step hb hb5
 have hc1 := blk_below hg1 hbb
 have hc2 := blk_below hg2 hbb
 have a0 : W5.cell? ⟨g, 0, none⟩ = some (.slice D ds.length dc) := (blk_cell hc1 0).trans rfl
 have t2 : W5.cell? ⟨g + 1 + 1, 2, none⟩ = some (.slice At t.l.length ct) := (blk_cell hc2 2).trans rfl
 have b0 : W5.cell? ⟨w'.heap.size, 0, none⟩ = some (.int .i64 y.k) := (blk_cell hg5 0).trans rfl
 have b1 : W5.cell? ⟨w'.heap.size, 1, none⟩ = some (.int .i64 y.n) := (blk_cell hg5 1).trans rfl
 have b2 : W5.cell? ⟨w'.heap.size, 2, none⟩ = some (.slice Av y.l.length cv) := (blk_cell hg5 2).trans rfl
 obtain ⟨b, o, A1, c1, rfl, p0, p1, p2, hkid⟩ := (ht.below hbb).at 0 htl
 rw [hs] at p0 p1 p2 hkid hto ⊢
 rw [show o + 0 * 3 = o from rfl] at p0 p1 p2
 have HKID := As hkid
 have HTO := As hto
 have HW5 := As hW5
 have HB5 := As hb5
 have HD5 := As (hd.below hbb)
 have HV5 := As (hv'.below hb5)
 have HOK5 := As (show ∀ k, W5.heap.size ≤ k → ok k from fun k hk => hok k (Nat.le_trans hbb.size hk))
 have hlt0 : (0 : Int) < (t.l.length : Int) := by omega
 have hbd : Below W5.heap.size W5 W5.drew := pw_below_drewN (Below.refl _ _) 1
 have HB6 := As (below_step HB5.out hbd)
 have HD6 := As (HD5.out.below hbd)
 have HV6 := As (HV5.out.below hbd)
 have HKID6 := As (hkid.below hbd)
 have HOK6 := As (show ∀ k, W5.drew.heap.size ≤ k → ok k from HOK5.out)
 unfold HasAt at hh
 have HH := As hh
 clear hbd
 clear hh hd ht hto hkid hb hv' hW5 hb5 hg5 hbb hc1 hc2 hg1 hg2 hok
 go_enter Tryz.func40, Tryz.ntmps40
 go_upto_region 1 with fail
 rw [HW5.out]
 go_region_with (go_at_call 19; (with_reducible refine (HH.out y s _ _ _ _ HMEM.out HOK6.out HD6.out HV6.out HKID6.out HTO.out).mono ?_); rintro e w3 ⟨rfl, hb⟩; have HB9 := As (below_step HB6.out hb); clear hb)
 all_goals
  (go_wp2
   go_ret
   exact RetB.mk rfl HB9.out)
/-
  The contract of value.has, at constructors.
-/
set_option maxRecDepth 100000 in
set_option maxHeartbeats 8000000 in
theorem has5_val (ds : List Dt) (hv : VD ds) (k n : Int) (l : List Tr) (t : Tr) (ok : Nat → Prop) (vd vt : Value) (A : Option Addr) (c : Nat) (w : World) (hh : HasAt ds ok l) (hok : ∀ k, w.heap.size ≤ k → ok k) (hd : LDt w ok vd ds) (hx : LTr 28 w ok (.slice A l.length c) l) (ht : ITr 25 w ok vt t) (hto : t.ok ds 0 = true) (h5 : k = 5) :
  Calls Tryz.prog 19 #[vd, .agg #[.int .i64 k, .int .i64 n, .slice A l.length c], vt] w (RetB (Tr.has ds ⟨k, n, l⟩ t) w) := by
 have hmxd := hd.max
 have hmx := hx.max
 obtain ⟨At, ct, rfl⟩ := ht.shape
 have hmt := (ht.kids.2.2.2).max
 have HTO := As hto
 have HAT := As hh
 have H5 := As h5
 clear hh h5
 have HD := As hd
 obtain ⟨D, dc, rfl, hdc, _⟩ := hd
 obtain ⟨W1, hW1⟩ : ∃ W1, w.alloc (.cells #[.slice D ds.length dc] 22) = W1 := ⟨_, rfl⟩
 obtain ⟨W2, hW2⟩ : ∃ W2, W1.alloc (.cells #[.int .i64 k, .int .i64 n, .slice A l.length c] 28) = W2 := ⟨_, rfl⟩
 obtain ⟨W3, hW3⟩ : ∃ W3, W2.alloc (.cells #[.int .i64 t.k, .int .i64 t.n, .slice At t.l.length ct] 25) = W3 := ⟨_, rfl⟩
 have hWW : ((w.alloc (.cells #[.slice D ds.length dc] 22)).alloc (.cells #[.int .i64 k, .int .i64 n, .slice A l.length c] 28)).alloc (.cells #[.int .i64 t.k, .int .i64 t.n, .slice At t.l.length ct] 25) = W3 := by rw [hW1, hW2]; exact hW3
 have hs1 : W1.heap.size = w.heap.size + 1 := by rw [← hW1]; show (w.heap.push _).size = _; simp
 have hs2 : W2.heap.size = w.heap.size + 1 + 1 := by rw [← hW2]; show (W1.heap.push _).size = _; simp; omega
 have hb1 : Below w.heap.size w W1 := by rw [← hW1]; exact below_alloc (Below.refl _ _) _
 have hb12 : Below W1.heap.size W1 W2 := by rw [← hW2]; exact below_alloc (Below.refl _ _) _
 have hb23 : Below W2.heap.size W2 W3 := by rw [← hW3]; exact below_alloc (Below.refl _ _) _
 have hg1 : W1.heap[w.heap.size]? = some (.cells #[.slice D ds.length dc] 22 (0, 0)) := by rw [← hW1]; exact heap_alloc_new _ _
 have hg2 : W2.heap[w.heap.size + 1]? = some (.cells #[.int .i64 k, .int .i64 n, .slice A l.length c] 28 (0, 0)) := by rw [← hs1, ← hW2]; exact heap_alloc_new _ _
 have hg3 : W3.heap[w.heap.size + 1 + 1]? = some (.cells #[.int .i64 t.k, .int .i64 t.n, .slice At t.l.length ct] 25 (0, 0)) := by rw [← hs2, ← hW3]; exact heap_alloc_new _ _
 have hG1 := blk_below hg1 (below_step hb12 hb23)
 have hG2 := blk_below hg2 hb23
 have a0 : W3.cell? ⟨w.heap.size, 0, none⟩ = some (.slice D ds.length dc) := (blk_cell hG1 0).trans rfl
 have b0 : W3.cell? ⟨w.heap.size + 1, 0, none⟩ = some (.int .i64 k) := (blk_cell hG2 0).trans rfl
 have b1 : W3.cell? ⟨w.heap.size + 1, 1, none⟩ = some (.int .i64 n) := (blk_cell hG2 1).trans rfl
 have b2 : W3.cell? ⟨w.heap.size + 1, 2, none⟩ = some (.slice A l.length c) := (blk_cell hG2 2).trans rfl
 have t0 : W3.cell? ⟨w.heap.size + 1 + 1, 0, none⟩ = some (.int .i64 t.k) := (blk_cell hg3 0).trans rfl
 have t1 : W3.cell? ⟨w.heap.size + 1 + 1, 1, none⟩ = some (.int .i64 t.n) := (blk_cell hg3 1).trans rfl
 have t2 : W3.cell? ⟨w.heap.size + 1 + 1, 2, none⟩ = some (.slice At t.l.length ct) := (blk_cell hg3 2).trans rfl
 have hb3 := below_step (below_step hb1 hb12) hb23
 have HWW := As hWW
 have HB3 := As hb3
 have HG1 := As hG1
 have HG3 := As hg3
 have HD3 := As (HD.out.below hb3)
 have HX3 := As (hx.below hb3)
 have HT3 := As (ht.below hb3)
 have HOK3 := As (show ∀ k, W3.heap.size ≤ k → ok k from fun k hk => hok k (Nat.le_trans hb3.size hk))
 clear hWW hW1 hW2 hW3 hs1 hs2 hb1 hb12 hb23 hg1 hg2 hg3 hG1 hG2 hb3 hx ht hok hto
 obtain ⟨e0, he0⟩ : ∃ e0, ((l.length : Int) == 0) = e0 := ⟨_, rfl⟩
 obtain ⟨f0, hf0⟩ : ∃ f0, (n == 0) = f0 := ⟨_, rfl⟩
 go_enter Tryz.func19, Tryz.ntmps19
 go_upto_region 1 with fail
 rw [HWW.out]
 have h5 := H5.out
 subst h5
 clear H5
 clear he0 hf0
 by_cases hq : t.k = 5
 ·obtain ⟨hn0, hn1, hn2⟩ := vld_data (Tr.ok_iff.1 HTO.out).2 hq
  obtain ⟨m, hm⟩ := Int.eq_ofNat_of_zero_le hn0
  have hmd : m < ds.length := by omega
  have hqb : (t.k == 5) = true := beq_iff_eq.2 hq
  have hqn : (t.k != 5) = false := bne_eq_false_iff_eq.2 hq
  have hFD : fldD ds t = ds.getD m d0 := by unfold fldD; rw [hm]; rfl
  by_cases hn : n < 0
  ·have hnb : decide (n < 0) = true := decide_eq_true hn
   have HF := As (show Tr.has ds ⟨5, n, l⟩ t = false by
    rw [Tr.has, if_neg (by decide), if_neg (by decide), if_neg (by decide), if_neg (by decide), if_neg (by decide), if_pos rfl, hnb]
    simp)
   clear hq hn hn0 hn1 hn2 hm hmd hFD
   go_upto_region 14 with fail
   go_quiet (fail)
   go_wp2
   go_ret
   exact RetB.mk HF.out (pw_below_drewN HB3.out _)
  ·have hnb : decide (n < 0) = false := decide_eq_false hn
   obtain ⟨nn, rfl⟩ := Int.eq_ofNat_of_zero_le (by omega : 0 ≤ n)
   obtain ⟨bd, od, Ac, cc, rfl, p0, p1, p2, hcons⟩ := (HD3.out).at m hmd
   have hmc := hcons.max
   rw [hm] at t1
   have hmi : (m : Int) < (ds.length : Int) := by omega
   obtain ⟨cl, hcl⟩ : ∃ cl, (ds.getD m d0).l.length = cl := ⟨_, rfl⟩
   rw [hcl] at p2 hmc
   have HCLN := As hcl
   have HFD := As hFD
   have HM := As hm
   have HQ := As hq
   clear hcons hcl hm hFD hn hn0 hn1 hn2 hq
   by_cases hge : cl ≤ nn
   ·have hgb : decide ((cl : Int) ≤ (nn : Int)) = true := decide_eq_true (by omega)
    have HF := As (show Tr.has ds ⟨5, (nn : Int), l⟩ t = false by
     rw [Tr.has, if_neg (by decide), if_neg (by decide), if_neg (by decide), if_neg (by decide), if_neg (by decide), if_pos rfl, HFD.out, HCLN.out, hgb]
     simp)
    go_upto_region 14 with fail
    go_quiet (fail)
    go_wp2
    go_ret
    exact RetB.mk HF.out (pw_below_drewN HB3.out _)
   ·have hgb : decide ((cl : Int) ≤ (nn : Int)) = false := decide_eq_false (by omega)
    have HEQ := As (show Tr.has ds ⟨5, (nn : Int), l⟩ t = (match fieldsP ds t (nn : Int) with | none => false | some fs => hasl ds l fs) by
     rw [Tr.has, if_neg (by decide), if_neg (by decide), if_neg (by decide), if_neg (by decide), if_neg (by decide), if_pos rfl, HFD.out, HCLN.out, hgb, hnb, hqb]
     rfl)
    go_upto_region 14 with fail
    go_quiet (fail)
    obtain ⟨W4, hW4⟩ : ∃ W4, W3.drewN nq = W4 := ⟨_, rfl⟩
    have hb4 : Below W3.heap.size W3 W4 := by rw [← hW4]; exact pw_below_drewN (Below.refl _ _) _
    replace a0 := pw_cell_below hb4 a0
    replace b0 := pw_cell_below hb4 b0
    replace b1 := pw_cell_below hb4 b1
    replace b2 := pw_cell_below hb4 b2
    replace t0 := pw_cell_below hb4 t0
    replace t1 := pw_cell_below hb4 t1
    replace t2 := pw_cell_below hb4 t2
    have HB4 := As (below_step HB3.out hb4)
    have HD4 := As (HD3.out.below hb4)
    have HX4 := As (HX3.out.below hb4)
    have HT4 := As (HT3.out.below hb4)
    have HOK4 := As (show ∀ k, W4.heap.size ≤ k → ok k from fun k hk => HOK3.out k (Nat.le_trans hb4.size hk))
    have HW4 := As hW4
    clear hW4 hb4 p0 p1 p2
    go_upto_region 16 with fail
    rw [HW4.out]
    have HT5 := As (show ITr 25 W4 ok (.agg #[.int .i64 t.k, .int .i64 (m : Int), .slice At t.l.length ct]) t by rw [← HM.out]; exact HT4.out)
    have HSZ := As (show szl t.l ≤ 1000000 by have h1 := (Tr.ok_iff.1 HTO.out).1; rw [t.sz_eq] at h1; omega)
    go_wp2_with fail
    with_reducible refine (fields_ty ds t (nn : Int) ok _ _ _ HOK4.out HD4.out HT5.out hv.small HSZ.out).mono ?_
    rintro e w5 ⟨hb5, hr⟩
    have HB5 := As (below_step HB4.out hb5)
    replace a0 := pw_cell_below hb5 a0
    replace b0 := pw_cell_below hb5 b0
    replace b1 := pw_cell_below hb5 b1
    replace b2 := pw_cell_below hb5 b2
    have HD5 := As (HD4.out.below hb5)
    have HX5 := As (HX4.out.below hb5)
    have HOK5 := As (show ∀ k, w5.heap.size ≤ k → ok k from fun k hk => HOK4.out k (Nat.le_trans hb5.size hk))
    clear hb5 t0 t1 t2
    rcases hr with ⟨hn, rfl⟩ | ⟨fs, vf, hsm, rfl, hlf⟩
    ·have HF := As (show Tr.has ds ⟨5, (nn : Int), l⟩ t = false by rw [HEQ.out, hn])
     clear hn
     go_wp2
     go_ret
     exact RetB.mk HF.out HB5.out
    ·have HF := As (show Tr.has ds ⟨5, (nn : Int), l⟩ t = hasl ds l fs by rw [HEQ.out, hsm])
     have HOF := As (ok_fields hv HTO.out hsm)
     have HLF := As hlf
     obtain ⟨Af, cf, rfl, _, _⟩ := hlf
     clear hsm
     go_wp2_with fail
     with_reducible refine (each_val2 ds ok l fs HAT.out _ _ _ _ HOK5.out HD5.out HX5.out HLF.out HOF.out).mono ?_
     rintro e w6 ⟨rfl, hb⟩
     have HB6 := As (below_step HB5.out hb)
     clear hb
     go_wp2
     go_ret
     exact RetB.mk HF.out HB6.out
 ·have hqb : (t.k == 5) = false := beq_eq_false_iff_ne.2 hq
  have hqn : (t.k != 5) = true := bne_iff_ne.2 hq
  have HF := As (show Tr.has ds ⟨5, n, l⟩ t = false by
   rw [Tr.has, if_neg (by decide), if_neg (by decide), if_neg (by decide), if_neg (by decide), if_neg (by decide), if_pos rfl, hqb]
   simp)
  clear hq
  go_upto_region 14 with fail
  go_quiet (fail)
  go_wp2
  go_ret
  exact RetB.mk HF.out (pw_below_drewN HB3.out _)
/-
  The contract of value.has, whole.
-/
set_option maxRecDepth 100000 in
set_option maxHeartbeats 8000000 in
theorem hasn_val (ds : List Dt) (hv : VD ds) (k n : Int) (l : List Tr) (t : Tr) (ok : Nat → Prop) (vd vt : Value) (A : Option Addr) (c : Nat) (w : World) (hh : HasAt ds ok l) (hok : ∀ k, w.heap.size ≤ k → ok k) (hd : LDt w ok vd ds) (hx : LTr 28 w ok (.slice A l.length c) l) (ht : ITr 25 w ok vt t) (hto : t.ok ds 0 = true) (h5 : ¬ k = 5) :
    Calls Tryz.prog 19 #[vd, .agg #[.int .i64 k, .int .i64 n, .slice A l.length c], vt] w (RetB (Tr.has ds ⟨k, n, l⟩ t) w) := by
  have hmxd := hd.max
  have hmx := hx.max
  obtain ⟨At, ct, rfl⟩ := ht.shape
  have hmt := (ht.kids.2.2.2).max
  have HTO := As hto
  have HAT := As hh
  clear hh
  have HD := As hd
  obtain ⟨D, dc, rfl, hdc, _⟩ := hd
  obtain ⟨W1, hW1⟩ : ∃ W1, w.alloc (.cells #[.slice D ds.length dc] 22) = W1 := ⟨_, rfl⟩
  obtain ⟨W2, hW2⟩ : ∃ W2, W1.alloc (.cells #[.int .i64 k, .int .i64 n, .slice A l.length c] 28) = W2 := ⟨_, rfl⟩
  obtain ⟨W3, hW3⟩ : ∃ W3, W2.alloc (.cells #[.int .i64 t.k, .int .i64 t.n, .slice At t.l.length ct] 25) = W3 := ⟨_, rfl⟩
  have hWW : ((w.alloc (.cells #[.slice D ds.length dc] 22)).alloc (.cells #[.int .i64 k, .int .i64 n, .slice A l.length c] 28)).alloc (.cells #[.int .i64 t.k, .int .i64 t.n, .slice At t.l.length ct] 25) = W3 := by rw [hW1, hW2]; exact hW3
  have hs1 : W1.heap.size = w.heap.size + 1 := by rw [← hW1]; show (w.heap.push _).size = _; simp
  have hs2 : W2.heap.size = w.heap.size + 1 + 1 := by rw [← hW2]; show (W1.heap.push _).size = _; simp; omega
  have hb1 : Below w.heap.size w W1 := by rw [← hW1]; exact below_alloc (Below.refl _ _) _
  have hb12 : Below W1.heap.size W1 W2 := by rw [← hW2]; exact below_alloc (Below.refl _ _) _
  have hb23 : Below W2.heap.size W2 W3 := by rw [← hW3]; exact below_alloc (Below.refl _ _) _
  have hg1 : W1.heap[w.heap.size]? = some (.cells #[.slice D ds.length dc] 22 (0, 0)) := by rw [← hW1]; exact heap_alloc_new _ _
  have hg2 : W2.heap[w.heap.size + 1]? = some (.cells #[.int .i64 k, .int .i64 n, .slice A l.length c] 28 (0, 0)) := by rw [← hs1, ← hW2]; exact heap_alloc_new _ _
  have hg3 : W3.heap[w.heap.size + 1 + 1]? = some (.cells #[.int .i64 t.k, .int .i64 t.n, .slice At t.l.length ct] 25 (0, 0)) := by rw [← hs2, ← hW3]; exact heap_alloc_new _ _
  have hG1 := blk_below hg1 (below_step hb12 hb23)
  have hG2 := blk_below hg2 hb23
  have a0 : W3.cell? ⟨w.heap.size, 0, none⟩ = some (.slice D ds.length dc) := (blk_cell hG1 0).trans rfl
  have b0 : W3.cell? ⟨w.heap.size + 1, 0, none⟩ = some (.int .i64 k) := (blk_cell hG2 0).trans rfl
  have b1 : W3.cell? ⟨w.heap.size + 1, 1, none⟩ = some (.int .i64 n) := (blk_cell hG2 1).trans rfl
  have b2 : W3.cell? ⟨w.heap.size + 1, 2, none⟩ = some (.slice A l.length c) := (blk_cell hG2 2).trans rfl
  have t0 : W3.cell? ⟨w.heap.size + 1 + 1, 0, none⟩ = some (.int .i64 t.k) := (blk_cell hg3 0).trans rfl
  have t1 : W3.cell? ⟨w.heap.size + 1 + 1, 1, none⟩ = some (.int .i64 t.n) := (blk_cell hg3 1).trans rfl
  have t2 : W3.cell? ⟨w.heap.size + 1 + 1, 2, none⟩ = some (.slice At t.l.length ct) := (blk_cell hg3 2).trans rfl
  have hb3 := below_step (below_step hb1 hb12) hb23
  have HWW := As hWW
  have HB3 := As hb3
  have HG1 := As hG1
  have HG3 := As hg3
  have HD3 := As (HD.out.below hb3)
  have HX3 := As (hx.below hb3)
  have HT3 := As (ht.below hb3)
  have HOK3 := As (show ∀ k, W3.heap.size ≤ k → ok k from fun k hk => hok k (Nat.le_trans hb3.size hk))
  clear hWW hW1 hW2 hW3 hs1 hs2 hb1 hb12 hb23 hg1 hg2 hg3 hG1 hG2 hb3 hx ht hok hto
  obtain ⟨e0, he0⟩ : ∃ e0, ((l.length : Int) == 0) = e0 := ⟨_, rfl⟩
  obtain ⟨f0, hf0⟩ : ∃ f0, (n == 0) = f0 := ⟨_, rfl⟩
  go_enter Tryz.func19, Tryz.ntmps19
  go_upto_region 1 with fail
  rw [HWW.out]
  by_cases h1 : k = 1
  · subst h1
    obtain ⟨q, hq⟩ : ∃ q, (t.k == 3) = q := ⟨_, rfl⟩
    have HEQ := As (show Tr.has ds ⟨1, n, l⟩ t = (q && f0 && e0) by rw [Tr.has, if_pos rfl, hq, he0, hf0])
    cases q <;> cases f0 <;> cases e0
    all_goals
      (go_wp2
       go_ret
       exact RetB.mk (by rw [HEQ.out]; simp) HB3.out)
  by_cases h2 : k = 2
  · subst h2
    obtain ⟨q, hq⟩ : ∃ q, (t.k == 2) = q := ⟨_, rfl⟩
    obtain ⟨f1, hf1⟩ : ∃ f1, (n == 1) = f1 := ⟨_, rfl⟩
    have HEQ := As (show Tr.has ds ⟨2, n, l⟩ t = (q && (f0 || f1) && e0) by rw [Tr.has, if_neg (by decide), if_pos rfl, hq, he0, hf0, hf1])
    clear h1
    cases q <;> cases f0 <;> cases f1 <;> cases e0
    all_goals
      (go_wp2
       go_ret
       exact RetB.mk (by rw [HEQ.out]; simp) HB3.out)
  by_cases h3 : k = 3
  · subst h3
    obtain ⟨q, hq⟩ : ∃ q, (t.k == 1) = q := ⟨_, rfl⟩
    obtain ⟨f1, hf1⟩ : ∃ f1, decide (-1099511627776 ≤ n) = f1 := ⟨_, rfl⟩
    obtain ⟨f2, hf2⟩ : ∃ f2, decide (n ≤ 1099511627776) = f2 := ⟨_, rfl⟩
    have HEQ := As (show Tr.has ds ⟨3, n, l⟩ t = (q && f1 && f2 && e0) by rw [Tr.has, if_neg (by decide), if_neg (by decide), if_pos rfl, hq, he0, hf1, hf2])
    clear h1 h2 hf0
    cases q <;> cases f1 <;> cases f2 <;> cases e0
    all_goals
      (go_wp2
       go_ret
       exact RetB.mk (by rw [HEQ.out]; simp) HB3.out)
  by_cases h8 : k = 8
  · subst h8
    obtain ⟨q, hq⟩ : ∃ q, (t.k == 9) = q := ⟨_, rfl⟩
    obtain ⟨f1, hf1⟩ : ∃ f1, decide (0 ≤ n) = f1 := ⟨_, rfl⟩
    obtain ⟨f2, hf2⟩ : ∃ f2, decide (n < 64) = f2 := ⟨_, rfl⟩
    have HEQ := As (show Tr.has ds ⟨8, n, l⟩ t = (q && f1 && f2 && e0) by rw [Tr.has, if_neg (by decide), if_neg (by decide), if_neg (by decide), if_pos rfl, hq, he0, hf1, hf2])
    clear h1 h2 h3 hf0
    cases q <;> cases f1 <;> cases f2 <;> cases e0
    all_goals
      (go_wp2
       go_ret
       exact RetB.mk (by rw [HEQ.out]; simp) HB3.out)
  by_cases h4 : k = 4
  · subst h4
    obtain ⟨q, hq⟩ : ∃ q, (t.k == 6) = q := ⟨_, rfl⟩
    obtain ⟨u, hu⟩ : ∃ u, hasl ds l t.l = u := ⟨_, rfl⟩
    have HU := As hu
    have HEQ := As (show Tr.has ds ⟨4, n, l⟩ t = (q && f0 && u) by rw [Tr.has, if_neg (by decide), if_neg (by decide), if_neg (by decide), if_neg (by decide), if_pos rfl, hq, hf0, hu])
    clear h1 h2 h3 h8 hu he0
    cases q <;> cases f0
    all_goals
      (try (go_wp2_with fail
            with_reducible refine (each_val2 ds ok l t.l HAT.out _ _ _ _ HOK3.out HD3.out HX3.out HT3.out.kids.2.2.2 (fun i hi => ok_kid HTO.out hi)).mono ?_
            rintro e w3 ⟨rfl, hb⟩
            have HB3 := As (below_step HB3.out hb)
            rw [HU.out]
            clear hb)
       go_wp2
       go_ret
       exact RetB.mk (by rw [HEQ.out]; simp) HB3.out)
  by_cases h7 : k = 7
  · subst h7
    obtain ⟨q, hq⟩ : ∃ q, (t.k == 8) = q := ⟨_, rfl⟩
    obtain ⟨u, hu⟩ : ∃ u, hasl ds l t.l = u := ⟨_, rfl⟩
    have HU := As hu
    have HEQ := As (show Tr.has ds ⟨7, n, l⟩ t = (q && f0 && u) by rw [Tr.has, if_neg (by decide), if_neg (by decide), if_neg (by decide), if_neg (by decide), if_neg (by decide), if_neg (by decide), if_neg (by decide), if_pos rfl, hq, hf0, hu])
    clear h1 h2 h3 h8 h4 hu he0
    cases q <;> cases f0
    all_goals
      (try (go_wp2_with fail
            with_reducible refine (each_val2 ds ok l t.l HAT.out _ _ _ _ HOK3.out HD3.out HX3.out HT3.out.kids.2.2.2 (fun i hi => ok_kid HTO.out hi)).mono ?_
            rintro e w3 ⟨rfl, hb⟩
            have HB3 := As (below_step HB3.out hb)
            rw [HU.out]
            clear hb)
       go_wp2
       go_ret
       exact RetB.mk (by rw [HEQ.out]; simp) HB3.out)
  by_cases h6 : k = 6
  · subst h6
    obtain ⟨u, hu⟩ : ∃ u, l.any (fun x => !(x.has ds (t.l.getD 0 z0))) = u := ⟨_, rfl⟩
    have HU := As hu
    obtain ⟨q, hq⟩ : ∃ q, (t.k == 7) = q := ⟨_, rfl⟩
    obtain ⟨g, hg⟩ : ∃ g, decide (4096 < (l.length : Int)) = g := ⟨_, rfl⟩
    have HEQ := As (show Tr.has ds ⟨6, n, l⟩ t = (q && f0 && !g && !u) by rw [Tr.has, if_neg (by decide), if_neg (by decide), if_neg (by decide), if_neg (by decide), if_neg (by decide), if_neg (by decide), if_pos rfl, hq, hf0, hg, hasa_any, hu])
    clear h1 h2 h3 h8 h4 h7 hu he0
    have hqn : (t.k != 7) = !q := by rw [← hq]; rfl
    have hfn : (n != 0) = !f0 := by rw [← hf0]; rfl
    by_cases hall : q = true ∧ f0 = true ∧ g = false
    · obtain ⟨rfl, rfl, rfl⟩ := hall
      have htl := vld_one (Tr.ok_iff.1 HTO.out).2 (by simpa using hq)
      have HCL := As (has1_val ds ok l HAT.out t w.heap.size D At dc ct W3 HOK3.out HD3.out HT3.out.kids.2.2.2 (by omega) (ok_kid HTO.out (by omega)) HG1.out HG3.out)
      clear htl
      go_wp2_with fail
      with_reducible refine (contains_has (fun x => !(x.has ds (t.l.getD 0 z0))) ok _ _ _ l _ HX3.out HCL.out).mono ?_
      rintro e w3 ⟨rfl, hb⟩
      have HB3 := As (below_step HB3.out hb)
      rw [HU.out]
      clear hb
      go_wp2
      go_ret
      exact RetB.mk (by rw [HEQ.out]; simp) HB3.out
    · have HF := As (show Tr.has ds ⟨6, n, l⟩ t = false by
        rw [HEQ.out]
        cases q <;> cases f0 <;> cases g <;> simp_all)
      cases q <;> cases f0 <;> cases g
      all_goals
        (first
          | (exact absurd ⟨rfl, rfl, rfl⟩ hall)
          | (clear hall
             go_wp2
             go_ret
             exact RetB.mk HF.out HB3.out))
  have hk1 : (k == 1) = false := beq_eq_false_iff_ne.2 h1
  have hk2 : (k == 2) = false := beq_eq_false_iff_ne.2 h2
  have hk3 : (k == 3) = false := beq_eq_false_iff_ne.2 h3
  have hk4 : (k == 4) = false := beq_eq_false_iff_ne.2 h4
  have hk5 : (k == 5) = false := beq_eq_false_iff_ne.2 h5
  have hk6 : (k == 6) = false := beq_eq_false_iff_ne.2 h6
  have hk7 : (k == 7) = false := beq_eq_false_iff_ne.2 h7
  have hk8 : (k == 8) = false := beq_eq_false_iff_ne.2 h8
  have HF := As (show Tr.has ds ⟨k, n, l⟩ t = false by
    rw [Tr.has, if_neg h1, if_neg h2, if_neg h3, if_neg h8, if_neg h4, if_neg h5, if_neg h6, if_neg h7])
  clear h1 h2 h3 h4 h5 h6 h7 h8
  go_wp2
  go_ret
  exact RetB.mk HF.out HB3.out
theorem has_val (ds : List Dt) (hv : VD ds) (N : Nat) : ∀ (x t : Tr) (ok : Nat → Prop) (vd v vt : Value) (w : World), x.sz ≤ N → (∀ k, w.heap.size ≤ k → ok k) → LDt w ok vd ds → ITr 28 w ok v x → ITr 25 w ok vt t → t.ok ds 0 = true →
  Calls Tryz.prog 19 #[vd, v, vt] w (RetB (x.has ds t) w) := by
 induction N with
 | zero => intro x t ok vd v vt w h; have := x.sz_eq; omega
 | succ N ih =>
  intro x t ok vd v vt w hN hok hd hx ht hto
  obtain ⟨A, c, rfl⟩ := hx.shape
  have hh : HasAt ds ok x.l := fun y s vd v vt w hm hok hd hx ht hto => ih y s ok vd v vt w (by
   obtain ⟨i, hi, rfl⟩ := List.mem_iff_getElem.1 hm
   have h1 := kid_sz hi
   rw [List.getD_eq_getElem?_getD, List.getElem?_eq_getElem hi] at h1
   simp at h1
   omega) hok hd hx ht hto
  have h : Calls Tryz.prog 19 #[vd, .agg #[.int .i64 x.k, .int .i64 x.n, .slice A x.l.length c], vt] w (RetB (Tr.has ds ⟨x.k, x.n, x.l⟩ t) w) := by
   by_cases h5 : x.k = 5
   ·exact has5_val ds hv x.k x.n x.l t ok vd vt A c w hh hok hd hx.kids.2.2.2 ht hto h5
   ·exact hasn_val ds hv x.k x.n x.l t ok vd vt A c w hh hok hd hx.kids.2.2.2 ht hto h5
  cases x
  exact h
end Go.Proofs.YtldkcpgnccknpaaGreat
