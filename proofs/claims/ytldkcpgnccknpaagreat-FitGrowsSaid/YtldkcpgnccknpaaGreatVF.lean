/-
  The parts CoA, CoB: the contracts of the program's functions and the plain laws below them; each part's own remark says which.
-/
import Derived.Test.YtldkcpgnccknpaaGreatVE
import Derived.Test.YtldkcpgnccknpaaGreatVD
import Derived.Carry
import Derived.Deep.RegionHeld3
set_option linter.unusedVariables false
set_option linter.unusedSimpArgs false
/-
  A valid list of data types: the plain law.
-/
namespace Go.Proofs.YtldkcpgnccknpaaGreat
open Go.RowKit Go.Proofs.YtldkcpgnccknpaaGreatW.PrintWords Go.Proofs.YtldkcpgnccknpaaGreatW.PrintMore Go.Proofs.YtldkcpgnccknpaaGreatW.PrintLast
set_option linter.unusedVariables false
def namesOf (ds : List Dt) : List ByteArray := ds.map Dt.s
def consOf : List Dt → List ByteArray
 | [] => []
 | d :: ds => d.l.map Cn.s ++ consOf ds
/-- The constructors' names ahead of the k-th one of the i-th data type. -/
def befC (ds : List Dt) (i k : Nat) : List ByteArray := consOf (ds.take i) ++ (((ds.getD i d0).l.take k).map Cn.s)
def argP (ds : List Dt) (i : Nat) (a : Tr) : Prop := a.ok (ds.take (i + 1)) (ds.getD i d0).n = true ∧ (recB i (ds.getD i d0).n a = true ∨ a.ment (i : Int) = false)
def conP (ds : List Dt) (i k : Nat) : Prop := upB ((ds.getD i d0).l.getD k c0).s = true ∧ memB ((ds.getD i d0).l.getD k c0).s (befC ds i k) = false ∧ ((ds.getD i d0).l.getD k c0).l.length ≤ 6 ∧ ∀ m, m < ((ds.getD i d0).l.getD k c0).l.length → argP ds i (((ds.getD i d0).l.getD k c0).l.getD m z0)
def datP (ds : List Dt) (i : Nat) : Prop := upB (ds.getD i d0).s = true ∧ memB (ds.getD i d0).s (namesOf (ds.take i)) = false ∧ 0 ≤ (ds.getD i d0).n ∧ (ds.getD i d0).n ≤ 6 ∧ 1 ≤ (ds.getD i d0).l.length ∧ (ds.getD i d0).l.length ≤ 8 ∧ ∀ k, k < (ds.getD i d0).l.length → conP ds i k
def VDat (ds : List Dt) : Prop := ds.length ≤ 12 ∧ ∀ i, i < ds.length → datP ds i
open Classical in
noncomputable def vdB (ds : List Dt) : Bool := decide (VDat ds)
theorem vdB_iff (ds : List Dt) : vdB ds = true ↔ VDat ds := by
 unfold vdB
 simp
theorem vdB_not {ds : List Dt} (h : ¬ VDat ds) : vdB ds = false := by
 rw [Bool.eq_false_iff]
 exact fun h1 => h ((vdB_iff ds).1 h1)
theorem VDat.vd {ds : List Dt} (h : VDat ds) : VD ds where
 args := fun i j m hi hj hm => by
  have h1 := ((h.2 i hi).2.2.2.2.2.2 j hj).2.2.2 m hm
  have h2 := Tr.ok_iff.1 h1.1
  exact Tr.ok_iff.2 ⟨h2.1, vld_mono _ _ (Nat.le_refl _) h2.2⟩
 len := fun i j => by
  by_cases hi : i < ds.length
  ·by_cases hj : j < (ds.getD i d0).l.length
   ·have h1 := ((h.2 i hi).2.2.2.2.2.2 j hj).2.2.1
    omega
   ·rw [getD_out hj]; decide
  ·rw [getD_out hi, show d0.l.getD j c0 = c0 from rfl]; decide
theorem take_snoc {α : Type} (l : List α) (z : α) {i : Nat} (hi : i < l.length) : l.take (i + 1) = l.take i ++ [l.getD i z] := by
 rw [List.take_add_one, List.getD_eq_getElem?_getD, List.getElem?_eq_getElem hi]
 rfl
theorem consOf_append : ∀ a b : List Dt, consOf (a ++ b) = consOf a ++ consOf b
 | [], b => rfl
 | d :: a, b => by
  show d.l.map Cn.s ++ consOf (a ++ b) = (d.l.map Cn.s ++ consOf a) ++ consOf b
  rw [consOf_append a b, List.append_assoc]
theorem befC_zero (ds : List Dt) (i : Nat) : befC ds i 0 = consOf (ds.take i) := by
 unfold befC
 simp
theorem befC_step (ds : List Dt) (i k : Nat) (hk : k < (ds.getD i d0).l.length) : befC ds i k ++ [((ds.getD i d0).l.getD k c0).s] = befC ds i (k + 1) := by
 unfold befC
 rw [take_snoc _ c0 hk, List.map_append, List.append_assoc]
 rfl
theorem befC_end (ds : List Dt) (i : Nat) (hi : i < ds.length) : befC ds i (ds.getD i d0).l.length = befC ds (i + 1) 0 := by
 rw [befC_zero, take_snoc ds d0 hi, consOf_append]
 unfold befC
 rw [List.take_length]
 show _ = _ ++ (_ ++ [])
 rw [List.append_nil]
theorem names_step (ds : List Dt) (i : Nat) (hi : i < ds.length) : namesOf (ds.take i) ++ [(ds.getD i d0).s] = namesOf (ds.take (i + 1)) := by
 unfold namesOf
 rw [take_snoc ds d0 hi, List.map_append]
 rfl
theorem befC_len {ds : List Dt} {i k : Nat} (h : ∀ j, j < i → (ds.getD j d0).l.length ≤ 8) (hi : i ≤ 12) (hk : k ≤ 8) : (befC ds i k).length ≤ 1000000 := by
 have key : ∀ (n : Nat), n ≤ i → (consOf (ds.take n)).length ≤ n * 8 := by
  intro n
  induction n with
  | zero => intro _; simp [consOf]
  | succ n ih =>
   intro hn
   by_cases hl : n < ds.length
   ·rw [take_snoc ds d0 hl, consOf_append, List.length_append]
    have h1 := ih (by omega)
    have h2 := h n (by omega)
    have h3 : (consOf [ds.getD n d0]).length = (ds.getD n d0).l.length := by simp [consOf]
    omega
   ·have h1 := ih (by omega)
    rw [List.take_of_length_le (by omega)] at h1 ⊢
    omega
 unfold befC
 rw [List.length_append, List.length_map, List.length_take]
 have := key i (Nat.le_refl _)
 omega
/-
  The contract of core.validData.
-/
theorem info_dt : (Tryz.prog.info? 68).map (fun i => i.size) = some 3 := by kernel_rfl
theorem LCn.hop {w w0 w1 : World} {ok : Nat → Prop} {v : Value} {xs : List Cn} (h : LCn w (fun k => ok k ∧ k < w0.heap.size) v xs) (h0 : Below w0.heap.size w0 w) (h1 : Below w0.heap.size w0 w1) : LCn w1 (fun k => ok k ∧ k < w0.heap.size) v xs := by
 obtain ⟨A, c, e, hc, hF⟩ := h
 exact ⟨A, c, e, hc, Kd.F_step hF (fun k hk _ => (h1.block k hk.2).trans (h0.block k hk.2).symm)⟩
theorem LTr.hop {T : TypeId} {w w0 w1 : World} {ok : Nat → Prop} {v : Value} {xs : List Tr} (h : LTr T w (fun k => ok k ∧ k < w0.heap.size) v xs) (h0 : Below w0.heap.size w0 w) (h1 : Below w0.heap.size w0 w1) : LTr T w1 (fun k => ok k ∧ k < w0.heap.size) v xs :=
 h.step (fun k hk _ => (h1.block k hk.2).trans (h0.block k hk.2).symm)
theorem LDt.take {w : World} {ok : Nat → Prop} {A : Option Addr} {m c : Nat} {xs : List Dt} (h : LDt w ok (.slice A m c) xs) {n : Nat} (hn : n ≤ xs.length) : LDt w ok (.slice A n c) (xs.take n) := by
 obtain ⟨A', c', e, hc, hF⟩ := h
 simp at e
 obtain ⟨rfl, rfl, rfl⟩ := e
 have hl : (xs.take n).length = n := by rw [List.length_take]; omega
 exact ⟨A, c, by rw [hl], by omega, Kd.F_take hF hn⟩
set_option maxRecDepth 100000 in
set_option maxHeartbeats 8000000 in
theorem validData_fn (ds : List Dt) (ok : Nat → Prop) (vd : Value) (w : World) (hd : LDt w ok vd ds) : Calls Tryz.prog 59 #[vd] w (RetB (vdB ds) w) := by
 have hmx := hd.max
 have HD := As (hd.mono (ok' := fun _ => True) (fun _ _ => trivial))
 obtain ⟨A, c, rfl, hc, _⟩ := hd
 have HB0 := As (Below.refl w.heap.size w)
 by_cases hlen : 12 < ds.length
 ·have h1 : decide ((12 : Int) < (ds.length : Int)) = true := decide_eq_true (by omega)
  have h2 : decide (12 < ds.length) = true := decide_eq_true hlen
  have HF := As (vdB_not (ds := ds) (fun h => by have := h.1; omega))
  clear hlen
  go_enter Tryz.func59, Tryz.ntmps59
  go_wp2
  go_ret
  exact RetB.mk HF.out HB0.out
 have h1 : decide ((12 : Int) < (ds.length : Int)) = false := decide_eq_false (by omega)
 have h2 : decide (12 < ds.length) = false := decide_eq_false hlen
 obtain ⟨b1, hb1⟩ : ∃ b1, b1 = w.heap.size := ⟨_, rfl⟩
 obtain ⟨W1, hW1⟩ : ∃ W1, w.alloc (.map #[] 0) = W1 := ⟨_, rfl⟩
 obtain ⟨b2, hb2⟩ : ∃ b2, b2 = w.heap.size + 1 := ⟨_, rfl⟩
 obtain ⟨W2, hW2⟩ : ∃ W2, W1.alloc (.map #[] 0) = W2 := ⟨_, rfl⟩
 have hw1 : Below w.heap.size w W1 := by rw [← hW1]; exact below_alloc (Below.refl _ _) _
 have hw2 : Below W1.heap.size W1 W2 := by rw [← hW2]; exact below_alloc (Below.refl _ _) _
 have hs1 : W1.heap.size = w.heap.size + 1 := by rw [← hW1]; show (w.heap.push _).size = _; simp
 have m1 : MSet W1 b1 [] := by rw [hb1, ← hW1]; exact MSet.made w
 have HM1 := As (m1.below hw2)
 have HM2 := As (show MSet W2 b2 [] by rw [hb2, ← hs1, ← hW2]; exact MSet.made W1)
 have HB2 := As (below_step hw1 hw2)
 have HBB := As (show w.heap.size ≤ b1 ∧ b1 < b2 by omega)
 have HW2 := As (show (w.alloc (.map #[] 0)).alloc (.map #[] 0) = W2 by rw [hW1]; exact hW2)
 have HB1E := As hb1
 have HB2E := As hb2
 have hmm := @run_makeMap Tryz.prog
 clear hW1 hW2 hw1 hw2 hs1 m1 hb1 hb2
 go_enter Tryz.func59, Tryz.ntmps59
 go_upto_region 4 with fail
 rw [HW2.out, ← HB2E.out, ← HB1E.out]
 clear hmm HW2 HB2E HB1E
 go_wp2
 go_loopw [19] (fun v19 wr => ∃ i : Nat, v19 = .int .i64 i ∧ i ≤ ds.length ∧ Aside0 (∀ j, j < i → datP ds j) ∧ Aside0 (MSet wr b1 (namesOf (ds.take i))) ∧ Aside0 (MSet wr b2 (befC ds i 0)) ∧ Aside0 (Below w.heap.size w wr)) (fun v19 _ => ds.length - (intOf v19).toNat)
 case atStart => exact ⟨0, rfl, Nat.zero_le _, ⟨fun j h => absurd h (Nat.not_lt_zero j)⟩, HM1, HM2, HB2⟩
 case round =>
  clear HM1 HM2 HB2
  obtain ⟨i, rfl, hi, HA, HM1, HM2, HB⟩ := hrel
  obtain ⟨wo, hwo⟩ : ∃ wo, wo = wr := ⟨wr, rfl⟩
  subst hwo
  by_cases hlt : i < ds.length
  ·have hlb : decide ((i : Int) < (ds.length : Int)) = true := decide_eq_true (by omega)
   have HLT := As hlt
   obtain ⟨b, o, A1, c1, rfl, p0, p1, p2, hcons⟩ := (HD.out.old HB.out).at i hlt
   obtain ⟨dt, hdt⟩ : ∃ dt, ds.getD i d0 = dt := ⟨_, rfl⟩
   rw [hdt] at p0 p1 p2 hcons
   have hmc := hcons.max
   obtain ⟨nc, hnc⟩ : ∃ nc, dt.l.length = nc := ⟨_, rfl⟩
   rw [hnc] at p2 hmc hcons
   have HC := As hcons
   have HDT := As hdt
   have HNC := As hnc
   have HDP := As (show VDat ds → (upB dt.s = true ∧ memB dt.s (namesOf (ds.take i)) = false ∧ 0 ≤ dt.n ∧ dt.n ≤ 6 ∧ 1 ≤ nc ∧ nc ≤ 8 ∧ ∀ k, k < nc → conP ds i k) from fun h => by have h1 := h.2 i hlt; unfold datP at h1; rw [hdt, hnc] at h1; exact h1)
   have HDQ := As (show (upB dt.s = true ∧ memB dt.s (namesOf (ds.take i)) = false ∧ 0 ≤ dt.n ∧ dt.n ≤ 6 ∧ 1 ≤ nc ∧ nc ≤ 8 ∧ ∀ k, k < nc → conP ds i k) → datP ds i from fun h => by unfold datP; rw [hdt, hnc]; exact h)
   obtain ⟨gd, hgd⟩ : ∃ gd, gd = wo.heap.size := ⟨_, rfl⟩
   obtain ⟨W3, hW3⟩ : ∃ W3, wo.alloc (.cells #[.string dt.s, .int .i64 dt.n, .slice A1 nc c1] 68) = W3 := ⟨_, rfl⟩
   have hb3 : Below wo.heap.size wo W3 := by rw [← hW3]; exact below_alloc (Below.refl _ _) _
   have hg3 : W3.heap[gd]? = some (.cells #[.string dt.s, .int .i64 dt.n, .slice A1 nc c1] 68 (0, 0)) := by rw [hgd, ← hW3]; exact heap_alloc_new _ _
   have x0 : W3.cell? ⟨gd, 0, none⟩ = some (.string dt.s) := (blk_cell hg3 0).trans rfl
   have x1 : W3.cell? ⟨gd, 1, none⟩ = some (.int .i64 dt.n) := (blk_cell hg3 1).trans rfl
   have x2 : W3.cell? ⟨gd, 2, none⟩ = some (.slice A1 nc c1) := (blk_cell hg3 2).trans rfl
   have HB3 := As (below_step HB.out hb3)
   have HM3 := As (HM1.out.below hb3)
   have HN3 := As (HM2.out.below hb3)
   have HG3 := As hg3
   have HW3 := As hW3
   have HGD := As hgd
   have HGL := As (show b2 < gd by rw [hgd]; exact HM2.out.lt)
   clear hdt hnc hW3 hgd hb3 hg3 hcons HM1 HM2
   go_upto_region 7 with fail
   rw [HW3.out, ← HGD.out]
   go_wp2_with fail
   with_reducible refine (upper_fn dt.s _).mono ?_
   rintro e4 w4 ⟨rfl, hb⟩
   replace x0 := pw_cell_below hb x0
   replace x1 := pw_cell_below hb x1
   replace x2 := pw_cell_below hb x2
   have HB4 := As (below_step HB3.out hb)
   have HM4 := As (HM3.out.below hb)
   have HN4 := As (HN3.out.below hb)
   have HG4 := As (blk_below HG3.out hb)
   clear hb HB3 HM3 HN3 HG3 HW3 p0 p1 p2
   obtain ⟨q1, hq1⟩ : ∃ q, upB dt.s = q := ⟨_, rfl⟩
   rw [hq1]
   have HQ1 := As hq1
   clear hq1
   cases q1 with
   | false =>
    have HF := As (vdB_not (ds := ds) (fun h => by have h1 := (HDP.out h).1; rw [HQ1.out] at h1; cases h1))
    go_wp2
    go_ret
    exact RetB.mk HF.out HB4.out
   | true =>
    have HSZ := As (show dt.s.size ≤ 24 from ((upB_iff _).1 HQ1.out).2.1)
    have hlk := HM4.out.look dt.s HSZ.out
    obtain ⟨q2, hq2⟩ : ∃ q, memB dt.s (namesOf (ds.take i)) = q := ⟨_, rfl⟩
    rw [hq2] at hlk
    have HQ2 := As hq2
    clear hq2
    cases q2 with
    | true =>
     have HF := As (vdB_not (ds := ds) (fun h => by have h1 := (HDP.out h).2.1; rw [HQ2.out] at h1; cases h1))
     go_wp2
     go_ret
     exact RetB.mk HF.out HB4.out
    | false =>
     obtain ⟨q3, hq3⟩ : ∃ q, decide (dt.n < 0) = q := ⟨_, rfl⟩
     have HQ3 := As hq3
     obtain ⟨q4, hq4⟩ : ∃ q, decide (6 < dt.n) = q := ⟨_, rfl⟩
     have HQ4 := As hq4
     cases q3 with
     | true =>
      have HF := As (vdB_not (ds := ds) (fun h => by have h1 := (HDP.out h).2.2.1; have := of_decide_eq_true HQ3.out; omega))
      go_wp2
      go_ret
      exact RetB.mk HF.out HB4.out
     | false =>
      cases q4 with
      | true =>
       have HF := As (vdB_not (ds := ds) (fun h => by have h1 := (HDP.out h).2.2.2.1; have := of_decide_eq_true HQ4.out; omega))
       go_wp2
       go_ret
       exact RetB.mk HF.out HB4.out
      | false =>
       by_cases hq5 : nc < 1
       ·have HF := As (vdB_not (ds := ds) (fun h => by have h1 := (HDP.out h).2.2.2.2.1; omega))
        have h5 : nc = 0 := by omega
        subst h5
        go_wp2
        go_ret
        exact RetB.mk HF.out HB4.out
       ·have hq5i : decide ((nc : Int) < 1) = false := decide_eq_false (by omega)
        have hq5n : nc ≠ 0 := by omega
        by_cases hq6 : 8 < nc
        ·have hq6i : decide ((8 : Int) < (nc : Int)) = true := decide_eq_true (by omega)
         have HF := As (vdB_not (ds := ds) (fun h => by have h1 := (HDP.out h).2.2.2.2.2.1; omega))
         go_wp2
         go_ret
         exact RetB.mk HF.out HB4.out
        ·have hq6i : decide ((8 : Int) < (nc : Int)) = false := decide_eq_false (by omega)
         have HDR := As (show (∀ k, k < nc → conP ds i k) → datP ds i from fun h => HDQ.out ⟨HQ1.out, HQ2.out, by have := of_decide_eq_false HQ3.out; omega, by have := of_decide_eq_false HQ4.out; omega, by omega, by omega, h⟩)
         have HDC := As (show VDat ds → ∀ k, k < nc → conP ds i k from fun h => (HDP.out h).2.2.2.2.2.2)
         have HNL := As (show (namesOf (ds.take i)).length ≤ 1000000 by unfold namesOf; rw [List.length_map, List.length_take]; omega)
         have HNS := As (show namesOf (ds.take i) ++ [dt.s] = namesOf (ds.take (i + 1)) by rw [← HDT.out]; exact names_step ds i HLT.out)
         have HN8 := As (show nc ≤ 8 by omega)
         have hq6n : decide (8 < nc) = false := decide_eq_false hq6
         clear hq6 hq5 HDP HDQ
         go_wp2_with (at_mapUpdate; refine ms_put (w0 := w) rfl _ _ _ rfl b1 (namesOf (ds.take i)) dt.s rfl rfl rfl HSZ.out HNL.out HM4.out HBB.out.1 HB4.out ?_; intro w5 hm_ hb_ hg_; rw [HNS.out] at hm_; have HM5 := As hm_; have HB5 := As hb_; have HN5 := As (HN4.out.step (hg_.block b2 HN4.out.lt (by have := HBB.out.2; simp; omega))); have HG5 := As ((hg_.block gd (blk_lt HG4.out) (by have := HBB.out.2; have := HGL.out; simp; omega)).trans HG4.out); (have x2 : w5.cell? ⟨gd, 2, none⟩ = some (.slice A1 nc c1) := (blk_cell HG5.out 2).trans rfl); clear hm_ hb_ hg_ HM4 HN4 HB4 HG4)
         go_loopw [62] (fun v62 wk => ∃ k : Nat, v62 = .int .i64 k ∧ k ≤ nc ∧ Aside0 (∀ m, m < k → conP ds i m) ∧ Aside0 (MSet wk b1 (namesOf (ds.take (i + 1)))) ∧ Aside0 (MSet wk b2 (befC ds i k)) ∧ Aside0 (wk.heap[gd]? = some (.cells #[.string dt.s, .int .i64 dt.n, .slice A1 nc c1] 68 (0, 0))) ∧ Aside0 (Below w.heap.size w wk)) (fun v62 _ => nc - (intOf v62).toNat)
         case atStart => exact ⟨0, rfl, Nat.zero_le _, ⟨fun j h => absurd h (Nat.not_lt_zero j)⟩, HM5, HN5, HG5, HB5⟩
         case round =>
          clear HM5 HN5 HG5 HB5 x2
          obtain ⟨k, rfl, hk, HCA, HM5, HN5, HG5, HB5⟩ := hrel
          obtain ⟨wk, hwk⟩ : ∃ wk, wk = wr := ⟨wr, rfl⟩
          subst hwk
          by_cases hkl : k < nc
          ·have hkb : decide ((k : Int) < (nc : Int)) = true := decide_eq_true (by omega)
           obtain ⟨cb, co, A2, c2, rfl, g0, g1, hargs⟩ := (HC.out.hop HB.out HB5.out).at k (by rw [HNC.out]; exact hkl)
           obtain ⟨ct, hct⟩ : ∃ ct, dt.l.getD k c0 = ct := ⟨_, rfl⟩
           rw [hct] at g0 g1 hargs
           have hma := hargs.max
           obtain ⟨na, hna⟩ : ∃ na, ct.l.length = na := ⟨_, rfl⟩
           rw [hna] at g1 hma hargs
           have HA2 := As hargs
           have HCT := As hct
           have HNA := As hna
           have HCP := As (show conP ds i k ↔ (upB ct.s = true ∧ memB ct.s (befC ds i k) = false ∧ na ≤ 6 ∧ ∀ m, m < na → argP ds i (ct.l.getD m z0)) by unfold conP; rw [HDT.out, hct, hna])
           obtain ⟨gc, hgc⟩ : ∃ gc, gc = wk.heap.size := ⟨_, rfl⟩
           obtain ⟨W6, hW6⟩ : ∃ W6, wk.alloc (.cells #[.string ct.s, .slice A2 na c2] 117) = W6 := ⟨_, rfl⟩
           have hb6 : Below wk.heap.size wk W6 := by rw [← hW6]; exact below_alloc (Below.refl _ _) _
           have hg6 : W6.heap[gc]? = some (.cells #[.string ct.s, .slice A2 na c2] 117 (0, 0)) := by rw [hgc, ← hW6]; exact heap_alloc_new _ _
           have y0 : W6.cell? ⟨gc, 0, none⟩ = some (.string ct.s) := (blk_cell hg6 0).trans rfl
           have y1 : W6.cell? ⟨gc, 1, none⟩ = some (.slice A2 na c2) := (blk_cell hg6 1).trans rfl
           have HB6 := As (below_step HB5.out hb6)
           have HM6 := As (HM5.out.below hb6)
           have HN6 := As (HN5.out.below hb6)
           have HG6 := As (blk_below HG5.out hb6)
           have HH6 := As hg6
           have HW6 := As hW6
           have HGC := As hgc
           have HGCL := As (show b2 < gc by rw [hgc]; exact HN5.out.lt)
           clear hct hna hW6 hgc hb6 hg6 hargs HM5 HN5 HG5
           go_upto_region 13 with fail
           rw [HW6.out, ← HGC.out]
           go_wp2_with fail
           with_reducible refine (upper_fn ct.s _).mono ?_
           rintro e7 w7 ⟨rfl, hb⟩
           replace y0 := pw_cell_below hb y0
           replace y1 := pw_cell_below hb y1
           have HB7 := As (below_step HB6.out hb)
           have HM7 := As (HM6.out.below hb)
           have HN7 := As (HN6.out.below hb)
           have HG7 := As (blk_below HG6.out hb)
           have HH7 := As (blk_below HH6.out hb)
           clear hb HB6 HM6 HN6 HG6 HH6 HW6 g0 g1
           obtain ⟨r1, hr1⟩ : ∃ q, upB ct.s = q := ⟨_, rfl⟩
           rw [hr1]
           have HR1 := As hr1
           clear hr1
           cases r1 with
           | false =>
            have HF := As (vdB_not (ds := ds) (fun h => by have h1 := (HCP.out.1 (HDC.out h k hkl)).1; rw [HR1.out] at h1; cases h1))
            go_wp2
            go_ret
            exact RetB.mk HF.out HB7.out
           | true =>
            have HSC := As (show ct.s.size ≤ 24 from ((upB_iff _).1 HR1.out).2.1)
            have hlk2 := HN7.out.look ct.s HSC.out
            obtain ⟨r2, hr2⟩ : ∃ q, memB ct.s (befC ds i k) = q := ⟨_, rfl⟩
            rw [hr2] at hlk2
            have HR2 := As hr2
            clear hr2 hlk
            cases r2 with
            | true =>
             have HF := As (vdB_not (ds := ds) (fun h => by have h1 := (HCP.out.1 (HDC.out h k hkl)).2.1; rw [HR2.out] at h1; cases h1))
             go_wp2
             go_ret
             exact RetB.mk HF.out HB7.out
            | false =>
             by_cases hr3 : 6 < na
             ·have hr3i : decide ((6 : Int) < (na : Int)) = true := decide_eq_true (by omega)
              have HF := As (vdB_not (ds := ds) (fun h => by have h1 := (HCP.out.1 (HDC.out h k hkl)).2.2.1; omega))
              go_wp2
              go_ret
              exact RetB.mk HF.out HB7.out
             ·have hr3i : decide ((6 : Int) < (na : Int)) = false := decide_eq_false (by omega)
              have hr3n : decide (6 < na) = false := decide_eq_false hr3
              have HCL := As (show (befC ds i k).length ≤ 1000000 from befC_len (fun j hj => (HA.out j hj).2.2.2.2.2.1) (by omega) (by have := HN8.out; omega))
              have HCS := As (show befC ds i k ++ [ct.s] = befC ds i (k + 1) by rw [← HCT.out, ← HDT.out]; exact befC_step ds i k (by rw [HDT.out, HNC.out]; exact hkl))
              have HCR := As (show (∀ m, m < na → argP ds i (ct.l.getD m z0)) → conP ds i k from fun h => HCP.out.2 ⟨HR1.out, HR2.out, by omega, h⟩)
              have HCD := As (show VDat ds → ∀ m, m < na → argP ds i (ct.l.getD m z0) from fun h => (HCP.out.1 (HDC.out h k hkl)).2.2.2)
              have HRN := As (show ((ds.getD i d0).l.getD k c0).l.length ≤ 1000000 by rw [HDT.out, HCT.out, HNA.out]; omega)
              have HRK := As (show k < (ds.getD i d0).l.length by rw [HDT.out, HNC.out]; exact hkl)
              clear hr3 HCP
              go_wp2_with (at_mapUpdate; refine ms_put (w0 := w) rfl _ _ _ rfl b2 (befC ds i k) ct.s rfl rfl rfl HSC.out HCL.out HN7.out (by have := HBB.out; omega) HB7.out ?_; intro w8 hm_ hb_ hg_; rw [HCS.out] at hm_; have HN8 := As hm_; have HB8 := As hb_; have HM8 := As (HM7.out.step (hg_.block b1 HM7.out.lt (by have := HBB.out.2; simp; omega))); have HG8 := As ((hg_.block gd (blk_lt HG7.out) (by have := HGL.out; simp; omega)).trans HG7.out); have HH8 := As ((hg_.block gc (blk_lt HH7.out) (by have := HGCL.out; simp; omega)).trans HH7.out); clear hm_ hb_ hg_ HM7 HN7 HB7 HG7 HH7)
              with_reducible refine (recursive_law ds i k (fun _ => True) _ _ (fun _ _ => trivial) (HD.out.below HB8.out) HLT.out HRK.out HRN.out).mono ?_
              rintro e9 w9 ⟨v9, rfl, hv, hb⟩
              rw [HDT.out, HCT.out] at hv
              obtain ⟨bs, hbs⟩ : ∃ bs, ct.l.map (recB i dt.n) = bs := ⟨_, rfl⟩
              rw [hbs] at hv
              have hbl : bs.length = na := by rw [← hbs, List.length_map]; exact HNA.out
              have HV := As hv
              obtain ⟨Ar, cr, hvv, hcr, _⟩ := hv
              rw [hbl] at hvv hcr
              subst hvv
              have HBS := As hbs
              have HBL := As hbl
              have HB9 := As (below_step HB8.out hb)
              have HM9 := As (HM8.out.below hb)
              have HN9 := As (HN8.out.below hb)
              have HG9 := As (blk_below HG8.out hb)
              have HH9 := As (blk_below HH8.out hb)
              have y1 : w9.cell? ⟨gc, 1, none⟩ = some (.slice A2 na c2) := (blk_cell HH9.out 1).trans rfl
              have HBr := As (Below.refl w9.heap.size w9)
              clear hb hbs hbl HB8 HM8 HN8 HG8 HH8 y0 hlk2
              go_wp2
              go_loopw [93] (fun v93 wl => ∃ n : Nat, v93 = .int .i64 n ∧ n ≤ na ∧ Aside0 (∀ m, m < n → argP ds i (ct.l.getD m z0)) ∧ Aside0 (Below w9.heap.size w9 wl)) (fun v93 _ => na - (intOf v93).toNat)
              case atStart => exact ⟨0, rfl, Nat.zero_le _, ⟨fun j h => absurd h (Nat.not_lt_zero j)⟩, HBr⟩
              case round =>
               clear HBr y1
               obtain ⟨n, rfl, hn, HAA, HBl⟩ := hrel
               obtain ⟨wl, hwl⟩ : ∃ wl, wl = wr := ⟨wr, rfl⟩
               subst hwl
               by_cases hnl : n < na
               ·have hnb : decide ((n : Int) < (na : Int)) = true := decide_eq_true (by omega)
                have HB10 := As (below_step HB9.out HBl.out)
                obtain ⟨pb, po, A8, c8, rfl, z1, z2, z3, hkid⟩ := (HA2.out.hop HB5.out HB10.out).at n (by rw [HNA.out]; exact hnl)
                obtain ⟨t, ht⟩ : ∃ t, ct.l.getD n z0 = t := ⟨_, rfl⟩
                rw [ht] at z1 z2 z3 hkid
                obtain ⟨rb, ro, rfl, r0⟩ := HV.out.at n (by rw [HBL.out]; exact hnl)
                replace r0 := pw_cell_below HBl.out r0
                have hbr : bs.getD n false = recB i dt.n t := by rw [← HBS.out, ← ht, List.getD_eq_getElem?_getD, List.getD_eq_getElem?_getD, List.getElem?_map, List.getElem?_eq_getElem (by rw [HNA.out]; exact hnl)]; rfl
                rw [hbr] at r0
                have HAP := As (show argP ds i t ↔ (t.ok (ds.take (i + 1)) dt.n = true ∧ (recB i dt.n t = true ∨ t.ment (i : Int) = false)) by unfold argP; rw [HDT.out])
                obtain ⟨gt, hgt⟩ : ∃ gt, gt = wl.heap.size := ⟨_, rfl⟩
                obtain ⟨W10, hW10⟩ : ∃ W10, wl.alloc (.cells #[.int .i64 t.k, .int .i64 t.n, .slice A8 t.l.length c8] 25) = W10 := ⟨_, rfl⟩
                have hb10 : Below wl.heap.size wl W10 := by rw [← hW10]; exact below_alloc (Below.refl _ _) _
                have hg10 : W10.heap[gt]? = some (.cells #[.int .i64 t.k, .int .i64 t.n, .slice A8 t.l.length c8] 25 (0, 0)) := by rw [hgt, ← hW10]; exact heap_alloc_new _ _
                have hbd : Below wl.heap.size wl W10.drew := below_drew1 hb10
                have HBd := As (below_step HBl.out hbd)
                have s0 : W10.cell? ⟨gt, 0, none⟩ = some (.int .i64 t.k) := (blk_cell hg10 0).trans rfl
                have s1 : W10.cell? ⟨gt, 1, none⟩ = some (.int .i64 t.n) := (blk_cell hg10 1).trans rfl
                have s2 : W10.cell? ⟨gt, 2, none⟩ = some (.slice A8 t.l.length c8) := (blk_cell hg10 2).trans rfl
                have x1 : W10.cell? ⟨gd, 1, none⟩ = some (.int .i64 dt.n) := (blk_cell (blk_below HG9.out (below_step HBl.out hb10)) 1).trans rfl
                replace r0 := pw_cell_below hb10 r0
                have s0d := pw_cell_below (below_drew1 (Below.refl W10.heap.size W10)) s0
                have s1d := pw_cell_below (below_drew1 (Below.refl W10.heap.size W10)) s1
                have s2d := pw_cell_below (below_drew1 (Below.refl W10.heap.size W10)) s2
                have x1d := pw_cell_below (below_drew1 (Below.refl W10.heap.size W10)) x1
                have HD10 := As (HD.out.below (below_step HB10.out hbd))
                have HK10 := As ((hkid.mono (ok' := fun _ => True) (fun _ _ => trivial)).below hbd)
                obtain ⟨inf, hinf, _⟩ := Option.map_eq_some_iff.1 info_dt
                have hsl := cut_to (P := Tryz.prog) 22 68 .i64 Tryz.underlying22 hinf (some ⟨b, o, none⟩) ds.length c ((i : Int) + 1) (by omega) (by omega) hc
                rw [show ((i : Int) + 1).toNat = i + 1 by omega] at hsl
                have hwi : IntKind.i64.wrap ((i : Int) + 1) = (i : Int) + 1 := IntWalk.i64_in _ (by omega)
                clear hinf
                have HVAL := As (Valid_ty (ds.take (i + 1)) dt.n t (fun _ => True) _ _ W10.drew (HD10.out.take (n := i + 1) (by omega)) HK10.out)
                obtain ⟨q7, hq7⟩ : ∃ q, t.ok (ds.take (i + 1)) dt.n = q := ⟨_, rfl⟩
                obtain ⟨q8, hq8⟩ : ∃ q, recB i dt.n t = q := ⟨_, rfl⟩
                obtain ⟨q9, hq9⟩ : ∃ q, t.ment (i : Int) = q := ⟨_, rfl⟩
                rw [hq7] at HVAL HAP
                rw [hq8] at r0 HAP
                have r0d := pw_cell_below (below_drew1 (Below.refl W10.heap.size W10)) r0
                rw [hq9] at HAP
                have HT := As ht
                have HW10 := As hW10
                have HGT := As hgt
                have HQ9 := As hq9
                clear hbr hgt hW10 hb10 hg10 hbd hkid ht hq7 hq8 hq9
                go_upto_region 20 with fail
                rw [HW10.out, ← HGT.out]
                cases q7 with
                | false =>
                 have HF := As (vdB_not (ds := ds) (fun h => by have h1 := (HAP.out.1 (by rw [← HT.out]; exact HCD.out h n hnl)).1; cases h1))
                 have hun : undef = Value.tuple #[] := rfl
                 first | go_region_with (first | (go_at_call 36; (with_reducible refine HVAL.out.mono ?_); rintro e11 w11 ⟨rfl, hb⟩; have HB11 := As (below_step HBd.out hb); have HK11 := As (HK10.out.below hb); (have s01 := pw_cell_below hb s0d); (have s11 := pw_cell_below hb s1d); (have s21 := pw_cell_below hb s2d); (have x11 := pw_cell_below hb x1d); (have r01 := pw_cell_below hb r0d); clear hb)) | fail
                 all_goals
                  (clear hun
                   go_wp2
                   go_ret
                   exact RetB.mk HF.out (below_then HB9.out HB9.out.size HB11.out))
                | true =>
                 cases q8 with
                 | true =>
                  have HAS := As (show ∀ m, m < n + 1 → argP ds i (ct.l.getD m z0) from fun m hm => by
                    by_cases he : m = n
                    · subst he; rw [HT.out]; exact HAP.out.2 ⟨rfl, Or.inl rfl⟩
                    · exact HAA.out m (by omega))
                  have hun : undef = Value.tuple #[] := rfl
                  first | go_region_with (first | (go_at_call 36; (with_reducible refine HVAL.out.mono ?_); rintro e11 w11 ⟨rfl, hb⟩; have HB11 := As (below_step HBd.out hb); have HK11 := As (HK10.out.below hb); (have s01 := pw_cell_below hb s0d); (have s11 := pw_cell_below hb s1d); (have s21 := pw_cell_below hb s2d); (have x11 := pw_cell_below hb x1d); (have r01 := pw_cell_below hb r0d); clear hb)) | fail
                  all_goals
                    (rw [← hun]
                     clear hun
                     go_wp2
                     go_roundw
                     case rel => exact ⟨n + 1, by go_num, by omega, HAS, HB11⟩
                     case measure => simp [intOf]; omega)
                 | false =>
                  cases q9 with
                  | true =>
                    have HF := As (vdB_not (ds := ds) (fun h => by have h1 := (HAP.out.1 (by rw [← HT.out]; exact HCD.out h n hnl)).2; rcases h1 with h1 | h1 <;> cases h1))
                    first | go_region_held3 (fun w' => w'.cell? ⟨gt, 0, none⟩ = some (.int .i64 t.k) ∧ w'.cell? ⟨gt, 1, none⟩ = some (.int .i64 t.n) ∧ w'.cell? ⟨gt, 2, none⟩ = some (.slice A8 t.l.length c8) ∧ w'.cell? ⟨gd, 1, none⟩ = some (.int .i64 dt.n) ∧ w'.cell? ⟨rb, ro + n, none⟩ = some (.bool false)) (first | exact ⟨s0, s1, s2, x1, r0⟩ | exact ⟨s0d, s1d, s2d, x1d, r0d⟩ | exact ⟨s01, s11, s21, x11, r01⟩ | exact ⟨s02, s12, s22, x12, r02⟩) (first | (go_at_call 36; (with_reducible refine HVAL.out.mono ?_); rintro e11 w11 ⟨rfl, hb⟩; have HB11 := As (below_step HBd.out hb); have HK11 := As (HK10.out.below hb); (have s01 := pw_cell_below hb s0d); (have s11 := pw_cell_below hb s1d); (have s21 := pw_cell_below hb s2d); (have x11 := pw_cell_below hb x1d); (have r01 := pw_cell_below hb r0d); clear hb) | (go_at_call 93; (with_reducible refine (ment_val t.sz t (i : Int) _ _ _ (Nat.le_refl _) HK11.out).mono ?_); rintro e12 w12 ⟨rfl, hb⟩; have HB12 := As (below_step HB11.out hb); rw [HQ9.out]; (have s02 := pw_cell_below hb s01); (have s12 := pw_cell_below hb s11); (have s22 := pw_cell_below hb s21); (have x12 := pw_cell_below hb x11); (have r02 := pw_cell_below hb r01); clear hb)) | fail
                    all_goals
                      (go_wp2
                       go_ret
                       exact RetB.mk HF.out (below_then HB9.out HB9.out.size HB12.out))
                  | false =>
                    have HAS := As (show ∀ m, m < n + 1 → argP ds i (ct.l.getD m z0) from fun m hm => by
                      by_cases he : m = n
                      · subst he; rw [HT.out]; exact HAP.out.2 ⟨rfl, Or.inr rfl⟩
                      · exact HAA.out m (by omega))
                    first | go_region_held3 (fun w' => w'.cell? ⟨gt, 0, none⟩ = some (.int .i64 t.k) ∧ w'.cell? ⟨gt, 1, none⟩ = some (.int .i64 t.n) ∧ w'.cell? ⟨gt, 2, none⟩ = some (.slice A8 t.l.length c8) ∧ w'.cell? ⟨gd, 1, none⟩ = some (.int .i64 dt.n) ∧ w'.cell? ⟨rb, ro + n, none⟩ = some (.bool false)) (first | exact ⟨s0, s1, s2, x1, r0⟩ | exact ⟨s0d, s1d, s2d, x1d, r0d⟩ | exact ⟨s01, s11, s21, x11, r01⟩ | exact ⟨s02, s12, s22, x12, r02⟩) (first | (go_at_call 36; (with_reducible refine HVAL.out.mono ?_); rintro e11 w11 ⟨rfl, hb⟩; have HB11 := As (below_step HBd.out hb); have HK11 := As (HK10.out.below hb); (have s01 := pw_cell_below hb s0d); (have s11 := pw_cell_below hb s1d); (have s21 := pw_cell_below hb s2d); (have x11 := pw_cell_below hb x1d); (have r01 := pw_cell_below hb r0d); clear hb) | (go_at_call 93; (with_reducible refine (ment_val t.sz t (i : Int) _ _ _ (Nat.le_refl _) HK11.out).mono ?_); rintro e12 w12 ⟨rfl, hb⟩; have HB12 := As (below_step HB11.out hb); rw [HQ9.out]; (have s02 := pw_cell_below hb s01); (have s12 := pw_cell_below hb s11); (have s22 := pw_cell_below hb s21); (have x12 := pw_cell_below hb x11); (have r02 := pw_cell_below hb r01); clear hb)) | fail
                    all_goals
                      (go_wp2
                       go_roundw
                       case rel => exact ⟨n + 1, by go_num, by omega, HAS, HB12⟩
                       case measure => simp [intOf]; omega)
               ·have hnb : decide ((n : Int) < (na : Int)) = false := decide_eq_false (by omega)
                have hen : n = na := by omega
                have HCC := As (show ∀ m, m < k + 1 → conP ds i m from fun m hm => by
                 by_cases he : m = k
                 ·subst he; exact HCR.out (by rw [← hen]; exact HAA.out)
                 ·exact HCA.out m (by omega))
                have HM11 := As (HM9.out.below HBl.out)
                have HN11 := As (HN9.out.below HBl.out)
                have HG11 := As (blk_below HG9.out HBl.out)
                have HB11 := As (below_step HB9.out HBl.out)
                go_wp2
                go_roundw
                case rel => exact ⟨k + 1, by go_num, by omega, HCC, HM11, HN11, HG11, HB11⟩
                case measure => simp [intOf]; omega
          ·have hkb : decide ((k : Int) < (nc : Int)) = false := decide_eq_false (by omega)
           have hek : k = nc := by omega
           have HAD := As (show ∀ j, j < i + 1 → datP ds j from fun j hj => by
            by_cases he : j = i
            ·subst he; exact HDR.out (by rw [← hek]; exact HCA.out)
            ·exact HA.out j (by omega))
           have HN12 := As (show MSet wk b2 (befC ds (i + 1) 0) by
            rw [← befC_end ds i HLT.out, HDT.out, HNC.out, ← hek]
            exact HN5.out)
           go_wp2
           go_roundw
           case rel => exact ⟨i + 1, by go_num, by omega, HAD, HM5, HN12, HB5⟩
           case measure => simp [intOf]; omega
  ·have hlb : decide ((i : Int) < (ds.length : Int)) = false := decide_eq_false (by omega)
   have he : i = ds.length := by omega
   have HT := As ((vdB_iff ds).2 ⟨by omega, by rw [← he]; exact HA.out⟩)
   go_wp2
   go_ret
   exact RetB.mk HT.out HB.out
end Go.Proofs.YtldkcpgnccknpaaGreat
