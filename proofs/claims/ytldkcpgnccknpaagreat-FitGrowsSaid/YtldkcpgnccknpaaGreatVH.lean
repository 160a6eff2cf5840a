/-
  The parts CoG, CoH, CoI, CoJ, CoK, CoL: the contracts of the program's functions and the plain laws below them; each part's own remark says which.
-/
import Derived.Test.YtldkcpgnccknpaaGreatVG
import Derived.Test.YtldkcpgnccknpaaGreatVC
import Derived.Deep.RegionHeld3
import Derived.Test.YtldkcpgnccknpaaGreatVA
import Derived.Test.YtldkcpgnccknpaaGreatMI
import Derived.Test.YtldkcpgnccknpaaGreatVB
import Derived.Deep.Slices
import Derived.ChangeSame
import Derived.ChangeSlices
import Derived.KernelRfl
set_option linter.unusedVariables false
set_option linter.unusedSimpArgs false
/-
  The contract of fit.check.
-/
namespace Go.Proofs.YtldkcpgnccknpaaGreat
open Go.RowKit Go.Proofs.YtldkcpgnccknpaaGreatW.PrintWords Go.Proofs.YtldkcpgnccknpaaGreatW.PrintMore Go.Proofs.YtldkcpgnccknpaaGreatW.PrintLast
set_option linter.unusedVariables false
/-- The fields and which of them are recursive. -/
noncomputable def fsO (ds : List Dt) (t : Tr) (q : Int) : List Tr := (fieldsP ds t q).getD []
def bsO (ds : List Dt) (t : Tr) (q : Int) : List Bool := recsOf ds t.n.toNat q.toNat
def atO (ds : List Dt) (t : Tr) (q : Int) : List Int := pay (bsO ds t q) (bsO ds t q).length
/-- What fit.check asks. -/
structure Chk (ds : List Dt) (t : Tr) (q : Int) (ps : List Tr) (x : Tr) (n : Nat) : Prop where
 k5 : t.k = 5
 kn : knB ds t = true
 q0 : 0 ≤ q
 q1 : q < ((fldD ds t).l.length : Int)
 r1 : (rcs (bsO ds t q) (bsO ds t q).length).length = 1
 f1 : (fsO ds t q).length ≠ 0
 pl : ps.length = (atO ds t q).length
 ph : ∀ i, i < ps.length → htB ds (ps.getD i z0) ((fsO ds t q).getD ((atO ds t q).getD i 0).toNat z0) = true
 eh : htB ds x t = true
 sz : x.sz + n * (1 + szl ps) ≤ 5000
def RetE (p : Prop) (w0 : World) (e : Ending) (w' : World) : Prop := ∃ er : Int, e = .returned (.int .i64 er) ∧ (er = 0 ↔ p) ∧ Below w0.heap.size w0 w'
theorem RetE.no {p : Prop} {w0 w' : World} {er : Int} (h : ¬ p) (he : er ≠ 0) (hb : Below w0.heap.size w0 w') : RetE p w0 (.returned (.int .i64 er)) w' := ⟨er, rfl, ⟨fun h1 => absurd h1 he, fun h1 => absurd h1 h⟩, hb⟩
theorem RetE.yes {p : Prop} {w0 w' : World} (h : p) (hb : Below w0.heap.size w0 w') : RetE p w0 (.returned (.int .i64 0)) w' := ⟨0, rfl, ⟨fun _ => h, fun _ => rfl⟩, hb⟩
theorem pay_mem {bs : List Bool} {i : Nat} (hi : i < (pay bs bs.length).length) : ∃ p : Nat, (pay bs bs.length).getD i 0 = (p : Int) ∧ p < bs.length := by
 have h1 : (pay bs bs.length).getD i 0 ∈ pay bs bs.length := by rw [List.getD_eq_getElem?_getD, List.getElem?_eq_getElem hi]; exact List.getElem_mem hi
 unfold pay at h1
 rw [List.mem_map] at h1
 obtain ⟨p, hp, he⟩ := h1
 exact ⟨p, he.symm, by have := List.mem_range.1 (List.mem_filter.1 hp).1; exact this⟩
theorem fields_len {ds : List Dt} {t : Tr} {q : Int} (h : (fsO ds t q).length ≠ 0) : fieldsP ds t q = some (fsO ds t q) ∧ (fsO ds t q).length = (bsO ds t q).length := by
 unfold fsO at h ⊢
 cases hf : fieldsP ds t q with
 | none => rw [hf] at h; exact absurd rfl h
 | some fs =>
  refine ⟨rfl, ?_⟩
  show fs.length = _
  unfold fieldsP at hf
  by_cases ho : fldOk ds t q
  ·rw [if_pos ho] at hf
   by_cases hs : short (subl t.l (fldC ds t q).l) = true
   ·rw [if_pos hs] at hf
    cases hf
    rw [subl_length]
    unfold bsO recsOf fldC fldD
    rw [List.length_map]
   ·rw [if_neg hs] at hf
    cases hf
  ·rw [if_neg ho] at hf
   cases hf
set_option maxRecDepth 100000 in
set_option maxHeartbeats 8000000 in
theorem check_fn (ds : List Dt) (t : Tr) (q : Int) (ps : List Tr) (x : Tr) (n : Nat) (ok : Nat → Prop) (vd vt vp vx : Value) (w : World) (hok : ∀ k, w.heap.size ≤ k → ok k) (hd : LDt w ok vd ds) (ht : ITr 25 w ok vt t) (hp : LTr 28 w ok vp ps) (hx : ITr 28 w ok vx x)
  (hn : n ≤ 5000) (hps : szl ps ≤ 1000000) (hxs : x.sz ≤ 1000000) : Calls Tryz.prog 15 #[vd, vt, .int .i64 q, vp, vx, .int .i64 (n : Int)] w (RetE (Chk ds t q ps x n) w) := by
 obtain ⟨Ax, cx, rfl⟩ := hx.shape
 obtain ⟨At, ct, rfl⟩ := ht.shape
 have hmd := hd.max
 obtain ⟨D, dc, rfl, hdc, hF⟩ := hd
 have hd : LDt w ok (.slice D ds.length dc) ds := ⟨D, dc, rfl, hdc, hF⟩
 have hmp := hp.max
 have hp0 := hp
 obtain ⟨Ap, cp, rfl, hcp, _⟩ := hp
 obtain ⟨W1, hW1⟩ : ∃ W1, w.alloc (.cells #[.int .i64 t.k, .int .i64 t.n, .slice At t.l.length ct] 25) = W1 := ⟨_, rfl⟩
 obtain ⟨W2, hW2⟩ : ∃ W2, W1.alloc (.cells #[.int .i64 x.k, .int .i64 x.n, .slice Ax x.l.length cx] 28) = W2 := ⟨_, rfl⟩
 obtain ⟨gt, hgt⟩ : ∃ gt, gt = w.heap.size := ⟨_, rfl⟩
 obtain ⟨gx, hgx⟩ : ∃ gx, gx = w.heap.size + 1 := ⟨_, rfl⟩
 have hs1 : W1.heap.size = gx := by rw [hgx, ← hW1]; show (w.heap.push _).size = _; simp
 have hb1 : Below w.heap.size w W1 := by rw [← hW1]; exact below_alloc (Below.refl _ _) _
 have hb12 : Below W1.heap.size W1 W2 := by rw [← hW2]; exact below_alloc (Below.refl _ _) _
 have hg1 : W1.heap[gt]? = some (.cells #[.int .i64 t.k, .int .i64 t.n, .slice At t.l.length ct] 25 (0, 0)) := by rw [hgt, ← hW1]; exact heap_alloc_new _ _
 have hg2 : W2.heap[gx]? = some (.cells #[.int .i64 x.k, .int .i64 x.n, .slice Ax x.l.length cx] 28 (0, 0)) := by rw [← hs1, ← hW2]; exact heap_alloc_new _ _
 have hG1 := blk_below hg1 hb12
 have a0 : W2.cell? ⟨gt, 0, none⟩ = some (.int .i64 t.k) := (blk_cell hG1 0).trans rfl
 have a1 : W2.cell? ⟨gt, 1, none⟩ = some (.int .i64 t.n) := (blk_cell hG1 1).trans rfl
 have a2 : W2.cell? ⟨gt, 2, none⟩ = some (.slice At t.l.length ct) := (blk_cell hG1 2).trans rfl
 have b0 : W2.cell? ⟨gx, 0, none⟩ = some (.int .i64 x.k) := (blk_cell hg2 0).trans rfl
 have b1 : W2.cell? ⟨gx, 1, none⟩ = some (.int .i64 x.n) := (blk_cell hg2 1).trans rfl
 have b2 : W2.cell? ⟨gx, 2, none⟩ = some (.slice Ax x.l.length cx) := (blk_cell hg2 2).trans rfl
 have hb2 := below_step hb1 hb12
 have HD2 := As (hd.below hb2)
 have HX2 := As (hx.below hb2)
 have HT2 := As (ht.below hb2)
 have HP2 := As (hp0.below hb2)
 have HW2 := As (show (w.alloc (.cells #[.int .i64 t.k, .int .i64 t.n, .slice At t.l.length ct] 25)).alloc (.cells #[.int .i64 x.k, .int .i64 x.n, .slice Ax x.l.length cx] 28) = W2 by rw [hW1]; exact hW2)
 have HB2 := As hb2
 have HGX := As hgx
 have HGT := As hgt
 have HOK := As hok
 have HPS := As hps
 have HXS := As hxs
 have HN5 := As hn
 clear hW1 hW2 hs1 hb1 hb12 hg1 hg2 hG1 hgx hgt hb2 hd ht hx hF hok hp0 hps hxs
 go_enter Tryz.func15, Tryz.ntmps15
 go_upto_region 1 with fail
 rw [HW2.out, ← HGX.out, ← HGT.out]
 by_cases h5 : t.k ≠ 5
 ·have h5b : (t.k != 5) = true := bne_iff_ne.2 h5
  have HF := As (show ¬ Chk ds t q ps x n from fun h => h5 h.k5)
  clear h5
  go_wp2
  go_ret
  exact RetE.no HF.out (by decide) HB2.out
 replace h5 : t.k = 5 := Decidable.not_not.1 h5
 have h5b : (t.k != 5) = false := bne_eq_false_iff_eq.2 h5
 have H5 := As h5
 clear h5
 go_wp2_with fail
 with_reducible refine (ground_fn ds t ok _ _ _ HD2.out HT2.out).mono ?_
 rintro e w3 ⟨rfl, hb⟩
 have HB3 := As (below_step HB2.out hb)
 have HD3 := As (HD2.out.below hb)
 have HX3 := As (HX2.out.below hb)
 have HT3 := As (HT2.out.below hb)
 have HP3 := As (HP2.out.below hb)
 replace a0 := pw_cell_below hb a0
 replace a1 := pw_cell_below hb a1
 replace a2 := pw_cell_below hb a2
 replace b0 := pw_cell_below hb b0
 replace b1 := pw_cell_below hb b1
 replace b2 := pw_cell_below hb b2
 clear hb HD2 HX2 HT2 HP2
 obtain ⟨kb, hkb⟩ : ∃ kb, knB ds t = kb := ⟨_, rfl⟩
 rw [hkb]
 have HKB := As hkb
 clear hkb
 cases kb with
 | false =>
  have HF := As (show ¬ Chk ds t q ps x n from fun h => by have := h.kn; rw [HKB.out] at this; cases this)
  go_wp2
  go_ret
  exact RetE.no HF.out (by decide) HB3.out
 | true =>
  have hkv : VD ds ∧ t.ok ds 0 = true := by
   have h1 := HKB.out
   unfold knB at h1
   rw [Bool.and_eq_true] at h1
   exact ⟨((vdB_iff ds).1 h1.1).vd, h1.2⟩
  have HKV := As hkv
  by_cases hq0 : q < 0
  ·have hq0b : decide (q < 0) = true := decide_eq_true hq0
   have HF := As (show ¬ Chk ds t q ps x n from fun h => by have := h.q0; omega)
   clear hq0 hkv
   go_wp2
   go_ret
   exact RetE.no HF.out (by decide) HB3.out
  have hq0b : decide (q < 0) = false := decide_eq_false hq0
  obtain ⟨qn, rfl⟩ := Int.eq_ofNat_of_zero_le (by omega : 0 ≤ q)
  obtain ⟨hm0, hm1, hm2⟩ := vld_data (Tr.ok_iff.1 hkv.2).2 H5.out
  obtain ⟨m, hm⟩ := Int.eq_ofNat_of_zero_le hm0
  have hmd2 : m < ds.length := by omega
  have hFD : fldD ds t = ds.getD m d0 := by unfold fldD; rw [hm]; rfl
  obtain ⟨bd, od, Ac, cc, rfl, p0, p1, p2, hcons⟩ := (HD3.out).at m hmd2
  have hmc := hcons.max
  rw [hm] at a1
  have hmi : (m : Int) < (ds.length : Int) := by omega
  obtain ⟨cl, hcl⟩ : ∃ cl, (ds.getD m d0).l.length = cl := ⟨_, rfl⟩
  rw [hcl] at p2 hmc
  have HCLN := As hcl
  have HFD := As hFD
  have HM := As hm
  have HMD := As hmd2
  have HQ1 := As (show ((fldD ds t).l.length : Int) = (cl : Int) by rw [hFD, hcl])
  clear hcons hcl hm hFD hm0 hm1 hm2 hq0 hkv
  by_cases hge : cl ≤ qn
  ·have hgb : decide ((cl : Int) ≤ (qn : Int)) = true := decide_eq_true (by omega)
   have HF := As (show ¬ Chk ds t (qn : Int) ps x n from fun h => by have := h.q1; rw [HQ1.out] at this; omega)
   go_wp2
   go_ret
   exact RetE.no HF.out (by decide) HB3.out
  have hgb : decide ((cl : Int) ≤ (qn : Int)) = false := decide_eq_false (by omega)
  have hn0 : decide ((n : Int) < 0) = false := decide_eq_false (by omega)
  have hn1 : decide ((5000 : Int) < (n : Int)) = false := decide_eq_false (by omega)
  have hn2 : decide (5000 < n) = false := decide_eq_false (by omega)
  have HQL := As (show qn < (ds.getD m d0).l.length by rw [HCLN.out]; omega)
  have HT3' := As (show LTr 25 w3 ok (.slice At t.l.length ct) t.l from HT3.out.kids.2.2.2)
  have HSZ := As (show szl t.l ≤ 1000000 by have h1 := (Tr.ok_iff.1 HKV.out.2).1; rw [t.sz_eq] at h1; omega)
  have HOK3 := As (show ∀ k, w3.heap.size ≤ k → ok k from fun k hk => HOK.out k (Nat.le_trans HB3.out.size hk))
  go_wp2_with fail
  with_reducible refine (shape_law ds t.k m qn t.l ok _ _ _ _ HOK3.out HD3.out HT3'.out HKV.out.1.small HSZ.out HMD.out HQL.out).mono ?_
  rintro e w4 ⟨v1, v2, v3, rfl, hv1, hv2, hv3, hb⟩
  rw [show (fieldsP ds ⟨t.k, (m : Int), t.l⟩ (qn : Int)).getD [] = fsO ds t (qn : Int) by rw [← HM.out]; rfl] at hv1
  rw [show recsOf ds m qn = bsO ds t (qn : Int) by unfold bsO; rw [HM.out]; rfl] at hv2 hv3
  obtain ⟨fs, hfs⟩ : ∃ fs, fsO ds t (qn : Int) = fs := ⟨_, rfl⟩
  obtain ⟨bs, hbs⟩ : ∃ bs, bsO ds t (qn : Int) = bs := ⟨_, rfl⟩
  have HFL := As (show fs.length ≠ 0 → fs.length = bs.length ∧ fieldsP ds t (qn : Int) = some fs from fun h => by
   have h1 := fields_len (ds := ds) (t := t) (q := (qn : Int)) (by rw [hfs]; exact h)
   rw [hfs, hbs] at h1
   exact ⟨h1.2, h1.1⟩)
  rw [hfs] at hv1
  rw [hbs] at hv2 hv3
  obtain ⟨al, hal⟩ : ∃ al, pay bs bs.length = al := ⟨_, rfl⟩
  obtain ⟨rl, hrl⟩ : ∃ rl, rcs bs bs.length = rl := ⟨_, rfl⟩
  have HAL := As (show ∀ i, i < al.length → ∃ p : Nat, al.getD i 0 = (p : Int) ∧ p < bs.length from fun i hi => by rw [← hal] at hi ⊢; exact pay_mem hi)
  rw [hal] at hv2
  rw [hrl] at hv3
  have HCR := As (show Chk ds t (qn : Int) ps x n → rl.length = 1 ∧ fs.length ≠ 0 ∧ ps.length = al.length ∧ (∀ i, i < ps.length → htB ds (ps.getD i z0) (fs.getD (al.getD i 0).toNat z0) = true) ∧ htB ds x t = true ∧ x.sz + n * (1 + szl ps) ≤ 5000 from fun h => by
   have h1 := h.r1
   have h2 := h.f1
   have h3 := h.pl
   have h4 := h.ph
   unfold atO at h3 h4
   rw [hbs] at h1 h3 h4
   rw [hrl] at h1
   rw [hfs] at h2 h4
   rw [hal] at h3 h4
   exact ⟨h1, h2, h3, h4, h.eh, h.sz⟩)
  have HCM := As (show rl.length = 1 → fs.length ≠ 0 → ps.length = al.length → (∀ i, i < ps.length → htB ds (ps.getD i z0) (fs.getD (al.getD i 0).toNat z0) = true) → htB ds x t = true → x.sz + n * (1 + szl ps) ≤ 5000 → Chk ds t (qn : Int) ps x n from fun h1 h2 h3 h4 h5 h6 => ⟨H5.out, HKB.out, by omega, by rw [HQ1.out]; omega, by rw [hbs, hrl]; exact h1, by rw [hfs]; exact h2, by unfold atO; rw [hbs, hal]; exact h3, by unfold atO; rw [hbs, hal, hfs]; exact h4, h5, h6⟩)
  have HV1 := As hv1
  have HV2 := As hv2
  have hm1 := hv1.max
  obtain ⟨A1, c1, rfl, _, _⟩ := hv1
  obtain ⟨A2, c2, rfl, _, _⟩ := hv2
  obtain ⟨A3, c3, rfl, _, _⟩ := hv3
  have HB4 := As (below_step HB3.out hb)
  have HD4 := As (HD3.out.below hb)
  have HX4 := As (HX3.out.below hb)
  have HT4 := As (HT3.out.below hb)
  have HP4 := As (HP3.out.below hb)
  rw [← HM.out] at a1
  replace a0 := pw_cell_below hb a0
  replace a1 := pw_cell_below hb a1
  replace a2 := pw_cell_below hb a2
  replace b0 := pw_cell_below hb b0
  replace b1 := pw_cell_below hb b1
  replace b2 := pw_cell_below hb b2
  clear hb hfs hbs hal hrl HD3 HX3 HT3 HP3 HT3' p0 p1 p2 HQ1 HFD HCLN HQL HSZ
  by_cases hr1 : rl.length ≠ 1
  ·have hr1b : ((rl.length : Int) != 1) = true := bne_iff_ne.2 (by omega)
   have hr1n : (rl.length != 1) = true := bne_iff_ne.2 hr1
   have HF := As (show ¬ Chk ds t (qn : Int) ps x n from fun h => hr1 (HCR.out h).1)
   clear hr1
   go_wp2
   go_ret
   exact RetE.no HF.out (by decide) HB4.out
  replace hr1 : rl.length = 1 := Decidable.not_not.1 hr1
  have HR1 := As hr1
  rw [hr1]
  clear hr1
  by_cases hf0 : fs.length = 0
  ·have hf0b : ((fs.length : Int) == 0) = true := beq_iff_eq.2 (by omega)
   have HF := As (show ¬ Chk ds t (qn : Int) ps x n from fun h => (HCR.out h).2.1 hf0)
   rw [hf0]
   clear hf0 hf0b
   go_wp2
   go_ret
   exact RetE.no HF.out (by decide) HB4.out
  obtain ⟨nf, hnf⟩ : ∃ nf, fs.length = nf := ⟨_, rfl⟩
  have HF0 := As hf0
  have HNB := As (show nf = bs.length by rw [← hnf]; exact (HFL.out hf0).1)
  have HNF := As hnf
  rw [hnf] at hf0 hm1 ⊢
  have hf0i : ((nf : Int) == 0) = false := beq_eq_false_iff_ne.2 (by omega)
  have hf0n : (nf == 0) = false := beq_eq_false_iff_ne.2 hf0
  clear hnf
  obtain ⟨na, hna⟩ : ∃ na, al.length = na := ⟨_, rfl⟩
  have HNA := As hna
  rw [hna]
  clear hna
  by_cases hpl : ps.length ≠ na
  ·have hplb : ((ps.length : Int) != (na : Int)) = true := bne_iff_ne.2 (by omega)
   have hpln : (ps.length != na) = true := bne_iff_ne.2 hpl
   have HF := As (show ¬ Chk ds t (qn : Int) ps x n from fun h => hpl (by rw [← HNA.out]; exact (HCR.out h).2.2.1))
   clear hpl
   go_wp2
   go_ret
   exact RetE.no HF.out (by decide) HB4.out
  replace hpl : ps.length = na := Decidable.not_not.1 hpl
  have HPL := As hpl
  rw [hpl]
  rw [hpl] at hmp hcp
  have hpp : ((na : Int) != (na : Int)) = false := bne_eq_false_iff_eq.2 rfl
  have HBr := As (Below.refl w4.heap.size w4)
  clear hpl
  go_wp2
  go_loopw [16, 72] (fun v16 v72 wl => ∃ i s : Nat, v16 = .int .i64 s ∧ v72 = .int .i64 i ∧ i ≤ na ∧ s ≤ 1000001 ∧ Aside0 (s = 1 + szl (ps.take i)) ∧ Aside0 (∀ j, j < i → htB ds (ps.getD j z0) (fs.getD (al.getD j 0).toNat z0) = true) ∧ Aside0 (Below w4.heap.size w4 wl)) (fun _ v72 _ => na - (intOf v72).toNat)
  case atStart => exact ⟨0, 1, rfl, rfl, Nat.zero_le _, by omega, ⟨rfl⟩, ⟨fun j h => absurd h (Nat.not_lt_zero j)⟩, HBr⟩
  case round =>
   clear HBr
   obtain ⟨i, s, rfl, rfl, hi, hs1, HS, HJ, HBl⟩ := hrel
   have HBw := As (below_step HB4.out HBl.out)
   have HOKr := As (show ∀ k, wr.heap.size ≤ k → ok k from fun k hk => HOK.out k (Nat.le_trans HBw.out.size hk))
   by_cases hlt : i < na
   ·have hlb : decide ((i : Int) < (na : Int)) = true := decide_eq_true (by omega)
    obtain ⟨pb, po, Ay, cy, rfl, z1, z2, z3, hkid⟩ := (HP4.out.below HBl.out).at i (by rw [HPL.out]; exact hlt)
    obtain ⟨y, hy⟩ : ∃ y, ps.getD i z0 = y := ⟨_, rfl⟩
    rw [hy] at z1 z2 z3 hkid
    have hysz : y.sz ≤ 1000000 := by rw [← hy]; have := sz_getD (ts := ps) (i := i) (by rw [HPL.out]; exact hlt); have := HPS.out; omega
    have HSN := As (show s + y.sz = 1 + szl (ps.take (i + 1)) by rw [szl_next (by rw [HPL.out]; exact hlt), hy, HS.out]; omega)
    have hsn : s + y.sz ≤ 1000001 := by have h1 := HSN.out; have h2 := szl_le ps (i + 1); have h3 := HPS.out; omega
    obtain ⟨p, hp1, hp2⟩ := HAL.out i (by rw [HNA.out]; exact hlt)
    obtain ⟨ib, io, rfl, i0⟩ := (HV2.out.below HBl.out).at i (by rw [HNA.out]; exact hlt)
    rw [hp1] at i0
    obtain ⟨tb, to_, Att, ctt, rfl, t0, t1, t2, hfld⟩ := (HV1.out.below HBl.out).at p (by rw [HNF.out, HNB.out]; exact hp2)
    obtain ⟨tt, htt⟩ : ∃ tt, fs.getD p z0 = tt := ⟨_, rfl⟩
    rw [htt] at t0 t1 t2 hfld
    have hpi : (p : Int) < (nf : Int) := by have := HNB.out; omega
    have hpn : p < nf := by omega
    have HJN := As (show htB ds y tt = htB ds (ps.getD i z0) (fs.getD (al.getD i 0).toNat z0) by rw [hy, hp1, Int.toNat_natCast, htt])
    obtain ⟨gy, hgy⟩ : ∃ gy, gy = wr.heap.size := ⟨_, rfl⟩
    obtain ⟨W5, hW5⟩ : ∃ W5, wr.alloc (.cells #[.int .i64 y.k, .int .i64 y.n, .slice Ay y.l.length cy] 28) = W5 := ⟨_, rfl⟩
    have hb5 : Below wr.heap.size wr W5 := by rw [← hW5]; exact below_alloc (Below.refl _ _) _
    have hg5 : W5.heap[gy]? = some (.cells #[.int .i64 y.k, .int .i64 y.n, .slice Ay y.l.length cy] 28 (0, 0)) := by rw [hgy, ← hW5]; exact heap_alloc_new _ _
    have hbd : Below wr.heap.size wr W5.drew := below_drew1 hb5
    have y0d : W5.drew.cell? ⟨gy, 0, none⟩ = some (.int .i64 y.k) := (blk_cell (blk_drew hg5) 0).trans rfl
    have y1d : W5.drew.cell? ⟨gy, 1, none⟩ = some (.int .i64 y.n) := (blk_cell (blk_drew hg5) 1).trans rfl
    have y2d : W5.drew.cell? ⟨gy, 2, none⟩ = some (.slice Ay y.l.length cy) := (blk_cell (blk_drew hg5) 2).trans rfl
    have i0d := pw_cell_below hbd i0
    have t0d := pw_cell_below hbd t0
    have t1d := pw_cell_below hbd t1
    have t2d := pw_cell_below hbd t2
    have HB5 := As (below_step HBl.out hbd)
    have HD5 := As ((HD4.out.below HBl.out).below hbd)
    have HY5 := As (hkid.below hbd)
    have HTT5 := As (hfld.below hbd)
    have HOK5 := As (show ∀ k, W5.drew.heap.size ≤ k → ok k from fun k hk => HOKr.out k (Nat.le_trans hbd.size hk))
    have HW5 := As hW5
    have HGY := As hgy
    have HYS := As hysz
    obtain ⟨bt, hbt⟩ : ∃ bt, htB ds y tt = bt := ⟨_, rfl⟩
    have HBT := As hbt
    clear hy hp1 htt hgy hW5 hb5 hg5 hbd hkid hfld i0 t0 t1 t2 hbt
    go_upto_region 14 with fail
    rw [HW5.out, ← HGY.out]
    go_region_held3 (fun w' => w'.cell? ⟨gy, 0, none⟩ = some (.int .i64 y.k) ∧ w'.cell? ⟨gy, 1, none⟩ = some (.int .i64 y.n) ∧ w'.cell? ⟨gy, 2, none⟩ = some (.slice Ay y.l.length cy) ∧ w'.cell? ⟨ib, io + i, none⟩ = some (.int .i64 (p : Int)) ∧ w'.cell? ⟨tb, to_ + p * 3, none⟩ = some (.int .i64 tt.k) ∧ w'.cell? ⟨tb, to_ + p * 3 + 1, none⟩ = some (.int .i64 tt.n) ∧ w'.cell? ⟨tb, to_ + p * 3 + 2, none⟩ = some (.slice Att tt.l.length ctt)) (first | exact ⟨y0d, y1d, y2d, i0d, t0d, t1d, t2d⟩ | exact ⟨y06, y16, y26, i06, t06, t16, t26⟩) (first | (go_at_call 7; (with_reducible refine (HasType_fn ds y tt ok _ _ _ _ HOK5.out HD5.out HY5.out HTT5.out).mono ?_); rintro e6 w6 ⟨rfl, hb⟩; rw [HBT.out]; have HB6 := As (below_step HB5.out hb); have HY6 := As (HY5.out.below hb); (have y06 := pw_cell_below hb y0d); (have y16 := pw_cell_below hb y1d); (have y26 := pw_cell_below hb y2d); (have i06 := pw_cell_below hb i0d); (have t06 := pw_cell_below hb t0d); (have t16 := pw_cell_below hb t1d); (have t26 := pw_cell_below hb t2d); clear hb))
    cases bt with
    | false =>
     have HF := As (show ¬ Chk ds t (qn : Int) ps x n from fun h => by
      have h1 := (HCR.out h).2.2.2.1 i (by rw [HPL.out]; exact hlt)
      rw [← HJN.out, HBT.out] at h1
      cases h1)
     go_wp2
     go_ret
     exact RetE.no HF.out (by decide) (below_step HB4.out HB6.out)
    | true =>
     have HJ2 := As (show ∀ j, j < i + 1 → htB ds (ps.getD j z0) (fs.getD (al.getD j 0).toNat z0) = true from fun j hj => by
      by_cases he : j = i
      ·subst he; rw [← HJN.out]; exact HBT.out
      ·exact HJ.out j (by omega))
     have y0 := y06
     have y1 := y16
     have y2 := y26
     clear y0d y1d y2d i0d t0d t1d t2d y06 y16 y26 i06 t06 t16 t26
     go_wp2_with fail
     with_reducible refine (nodes_all y.sz y ok _ _ (Nat.le_refl _) HY6.out HYS.out).mono ?_
     rintro e7 w7 ⟨rfl, hb⟩
     have HB7 := As (below_step HB6.out hb)
     clear hb
     obtain ⟨ysz, hyz⟩ : ∃ z, y.sz = z := ⟨_, rfl⟩
     rw [hyz] at hysz hsn HSN ⊢
     clear hyz
     go_wp2
     go_roundw
     case rel => exact ⟨i + 1, s + ysz, by go_num, by go_num, by omega, hsn, HSN, HJ2, HB7⟩
     case measure => simp [intOf]; omega
   ·have hlb : decide ((i : Int) < (na : Int)) = false := decide_eq_false (by omega)
    have hie : i = na := by omega
    subst hie
    have HSF := As (show s = 1 + szl ps by rw [HS.out, ← HPL.out, List.take_length])
    have HDr := As (HD4.out.below HBl.out)
    have HXr := As (HX4.out.below HBl.out)
    have HTr := As (HT4.out.below HBl.out)
    replace a0 := pw_cell_below HBl.out a0
    replace a1 := pw_cell_below HBl.out a1
    replace a2 := pw_cell_below HBl.out a2
    replace b0 := pw_cell_below HBl.out b0
    replace b1 := pw_cell_below HBl.out b1
    replace b2 := pw_cell_below HBl.out b2
    go_wp2_with fail
    with_reducible refine (HasType_fn ds x t ok _ _ _ _ HOKr.out HDr.out HXr.out HTr.out).mono ?_
    rintro e8 w8 ⟨rfl, hb⟩
    have HB8 := As (below_step HBw.out hb)
    have HX8 := As (HXr.out.below hb)
    replace b0 := pw_cell_below hb b0
    replace b1 := pw_cell_below hb b1
    replace b2 := pw_cell_below hb b2
    obtain ⟨bt, hbt⟩ : ∃ bt, htB ds x t = bt := ⟨_, rfl⟩
    rw [hbt]
    have HBT := As hbt
    clear hb hbt a0 a1 a2
    cases bt with
    | false =>
     have HF := As (show ¬ Chk ds t (qn : Int) ps x n from fun h => by
      have h1 := (HCR.out h).2.2.2.2.1
      rw [HBT.out] at h1
      cases h1)
     go_wp2
     go_ret
     exact RetE.no HF.out (by decide) HB8.out
    | true =>
     go_wp2_with fail
     with_reducible refine (nodes_all x.sz x ok _ _ (Nat.le_refl _) HX8.out HXS.out).mono ?_
     rintro e9 w9 ⟨rfl, hb⟩
     have HB9 := As (below_step HB8.out hb)
     clear hb
     have hns : n * s ≤ 5000 * 1000001 := Nat.mul_le_mul HN5.out hs1
     obtain ⟨pr, hpr⟩ : ∃ pr : Nat, n * s = pr := ⟨_, rfl⟩
     have HPR := As (show pr = n * (1 + szl ps) by rw [← hpr, HSF.out])
     have hw1 : IntKind.i64.wrap ((n : Int) * (s : Int)) = (pr : Int) := by
      rw [show ((n : Int) * (s : Int)) = ((n * s : Nat) : Int) from (Int.natCast_mul n s).symm, hpr]
      exact IntWalk.i64_in _ (by omega)
     obtain ⟨xz, hxz⟩ : ∃ z, x.sz = z := ⟨_, rfl⟩
     have HXZ := As hxz
     have hxl : xz ≤ 1000000 := by rw [← hxz]; exact HXS.out
     rw [hxz]
     have hw2 : IntKind.i64.wrap ((xz : Int) + (pr : Int)) = ((xz + pr : Nat) : Int) := by
      rw [IntWalk.i64_in _ (by omega)]
      omega
     obtain ⟨tot, htot⟩ : ∃ z, xz + pr = z := ⟨_, rfl⟩
     rw [htot] at hw2
     have HTOT := As (show x.sz + n * (1 + szl ps) = tot by rw [hxz, ← HPR.out, htot])
     clear hxz htot hpr hns
     by_cases hbig : 5000 < tot
     ·have hbb : decide ((5000 : Int) < (tot : Int)) = true := decide_eq_true (by omega)
      have hbn : decide (5000 < tot) = true := decide_eq_true hbig
      have HF := As (show ¬ Chk ds t (qn : Int) ps x n from fun h => by
       have h1 := (HCR.out h).2.2.2.2.2
       rw [HTOT.out] at h1
       omega)
      clear hbig
      go_wp2
      go_ret
      exact RetE.no HF.out (by decide) HB9.out
     ·have hbb : decide ((5000 : Int) < (tot : Int)) = false := decide_eq_false (by omega)
      have hbn : decide (5000 < tot) = false := decide_eq_false hbig
      have HF := As (show Chk ds t (qn : Int) ps x n from HCM.out HR1.out HF0.out (by rw [HPL.out, HNA.out]) (by rw [HPL.out]; exact HJ.out) HBT.out (by rw [HTOT.out]; omega))
      clear hbig
      go_wp2
      go_ret
      exact RetE.yes HF.out HB9.out
/-
  The contract of fit.Chain.
-/
/-- The place of the one recursive field. -/
def rO (ds : List Dt) (t : Tr) (q : Int) : Nat := ((rcs (bsO ds t q) (bsO ds t q).length).getD 0 0).toNat
/-- The chain. -/
def chO (ds : List Dt) (t : Tr) (q : Int) (ps : List Tr) (x : Tr) (n : Nat) : Tr := chainT q (bsO ds t q).length (atO ds t q) ps (rO ds t q) x n
theorem rcs_mem {bs : List Bool} (h : (rcs bs bs.length).length = 1) : rcs bs bs.length = [(((rcs bs bs.length).getD 0 0).toNat : Int)] ∧ ((rcs bs bs.length).getD 0 0).toNat < bs.length ∧ bs.getD ((rcs bs bs.length).getD 0 0).toNat false = true := by
 obtain ⟨z, hz⟩ := List.length_eq_one_iff.1 h
 have h1 : z ∈ rcs bs bs.length := by rw [hz]; exact List.mem_singleton.2 rfl
 unfold rcs at h1
 rw [List.mem_map] at h1
 obtain ⟨p, hp, he⟩ := h1
 rw [hz]
 have h2 : ([z] : List Int).getD 0 0 = z := rfl
 rw [h2, ← he]
 exact ⟨rfl, by have := List.mem_range.1 (List.mem_filter.1 hp).1; exact this, (List.mem_filter.1 hp).2⟩
def RetCh (ok : Nat → Prop) (p : Prop) (y : Tr) (w0 : World) (e : Ending) (w' : World) : Prop := ∃ (a b er : Int) (A : Option Addr) (m c : Nat), e = .returned (.tuple #[.agg #[.int .i64 a, .int .i64 b, .slice A m c], .int .i64 er]) ∧ (er = 0 ↔ p) ∧ (er = 0 → ITr 28 w' ok (.agg #[.int .i64 a, .int .i64 b, .slice A m c]) y) ∧ Below w0.heap.size w0 w'
set_option maxRecDepth 100000 in
set_option maxHeartbeats 8000000 in
theorem Chain_fn (ds : List Dt) (t : Tr) (q : Int) (ps : List Tr) (x : Tr) (n : Nat) (ok : Nat → Prop) (vd vt vp vx : Value) (w : World) (hok : ∀ k, w.heap.size ≤ k → ok k) (hd : LDt w ok vd ds) (ht : ITr 25 w ok vt t) (hp : LTr 28 w ok vp ps) (hx : ITr 28 w ok vx x)
  (hn : n ≤ 5000) (hps : szl ps ≤ 1000000) (hxs : x.sz ≤ 1000000) : Calls Tryz.prog 6 #[vd, vt, .int .i64 q, vp, vx, .int .i64 (n : Int)] w (RetCh ok (Chk ds t q ps x n) (chO ds t q ps x n) w) := by
 obtain ⟨Ax, cx, rfl⟩ := hx.shape
 obtain ⟨At, ct, rfl⟩ := ht.shape
 obtain ⟨W1, hW1⟩ : ∃ W1, w.alloc (.cells #[.int .i64 t.k, .int .i64 t.n, .slice At t.l.length ct] 25) = W1 := ⟨_, rfl⟩
 obtain ⟨W2, hW2⟩ : ∃ W2, W1.alloc (.cells #[.int .i64 x.k, .int .i64 x.n, .slice Ax x.l.length cx] 28) = W2 := ⟨_, rfl⟩
 obtain ⟨W3, hW3⟩ : ∃ W3, W2.alloc (.cells #[.int .i64 0, .int .i64 0, .slice none 0 0] 28) = W3 := ⟨_, rfl⟩
 obtain ⟨gt, hgt⟩ : ∃ gt, gt = w.heap.size := ⟨_, rfl⟩
 obtain ⟨gx, hgx⟩ : ∃ gx, gx = w.heap.size + 1 := ⟨_, rfl⟩
 obtain ⟨gr, hgr⟩ : ∃ gr, gr = w.heap.size + 1 + 1 := ⟨_, rfl⟩
 have hs1 : W1.heap.size = gx := by rw [hgx, ← hW1]; show (w.heap.push _).size = _; simp
 have hs2 : W2.heap.size = gr := by rw [hgr, ← hW2]; show (W1.heap.push _).size = _; simp; omega
 have hb1 : Below w.heap.size w W1 := by rw [← hW1]; exact below_alloc (Below.refl _ _) _
 have hb12 : Below W1.heap.size W1 W2 := by rw [← hW2]; exact below_alloc (Below.refl _ _) _
 have hb23 : Below W2.heap.size W2 W3 := by rw [← hW3]; exact below_alloc (Below.refl _ _) _
 have hg1 : W1.heap[gt]? = some (.cells #[.int .i64 t.k, .int .i64 t.n, .slice At t.l.length ct] 25 (0, 0)) := by rw [hgt, ← hW1]; exact heap_alloc_new _ _
 have hg2 : W2.heap[gx]? = some (.cells #[.int .i64 x.k, .int .i64 x.n, .slice Ax x.l.length cx] 28 (0, 0)) := by rw [← hs1, ← hW2]; exact heap_alloc_new _ _
 have hg3 : W3.heap[gr]? = some (.cells #[.int .i64 0, .int .i64 0, .slice none 0 0] 28 (0, 0)) := by rw [← hs2, ← hW3]; exact heap_alloc_new _ _
 have hG1 := blk_below hg1 (below_step hb12 hb23)
 have hG2 := blk_below hg2 hb23
 have hb3 := below_step (below_step hb1 hb12) hb23
 obtain ⟨okz, hokz⟩ : ∃ okz : Nat → Prop, okz = fun k => ok k ∧ k ≠ gr := ⟨_, rfl⟩
 have hold : ∀ k, (ok k ∧ k < w.heap.size) → okz k := fun k hk => by rw [hokz]; exact ⟨hk.1, by have := hk.2; omega⟩
 have HOKZ := As hokz
 have HOK3 := As (show ∀ k, W3.heap.size ≤ k → okz k from fun k hk => by rw [hokz]; have := blk_lt hg3; exact ⟨hok k (Nat.le_trans hb3.size hk), by omega⟩)
 have a0 : W3.cell? ⟨gt, 0, none⟩ = some (.int .i64 t.k) := (blk_cell hG1 0).trans rfl
 have a1 : W3.cell? ⟨gt, 1, none⟩ = some (.int .i64 t.n) := (blk_cell hG1 1).trans rfl
 have a2 : W3.cell? ⟨gt, 2, none⟩ = some (.slice At t.l.length ct) := (blk_cell hG1 2).trans rfl
 have b0 : W3.cell? ⟨gx, 0, none⟩ = some (.int .i64 x.k) := (blk_cell hG2 0).trans rfl
 have b1 : W3.cell? ⟨gx, 1, none⟩ = some (.int .i64 x.n) := (blk_cell hG2 1).trans rfl
 have b2 : W3.cell? ⟨gx, 2, none⟩ = some (.slice Ax x.l.length cx) := (blk_cell hG2 2).trans rfl
 have HD3 := As ((hd.old hb3).mono hold)
 have HX3 := As ((hx.old hb3).mono hold)
 have HT3 := As ((ht.old hb3).mono hold)
 have HP3 := As ((hp.old hb3).mono hold)
 have HW3 := As (show ((w.alloc (.cells #[.int .i64 t.k, .int .i64 t.n, .slice At t.l.length ct] 25)).alloc (.cells #[.int .i64 x.k, .int .i64 x.n, .slice Ax x.l.length cx] 28)).alloc (.cells #[.int .i64 0, .int .i64 0, .slice none 0 0] 28) = W3 by rw [hW1, hW2]; exact hW3)
 have HB3 := As hb3
 have HG3 := As hg3
 have HGX := As hgx
 have HGT := As hgt
 have HGR := As hgr
 have HLE := As (show w.heap.size ≤ gr by omega)
 have HPS := As hps
 have HXS := As hxs
 have HN5 := As hn
 clear hW1 hW2 hW3 hs1 hs2 hb1 hb12 hb23 hg1 hg2 hg3 hG1 hG2 hgx hgt hgr hb3 hd ht hx hp hok hps hxs hokz hold
 go_enter Tryz.func6, Tryz.ntmps6
 go_upto_region 1 with fail
 rw [HW3.out, ← HGR.out, ← HGX.out, ← HGT.out]
 go_wp2_with fail
 with_reducible refine (check_fn ds t q ps x n okz _ _ _ _ _ HOK3.out HD3.out HT3.out HP3.out HX3.out HN5.out HPS.out HXS.out).mono ?_
 rintro e w4 ⟨er, rfl, her, hb⟩
 have HB4 := As (below_step HB3.out hb)
 have HD4 := As (HD3.out.below hb)
 have HX4 := As (HX3.out.below hb)
 have HT4 := As (HT3.out.below hb)
 have HP4 := As (HP3.out.below hb)
 have HG4 := As (blk_below HG3.out hb)
 have HOK4 := As (show ∀ k, w4.heap.size ≤ k → okz k from fun k hk => HOK3.out k (Nat.le_trans hb.size hk))
 replace a0 := pw_cell_below hb a0
 replace a1 := pw_cell_below hb a1
 replace a2 := pw_cell_below hb a2
 replace b0 := pw_cell_below hb b0
 replace b1 := pw_cell_below hb b1
 replace b2 := pw_cell_below hb b2
 have HER := As her
 clear hb her HD3 HX3 HT3 HP3 HG3 HB3 HOK3
 by_cases h0 : er = 0
 ·subst h0
  have hC := HER.out.1 rfl
  have HV := As (show VD ds ∧ t.ok ds 0 = true from by
   have h1 := hC.kn
   unfold knB at h1
   rw [Bool.and_eq_true] at h1
   exact ⟨((vdB_iff ds).1 h1.1).vd, h1.2⟩)
  obtain ⟨qn, rfl⟩ := Int.eq_ofNat_of_zero_le hC.q0
  obtain ⟨hm0, hm1, hm2⟩ := vld_data (Tr.ok_iff.1 HV.out.2).2 hC.k5
  obtain ⟨m, hm⟩ := Int.eq_ofNat_of_zero_le hm0
  obtain ⟨hr1, hr2, hr3⟩ := rcs_mem hC.r1
  obtain ⟨hf1, hf2⟩ := fields_len hC.f1
  have HM := As hm
  have HMD := As (show m < ds.length by omega)
  have HQL := As (show qn < (ds.getD m d0).l.length by have h1 := hC.q1; unfold fldD at h1; rw [hm] at h1; exact Int.ofNat_lt.1 h1)
  have HFS := As (show (fieldsP ds ⟨t.k, (m : Int), t.l⟩ (qn : Int)).getD [] = fsO ds t (qn : Int) by rw [← hm]; rfl)
  have HBS := As (show recsOf ds m qn = bsO ds t (qn : Int) by unfold bsO; rw [hm]; rfl)
  have HFL := As hf2
  have HPL := As (show ps.length = (pay (bsO ds t (qn : Int)) (bsO ds t (qn : Int)).length).length from hC.pl)
  have HR1 := As (show rcs (bsO ds t (qn : Int)) (bsO ds t (qn : Int)).length = [(rO ds t (qn : Int) : Int)] from hr1)
  have HR2 := As (show rO ds t (qn : Int) < (bsO ds t (qn : Int)).length from hr2)
  have HSZ := As (show szl t.l ≤ 1000000 by have h1 := (Tr.ok_iff.1 HV.out.2).1; rw [t.sz_eq] at h1; omega)
  have HNM := As (show n ≤ 1000000 by omega)
  have HT4' := As (show LTr 25 w4 okz (.slice At t.l.length ct) t.l from HT4.out.kids.2.2.2)
  rw [hm] at a1
  have hne : ((0 : Int) != 0) = false := rfl
  clear hC hm0 hm1 hm2 hm hr1 hr2 hr3 hf1 hf2
  go_wp2_with fail
  with_reducible refine (chain_val ds t.k m qn t.l ps x n (rO ds t (qn : Int)) _ _ okz _ _ _ _ _ _ _ HOK4.out HD4.out HT4'.out HP4.out HX4.out HV.out.1.small HSZ.out HMD.out HQL.out HFS.out HBS.out HFL.out HPL.out HR1.out HR2.out HPS.out HXS.out HNM.out).mono ?_
  rintro e w5 ⟨v5, rfl, hv, hb⟩
  have HB5 := As (below_step HB4.out hb)
  have HG5 := As (blk_below HG4.out hb)
  obtain ⟨y, hy⟩ : ∃ y, chO ds t (qn : Int) ps x n = y := ⟨_, rfl⟩
  have HY := As hy
  replace hv : ITr 28 w5 okz v5 y := by rw [← hy]; exact hv
  have HV5 := As hv
  obtain ⟨A5, c5, rfl⟩ := hv.shape
  have r0 : w5.cell? ⟨gr, 0, none⟩ = some (.int .i64 0) := (blk_cell HG5.out 0).trans rfl
  have r1 : w5.cell? ⟨gr, 1, none⟩ = some (.int .i64 0) := (blk_cell HG5.out 1).trans rfl
  have r2 : w5.cell? ⟨gr, 2, none⟩ = some (.slice none 0 0) := (blk_cell HG5.out 2).trans rfl
  have f0 := blk_frozen HG5.out 0
  have f1 := blk_frozen HG5.out 1
  have f2 := blk_frozen HG5.out 2
  have hgl := blk_lt HG5.out
  clear hb hv hy a0 a1 a2 b0 b1 b2
  go_wp2
  refine bodyPost_ret (v := .tuple #[.agg #[.int .i64 y.k, .int .i64 y.n, .slice A5 y.l.length c5], .int .i64 0]) (by simp [results, Tryz.results6, go_sem, hgl, r0, r1, r2]) rfl ⟨_, _, 0, _, _, _, rfl, ⟨fun _ => HER.out.1 trivial, fun _ => rfl⟩, fun _ => ?_, ?_⟩
  ·rw [HY.out]
   refine (HV5.out.step (fun k hk _ => ?_)).mono (fun k hk => ?_)
   ·rw [HOKZ.out] at hk
    rw [Below.heap_setCell _ _ _ _ hk.2, Below.heap_setCell _ _ _ _ hk.2, Below.heap_setCell _ _ _ _ hk.2]
   ·rw [HOKZ.out] at hk
    exact hk.1
  ·exact below_set (below_set (below_set HB5.out HLE.out) HLE.out) HLE.out
 ·have hnb : (er != 0) = true := bne_iff_ne.2 h0
  have HNE := As h0
  have r0 : w4.cell? ⟨gr, 0, none⟩ = some (.int .i64 0) := (blk_cell HG4.out 0).trans rfl
  have r1 : w4.cell? ⟨gr, 1, none⟩ = some (.int .i64 0) := (blk_cell HG4.out 1).trans rfl
  have r2 : w4.cell? ⟨gr, 2, none⟩ = some (.slice none 0 0) := (blk_cell HG4.out 2).trans rfl
  have f0 := blk_frozen HG4.out 0
  have f1 := blk_frozen HG4.out 1
  have f2 := blk_frozen HG4.out 2
  have hgl := blk_lt HG4.out
  clear h0
  go_wp2
  refine bodyPost_ret (v := .tuple #[.agg #[.int .i64 0, .int .i64 0, .slice none 0 0], .int .i64 er]) (by simp [results, Tryz.results6, go_sem, hgl, r0, r1, r2]) rfl ⟨_, _, er, _, _, _, rfl, HER.out, fun h => absurd h HNE.out, ?_⟩
  exact below_set (below_set (below_set HB4.out HLE.out) HLE.out) HLE.out
/-
  The contract of value.Compare at equal values.
-/
theorem nan_int (a : Int) (w : World) : Calls Tryz.prog 41 #[.int .i64 a] w (RetB false w) := by
 have HB := As (Below.refl w.heap.size w)
 have h1 : (a != a) = false := bne_eq_false_iff_eq.2 rfl
 go_enter Tryz.func41, Tryz.ntmps41
 go_wp2
 go_ret
 exact RetB.mk rfl HB.out
theorem nan_int64 (a : Int) (w : World) : Calls Tryz.prog 42 #[.int .i64 a] w (RetB false w) := by
 have HB := As (Below.refl w.heap.size w)
 have h1 : (a != a) = false := bne_eq_false_iff_eq.2 rfl
 go_enter Tryz.func42, Tryz.ntmps42
 go_wp2
 go_ret
 exact RetB.mk rfl HB.out
theorem cmp_int (a : Int) (w : World) : Calls Tryz.prog 21 #[.int .i64 a, .int .i64 a] w (RetN 0 w) := by
 have h1 : decide (a < a) = false := decide_eq_false (by omega)
 go_enter Tryz.func21, Tryz.ntmps21
 go_wp2_with fail
 with_reducible refine (nan_int a _).mono ?_
 rintro e w1 ⟨rfl, hb⟩
 have HB1 := As hb
 clear hb
 go_wp2_with fail
 with_reducible refine (nan_int a _).mono ?_
 rintro e w2 ⟨rfl, hb⟩
 have HB2 := As (below_step HB1.out hb)
 clear hb
 go_wp2
 go_ret
 exact RetN.mk rfl HB2.out
theorem cmp_int64 (a : Int) (w : World) : Calls Tryz.prog 22 #[.int .i64 a, .int .i64 a] w (RetN 0 w) := by
 have h1 : decide (a < a) = false := decide_eq_false (by omega)
 go_enter Tryz.func22, Tryz.ntmps22
 go_wp2_with fail
 with_reducible refine (nan_int64 a _).mono ?_
 rintro e w1 ⟨rfl, hb⟩
 have HB1 := As hb
 clear hb
 go_wp2_with fail
 with_reducible refine (nan_int64 a _).mono ?_
 rintro e w2 ⟨rfl, hb⟩
 have HB2 := As (below_step HB1.out hb)
 clear hb
 go_wp2
 go_ret
 exact RetN.mk rfl HB2.out
set_option maxRecDepth 100000 in
theorem or_zero (g : Nat) (w : World) (h : w.heap[g]? = some (.cells #[.int .i64 0, .int .i64 0, .int .i64 0] 3 (0, 0))) : Calls Tryz.prog 20 #[.slice (some ⟨g, 0, none⟩) 3 3] w (RetN 0 w) := by
 obtain ⟨W1, hW1⟩ : ∃ W1, W1 = w := ⟨_, rfl⟩
 rw [← hW1] at h ⊢
 have HB := As (Below.refl W1.heap.size W1)
 have HG := As h
 clear hW1 h
 go_enter Tryz.func20, Tryz.ntmps20
 go_wp2
 go_loopw [8] (fun v8 wr => ∃ i : Nat, v8 = .int .i64 i ∧ i ≤ 3 ∧ W1 = wr) (fun v8 _ => 3 - (intOf v8).toNat)
 case atStart => exact ⟨0, rfl, by omega, by first | rfl | trivial⟩
 case round =>
  obtain ⟨i, rfl, hi, rfl⟩ := hrel
  by_cases hlt : i < 3
  ·have hlb : decide ((i : Int) < 3) = true := decide_eq_true (by omega)
   have hln : decide (i < 3) = true := decide_eq_true hlt
   have hc : W1.cell? ⟨g, i, none⟩ = some (.int .i64 0) := by
    have h1 := blk_cell HG.out i
    rw [h1]
    rcases (by omega : i = 0 ∨ i = 1 ∨ i = 2) with rfl | rfl | rfl <;> rfl
   go_wp2
   go_roundw
   case rel => exact ⟨i + 1, by go_num, by omega, by first | rfl | trivial⟩
   case measure => simp [intOf]; omega
  ·have hlb : decide ((i : Int) < 3) = false := decide_eq_false (by omega)
   have hln : decide (i < 3) = false := decide_eq_false hlt
   go_wp2
   go_ret
   exact RetN.mk rfl HB.out
set_option maxRecDepth 100000 in
set_option maxHeartbeats 8000000 in
theorem compare_same (N : Nat) : ∀ (x : Tr) (ok ok' : Nat → Prop) (v v' : Value) (w : World), x.sz ≤ N → ITr 28 w ok v x → ITr 28 w ok' v' x → Calls Tryz.prog 8 #[v, v'] w (RetN 0 w) := by
 induction N with
 | zero => intro x ok ok' v v' w h; have := x.sz_eq; omega
 | succ N ih =>
  intro x ok ok' v v' w hN hx hy
  obtain ⟨A, c, rfl⟩ := hx.shape
  obtain ⟨B, d, rfl⟩ := hy.shape
  have hmx := (hx.kids.2.2.2).max
  have HX := As hx.kids.2.2.2
  have HY := As hy.kids.2.2.2
  have IH := As (show ∀ i, i < x.l.length → ∀ (v v' : Value) (w : World), ITr 28 w ok v (x.l.getD i z0) → ITr 28 w ok' v' (x.l.getD i z0) → Calls Tryz.prog 8 #[v, v'] w (RetN 0 w) from fun i hi v v' w h1 h2 => ih _ ok ok' v v' w (by have := kid_sz hi; omega) h1 h2)
  obtain ⟨xk, hxk⟩ : ∃ k, x.k = k := ⟨_, rfl⟩
  obtain ⟨xn, hxn⟩ : ∃ k, x.n = k := ⟨_, rfl⟩
  obtain ⟨xl, hxl⟩ : ∃ l, x.l = l := ⟨_, rfl⟩
  rw [hxk, hxn, hxl]
  rw [hxl] at HX HY IH hmx
  clear hx hy ih hN hxk hxn hxl
  obtain ⟨W1, hW1⟩ : ∃ W1, w.alloc (.cells #[.int .i64 xk, .int .i64 xn, .slice A xl.length c] 28) = W1 := ⟨_, rfl⟩
  obtain ⟨W2, hW2⟩ : ∃ W2, W1.alloc (.cells #[.int .i64 xk, .int .i64 xn, .slice B xl.length d] 28) = W2 := ⟨_, rfl⟩
  obtain ⟨gx, hgx⟩ : ∃ gx, gx = w.heap.size := ⟨_, rfl⟩
  obtain ⟨gy, hgy⟩ : ∃ gy, gy = w.heap.size + 1 := ⟨_, rfl⟩
  have hs1 : W1.heap.size = gy := by rw [hgy, ← hW1]; show (w.heap.push _).size = _; simp
  have hb1 : Below w.heap.size w W1 := by rw [← hW1]; exact below_alloc (Below.refl _ _) _
  have hb12 : Below W1.heap.size W1 W2 := by rw [← hW2]; exact below_alloc (Below.refl _ _) _
  have hg1 : W1.heap[gx]? = some (.cells #[.int .i64 xk, .int .i64 xn, .slice A xl.length c] 28 (0, 0)) := by rw [hgx, ← hW1]; exact heap_alloc_new _ _
  have hg2 : W2.heap[gy]? = some (.cells #[.int .i64 xk, .int .i64 xn, .slice B xl.length d] 28 (0, 0)) := by rw [← hs1, ← hW2]; exact heap_alloc_new _ _
  have hbd := below_drew1 (Below.refl W2.heap.size W2)
  have hG1 := blk_below (blk_below hg1 hb12) hbd
  have hG2 := blk_below hg2 hbd
  have a0 : W2.drew.cell? ⟨gx, 0, none⟩ = some (.int .i64 xk) := (blk_cell hG1 0).trans rfl
  have a1 : W2.drew.cell? ⟨gx, 1, none⟩ = some (.int .i64 xn) := (blk_cell hG1 1).trans rfl
  have a2 : W2.drew.cell? ⟨gx, 2, none⟩ = some (.slice A xl.length c) := (blk_cell hG1 2).trans rfl
  have b0 : W2.drew.cell? ⟨gy, 0, none⟩ = some (.int .i64 xk) := (blk_cell hG2 0).trans rfl
  have b1 : W2.drew.cell? ⟨gy, 1, none⟩ = some (.int .i64 xn) := (blk_cell hG2 1).trans rfl
  have b2 : W2.drew.cell? ⟨gy, 2, none⟩ = some (.slice B xl.length d) := (blk_cell hG2 2).trans rfl
  have HB := As (below_step (below_step hb1 hb12) hbd)
  have HW2 := As (show (w.alloc (.cells #[.int .i64 xk, .int .i64 xn, .slice A xl.length c] 28)).alloc (.cells #[.int .i64 xk, .int .i64 xn, .slice B xl.length d] 28) = W2 by rw [hW1]; exact hW2)
  have HGX := As hgx
  have HGY := As hgy
  clear hW1 hW2 hs1 hb1 hb12 hg1 hg2 hG1 hG2 hgx hgy hbd
  go_enter Tryz.func8, Tryz.ntmps8
  go_upto_region 1 with fail
  rw [HW2.out, ← HGY.out, ← HGX.out]
  go_cut [5] from 7 to 25 (fun v wx => v = .int .i64 0 ∧ Aside0 (Below w.heap.size w wx ∧ wx.cell? ⟨gx, 2, none⟩ = some (.slice A xl.length c) ∧ wx.cell? ⟨gy, 2, none⟩ = some (.slice B xl.length d)))
  case first =>
   go_region_held3 (fun w' => w'.cell? ⟨gx, 0, none⟩ = some (.int .i64 xk) ∧ w'.cell? ⟨gx, 1, none⟩ = some (.int .i64 xn) ∧ w'.cell? ⟨gx, 2, none⟩ = some (.slice A xl.length c) ∧ w'.cell? ⟨gy, 0, none⟩ = some (.int .i64 xk) ∧ w'.cell? ⟨gy, 1, none⟩ = some (.int .i64 xn) ∧ w'.cell? ⟨gy, 2, none⟩ = some (.slice B xl.length d)) (first | exact ⟨a0, a1, a2, b0, b1, b2⟩ | exact ⟨pw_cell_below (below_alloc (Below.refl _ _) _) a0, pw_cell_below (below_alloc (Below.refl _ _) _) a1, pw_cell_below (below_alloc (Below.refl _ _) _) a2, pw_cell_below (below_alloc (Below.refl _ _) _) b0, pw_cell_below (below_alloc (Below.refl _ _) _) b1, pw_cell_below (below_alloc (Below.refl _ _) _) b2⟩) (first
    | (go_at_call 21; (with_reducible refine (cmp_int _ _).mono ?_); rintro e w1 ⟨rfl, hb⟩; have n0 := As (below_step HB.out hb); clear HB; have HB := n0; clear n0; replace a0 := pw_cell_below hb a0; replace a1 := pw_cell_below hb a1; replace a2 := pw_cell_below hb a2; replace b0 := pw_cell_below hb b0; replace b1 := pw_cell_below hb b1; replace b2 := pw_cell_below hb b2; clear hb)
    | (go_at_call 22; (with_reducible refine (cmp_int64 _ _).mono ?_); rintro e w1 ⟨rfl, hb⟩; have n0 := As (below_step HB.out hb); clear HB; have HB := n0; clear n0; replace a0 := pw_cell_below hb a0; replace a1 := pw_cell_below hb a1; replace a2 := pw_cell_below hb a2; replace b0 := pw_cell_below hb b0; replace b1 := pw_cell_below hb b1; replace b2 := pw_cell_below hb b2; clear hb)
    | (go_at_call 20; (with_reducible refine (or_zero _ _ (heap_alloc_new _ _)).mono ?_); rintro e w1 ⟨rfl, hb0⟩; have hb := below_step (below_alloc (Below.refl _ _) _) hb0; have n0 := As (below_step HB.out hb); clear HB; have HB := n0; clear n0; replace a0 := pw_cell_below hb a0; replace a1 := pw_cell_below hb a1; replace a2 := pw_cell_below hb a2; replace b0 := pw_cell_below hb b0; replace b1 := pw_cell_below hb b1; replace b2 := pw_cell_below hb b2; clear hb hb0))
   all_goals
    (go_wp2
     go_meet
     case rel => exact ⟨rfl, ⟨HB.out, a2, b2⟩⟩)
  case rest =>
   obtain ⟨rfl, HR⟩ := hcut
   have a2 := HR.out.2.1
   have b2 := HR.out.2.2
   have HB := As HR.out.1
   have HRr := As (Below.refl wc.heap.size wc)
   have HA2 := As a2
   have HB2 := As b2
   clear HR
   go_wp2
   go_loopw [5, 6] (fun v5 v6 wr => ∃ i : Nat, v5 = .int .i64 0 ∧ v6 = .int .i64 i ∧ i ≤ xl.length ∧ Aside0 (Below wc.heap.size wc wr)) (fun _ v6 _ => xl.length - (intOf v6).toNat)
   case atStart => exact ⟨0, rfl, rfl, Nat.zero_le _, HRr⟩
   case round =>
    clear HRr a2 b2
    obtain ⟨i, rfl, rfl, hi, HBl⟩ := hrel
    have HBw := As (below_step HB.out HBl.out)
    have a2 := pw_cell_below HBl.out HA2.out
    have b2 := pw_cell_below HBl.out HB2.out
    by_cases hlt : i < xl.length
    · have hlb : decide ((i : Int) < (xl.length : Int)) = true := decide_eq_true (by omega)
      have hbd : Below wr.heap.size wr wr.drew := below_drew1 (Below.refl _ _)
      obtain ⟨pb, po, A1, c1, hA1, p0, p1, p2, hk1⟩ := (HX.out.below HBw.out).at i hlt
      obtain ⟨qb, qo, B1, d1, hB1, q0, q1, q2, hk2⟩ := (HY.out.below HBw.out).at i hlt
      subst hA1
      subst hB1
      have HIH := As (IH.out i hlt)
      obtain ⟨y, hy⟩ : ∃ y, xl.getD i z0 = y := ⟨_, rfl⟩
      rw [hy] at p0 p1 p2 hk1 q0 q1 q2 hk2 HIH
      have HK1 := As (hk1.below hbd)
      have HK2 := As (hk2.below hbd)
      have HBd := As (below_step HBl.out hbd)
      have a2d := pw_cell_below hbd a2
      have b2d := pw_cell_below hbd b2
      replace p0 := pw_cell_below hbd p0
      replace p1 := pw_cell_below hbd p1
      replace p2 := pw_cell_below hbd p2
      replace q0 := pw_cell_below hbd q0
      replace q1 := pw_cell_below hbd q1
      replace q2 := pw_cell_below hbd q2
      clear hy hk1 hk2 hbd
      go_upto_region 5 with fail
      go_region_held3 (fun w' => w'.cell? ⟨gx, 2, none⟩ = some (.slice (some ⟨pb, po, none⟩) xl.length c) ∧ w'.cell? ⟨gy, 2, none⟩ = some (.slice (some ⟨qb, qo, none⟩) xl.length d) ∧ w'.cell? ⟨pb, po + i * 3, none⟩ = some (.int .i64 y.k) ∧ w'.cell? ⟨pb, po + i * 3 + 1, none⟩ = some (.int .i64 y.n) ∧ w'.cell? ⟨pb, po + i * 3 + 2, none⟩ = some (.slice A1 y.l.length c1) ∧ w'.cell? ⟨qb, qo + i * 3, none⟩ = some (.int .i64 y.k) ∧ w'.cell? ⟨qb, qo + i * 3 + 1, none⟩ = some (.int .i64 y.n) ∧ w'.cell? ⟨qb, qo + i * 3 + 2, none⟩ = some (.slice B1 y.l.length d1)) (first | exact ⟨a2d, b2d, p0, p1, p2, q0, q1, q2⟩) (first
       | (go_at_call 8; (with_reducible refine (HIH.out _ _ _ HK1.out HK2.out).mono ?_); rintro e w1 ⟨rfl, hb⟩; have HB3 := As (below_step HBd.out hb); replace a2d := pw_cell_below hb a2d; replace b2d := pw_cell_below hb b2d; replace p0 := pw_cell_below hb p0; replace p1 := pw_cell_below hb p1; replace p2 := pw_cell_below hb p2; replace q0 := pw_cell_below hb q0; replace q1 := pw_cell_below hb q1; replace q2 := pw_cell_below hb q2; clear hb))
      all_goals
       (go_wp2
        go_roundw
        case rel => exact ⟨i + 1, rfl, by go_num, by omega, HB3⟩
        case measure => simp [intOf]; omega)
    · have hlb : decide ((i : Int) < (xl.length : Int)) = false := decide_eq_false (by omega)
      go_wp2
      go_ret
      exact RetN.mk rfl HBw.out
/-
  Chains: the plain law.
-/
theorem sz_pos (x : Tr) : 1 ≤ x.sz := by rw [x.sz_eq]; omega
theorem szl_set (y : Tr) : ∀ (l : List Tr) (i : Nat), szl (l.set i y) + 1 ≤ szl l + y.sz
 | [], i => by have := sz_pos y; simp [szl]; omega
 | a :: l, 0 => by have := sz_pos a; rw [List.set_cons_zero, szl, szl]; omega
 | a :: l, i + 1 => by have := szl_set y l i; rw [List.set_cons_succ, szl, szl]; omega
theorem szl_rep : ∀ F : Nat, szl (List.replicate F z0) = F
 | 0 => rfl
 | F + 1 => by rw [List.replicate_succ, szl, szl_rep F, z0.sz_eq]; show 1 + 0 + F = _; omega
theorem place_szl (F : Nat) (pl : List Int) (ps : List Tr) : ∀ i, i ≤ ps.length → szl (place F pl ps i) + i ≤ F + szl (ps.take i)
 | 0, _ => by rw [place, szl_rep]; omega
 | i + 1, h => by
  have h1 := place_szl F pl ps i (by omega)
  have h2 := szl_set (ps.getD i z0) (place F pl ps i) (pl.getD i 0).toNat
  rw [place, szl_next (by omega : i < ps.length)]
  omega
theorem stepT_sz (q : Int) (F : Nat) (pl : List Int) (ps : List Tr) (r : Nat) (v : Tr) (h : ps.length = pl.length) (hF : F = pl.length + 1) : (stepT q F pl ps r v).sz ≤ v.sz + (1 + szl ps) := by
 have h1 := place_szl F pl ps pl.length (by omega)
 have h2 := szl_set v (place F pl ps pl.length) r
 rw [← h, List.take_length] at h1
 rw [h] at h1
 rw [Tr.sz_eq]
 show 1 + szl ((place F pl ps pl.length).set r v) ≤ _
 omega
theorem chainT_sz (q : Int) (F : Nat) (pl : List Int) (ps : List Tr) (r : Nat) (v : Tr) (h : ps.length = pl.length) (hF : F = pl.length + 1) : ∀ n, (chainT q F pl ps r v n).sz ≤ v.sz + n * (1 + szl ps)
 | 0 => by rw [chainT]; omega
 | n + 1 => by
  have h1 := chainT_sz q F pl ps r v h hF n
  have h2 := stepT_sz q F pl ps r (chainT q F pl ps r v n) h hF
  rw [chainT, Nat.add_mul]
  omega
theorem chainT_add (q : Int) (F : Nat) (pl : List Int) (ps : List Tr) (r : Nat) (v : Tr) (n : Nat) : ∀ m, chainT q F pl ps r (chainT q F pl ps r v n) m = chainT q F pl ps r v (n + m)
 | 0 => rfl
 | m + 1 => by rw [chainT, chainT_add q F pl ps r v n m]; rfl
theorem pay_rcs (bs : List Bool) : ∀ i, (pay bs i).length + (rcs bs i).length = i
 | 0 => rfl
 | i + 1 => by
  have := pay_rcs bs i
  rw [pay_next, rcs_next, List.length_append, List.length_append]
  by_cases h : bs.getD i false = true
  ·rw [if_pos h, if_pos h]; simp; omega
  ·rw [if_neg h, if_neg h]; simp; omega
theorem pay_lt (bs : List Bool) (n : Nat) {j j' : Nat} (h : j < j') (h' : j' < (pay bs n).length) : (pay bs n).getD j 0 < (pay bs n).getD j' 0 := by
 have hp : (pay bs n).Pairwise (· < ·) := by
  unfold pay
  rw [List.pairwise_map]
  exact (List.pairwise_lt_range.filter _).imp (fun h => Int.ofNat_lt.2 h)
 have h1 := List.pairwise_iff_getElem.1 hp j j' (by omega) h' h
 rw [List.getD_eq_getElem?_getD, List.getD_eq_getElem?_getD, List.getElem?_eq_getElem h', List.getElem?_eq_getElem (by omega)]
 exact h1
theorem pay_has {bs : List Bool} {n i : Nat} (hi : i < n) (h : bs.getD i false = false) : ∃ j, j < (pay bs n).length ∧ (pay bs n).getD j 0 = (i : Int) := by
 have h1 : (i : Int) ∈ pay bs n := by
  unfold pay
  rw [List.mem_map]
  exact ⟨i, List.mem_filter.2 ⟨List.mem_range.2 hi, by rw [h]; rfl⟩, rfl⟩
 obtain ⟨j, hj, he⟩ := List.mem_iff_getElem.1 h1
 exact ⟨j, hj, by rw [List.getD_eq_getElem?_getD, List.getElem?_eq_getElem hj]; exact he⟩
theorem rcs_one {bs : List Bool} {n r i : Nat} (h : rcs bs n = [(r : Int)]) (hi : i < n) (hne : i ≠ r) : bs.getD i false = false := by
 rw [Bool.eq_false_iff]
 intro hb
 have h1 : (i : Int) ∈ rcs bs n := by
  unfold rcs
  rw [List.mem_map]
  exact ⟨i, List.mem_filter.2 ⟨List.mem_range.2 hi, hb⟩, rfl⟩
 rw [h, List.mem_singleton] at h1
 omega
theorem getD_set_same {l : List Tr} {i : Nat} {y : Tr} (h : i < l.length) : (l.set i y).getD i z0 = y := by
 rw [List.getD_eq_getElem?_getD, List.getElem?_set_self h]
 rfl
theorem getD_set_other {l : List Tr} {i j : Nat} {y : Tr} (h : i ≠ j) : (l.set i y).getD j z0 = l.getD j z0 := by
 rw [List.getD_eq_getElem?_getD, List.getElem?_set_ne h, List.getD_eq_getElem?_getD]
theorem place_get (F : Nat) (bs : List Bool) (m : Nat) (ps : List Tr) (hF : m ≤ F) : ∀ n, n ≤ (pay bs m).length → ∀ j, j < n → (place F (pay bs m) ps n).getD ((pay bs m).getD j 0).toNat z0 = ps.getD j z0
 | 0, _, j, h => absurd h (Nat.not_lt_zero j)
 | n + 1, hn, j, hj => by
  have hmem : ∀ k, k < (pay bs m).length → ∃ p : Nat, (pay bs m).getD k 0 = (p : Int) ∧ p < m := fun k hk => by
   have h1 : (pay bs m).getD k 0 ∈ pay bs m := by rw [List.getD_eq_getElem?_getD, List.getElem?_eq_getElem hk]; exact List.getElem_mem hk
   unfold pay at h1
   rw [List.mem_map] at h1
   obtain ⟨p, hp, he⟩ := h1
   exact ⟨p, he.symm, List.mem_range.1 (List.mem_filter.1 hp).1⟩
  obtain ⟨p, hp1, hp2⟩ := hmem n (by omega)
  rw [place]
  by_cases he : j = n
  ·subst he
   rw [hp1, Int.toNat_natCast]
   exact getD_set_same (by rw [place_length]; omega)
  ·have hlt := pay_lt bs m (show j < n by omega) (by omega)
   obtain ⟨p', hp1', hp2'⟩ := hmem j (by omega)
   rw [hp1, hp1'] at hlt
   have h1 := place_get F bs m ps hF n (by omega) j (by omega)
   rw [hp1'] at h1 ⊢
   rw [hp1, getD_set_other (by rw [Int.toNat_natCast, Int.toNat_natCast]; omega)]
   exact h1
theorem rec_field {m : Nat} {vars : Int} {a : Tr} {ts : List Tr} (h : recB m vars a = true) (hv : (ts.length : Int) = vars) : a.sub ts = ⟨5, (m : Int), ts⟩ := by
 unfold recB preB at h
 rw [Bool.and_eq_true, Bool.and_eq_true, Bool.and_eq_true, beq_iff_eq, beq_iff_eq, beq_iff_eq] at h
 obtain ⟨⟨⟨h1, h2⟩, h3⟩, h4⟩ := h
 have hl : a.l.length = ts.length := by omega
 rw [Tr.sub_eq, if_neg (by omega), h1, h2, subl_map]
 congr 1
 refine List.ext_getElem (by rw [List.length_map]; exact hl) (fun j hj hj' => ?_)
 rw [List.getElem_map]
 have hja : j < a.l.length := by rw [List.length_map] at hj; exact hj
 have h5 := List.all_eq_true.1 h4 j (List.mem_range.2 hja)
 unfold argB at h5
 rw [Bool.and_eq_true, Bool.and_eq_true, beq_iff_eq, beq_iff_eq, beq_iff_eq, List.getD_eq_getElem?_getD, List.getElem?_eq_getElem hja] at h5
 obtain ⟨⟨h6, h7⟩, h8⟩ := h5
 have h6' : (a.l[j]).k = 4 := h6
 have h7' : (a.l[j]).n = (j : Int) := h7
 rw [Tr.sub_eq, if_pos ⟨h6', by omega, by omega⟩, h7', Int.toNat_natCast, List.getD_eq_getElem?_getD, List.getElem?_eq_getElem hj']
 rfl
/-- What a check that succeeded says of the fields. -/
structure Fit (ds : List Dt) (t : Tr) (q : Int) (ps : List Tr) : Prop where
 vd : VD ds
 ok : t.ok ds 0 = true
 k5 : t.k = 5
 q0 : 0 ≤ q
 q1 : q < ((fldD ds t).l.length : Int)
 fs : fieldsP ds t q = some (fsO ds t q)
 fl : (fsO ds t q).length = (bsO ds t q).length
 pl : ps.length = (atO ds t q).length
 rc : rcs (bsO ds t q) (bsO ds t q).length = [(rO ds t q : Int)]
 rl : rO ds t q < (bsO ds t q).length
 rb : (bsO ds t q).getD (rO ds t q) false = true
 ph : ∀ i, i < ps.length → (ps.getD i z0).has ds ((fsO ds t q).getD ((atO ds t q).getD i 0).toNat z0) = true
theorem Fit.bl {ds : List Dt} {t : Tr} {q : Int} {ps : List Tr} (h : Fit ds t q ps) : (bsO ds t q).length = (atO ds t q).length + 1 := by
 have h1 := pay_rcs (bsO ds t q) (bsO ds t q).length
 rw [h.rc] at h1
 unfold atO
 simp at h1 ⊢
 omega
theorem Chk.fit {ds : List Dt} {t : Tr} {q : Int} {ps : List Tr} {x : Tr} {n : Nat} (h : Chk ds t q ps x n) : Fit ds t q ps := by
 have h1 := h.kn
 unfold knB at h1
 rw [Bool.and_eq_true] at h1
 obtain ⟨hr1, hr2, hr3⟩ := rcs_mem h.r1
 obtain ⟨hf1, hf2⟩ := fields_len h.f1
 refine ⟨((vdB_iff ds).1 h1.1).vd, h1.2, h.k5, h.q0, h.q1, hf1, hf2, h.pl, hr1, hr2, hr3, fun i hi => ?_⟩
 have h2 := h.ph i hi
 unfold htB at h2
 rw [Bool.and_eq_true] at h2
 exact h2.2
theorem Fit.rt {ds : List Dt} {t : Tr} {q : Int} {ps : List Tr} (h : Fit ds t q ps) : (fsO ds t q).getD (rO ds t q) z0 = t := by
 obtain ⟨hm0, hm1, hm2⟩ := vld_data (Tr.ok_iff.1 h.ok).2 h.k5
 have hrl : rO ds t q < (fldC ds t q).l.length := by
  have h1 := h.rl
  unfold bsO recsOf at h1
  rw [List.length_map] at h1
  exact h1
 have hb : recB t.n.toNat (fldD ds t).n ((fldC ds t q).l.getD (rO ds t q) z0) = true := by
  have h1 : ((fldC ds t q).l.map (recB t.n.toNat (fldD ds t).n)).getD (rO ds t q) false = true := h.rb
  rw [List.getD_eq_getElem?_getD, List.getElem?_map, List.getElem?_eq_getElem hrl] at h1
  rw [List.getD_eq_getElem?_getD, List.getElem?_eq_getElem hrl]
  exact h1
 have hfs : fsO ds t q = subl t.l (fldC ds t q).l := by
  have h1 := h.fs
  unfold fieldsP at h1
  by_cases ho : fldOk ds t q
  ·rw [if_pos ho] at h1
   by_cases hs : short (subl t.l (fldC ds t q).l) = true
   ·rw [if_pos hs] at h1
    exact (Option.some.inj h1).symm
   ·rw [if_neg hs] at h1
    cases h1
  ·rw [if_neg ho] at h1
   cases h1
 have h2 := rec_field hb (ts := t.l) hm2
 rw [hfs, subl_map, List.getD_eq_getElem?_getD, List.getElem?_map, List.getElem?_eq_getElem hrl]
 rw [List.getD_eq_getElem?_getD, List.getElem?_eq_getElem hrl] at h2
 show Tr.sub t.l _ = t
 rw [show Tr.sub t.l ((fldC ds t q).l[rO ds t q]) = _ from h2, Int.toNat_of_nonneg hm0, ← h.k5]
 cases t; rfl
theorem Fit.step {ds : List Dt} {t : Tr} {q : Int} {ps : List Tr} (h : Fit ds t q ps) {v : Tr} (hv : v.has ds t = true) : (stepT q (bsO ds t q).length (atO ds t q) ps (rO ds t q) v).has ds t = true := by
 have hq0 := h.q0
 have hq1 := h.q1
 have hlen : ((place (bsO ds t q).length (atO ds t q) ps (atO ds t q).length).set (rO ds t q) v).length = (bsO ds t q).length := by rw [List.length_set, place_length]
 have hall : hasl ds ((place (bsO ds t q).length (atO ds t q) ps (atO ds t q).length).set (rO ds t q) v) (fsO ds t q) = true := by
  rw [hasl_all, all2_iff _ _ _ (by rw [hlen, h.fl])]
  intro i hi
  rw [hlen] at hi
  by_cases he : i = rO ds t q
  ·subst he
   rw [getD_set_same (by rw [place_length]; exact hi), h.rt]
   exact hv
  ·rw [getD_set_other (Ne.symm he)]
   obtain ⟨j, hj, hji⟩ := pay_has (n := (bsO ds t q).length) hi (rcs_one h.rc hi he)
   have h1 := place_get (bsO ds t q).length (bsO ds t q) (bsO ds t q).length ps (Nat.le_refl _) (atO ds t q).length (Nat.le_refl _) j hj
   have h2 := h.ph j (by rw [h.pl]; exact hj)
   rw [show (atO ds t q).getD j 0 = (i : Int) from hji, Int.toNat_natCast] at h2
   rw [hji, Int.toNat_natCast] at h1
   rw [show (place (bsO ds t q).length (atO ds t q) ps (atO ds t q).length).getD i z0 = ps.getD j z0 from h1]
   exact h2
 unfold stepT
 rw [Tr.has, if_neg (by decide), if_neg (by decide), if_neg (by decide), if_neg (by decide), if_neg (by decide), if_pos rfl, h.fs, beq_iff_eq.2 h.k5, decide_eq_false (by omega), decide_eq_false (by omega)]
 exact hall
theorem Fit.chain {ds : List Dt} {t : Tr} {q : Int} {ps : List Tr} (h : Fit ds t q ps) {x : Tr} (hx : x.has ds t = true) : ∀ n, (chO ds t q ps x n).has ds t = true
 | 0 => hx
 | n + 1 => h.step (h.chain hx n)
theorem Fit.sz {ds : List Dt} {t : Tr} {q : Int} {ps : List Tr} (h : Fit ds t q ps) (x : Tr) (n : Nat) : (chO ds t q ps x n).sz ≤ x.sz + n * (1 + szl ps) := chainT_sz q _ _ ps _ x h.pl h.bl n
/-- More steps, where there is room. -/
theorem Chk.more {ds : List Dt} {t : Tr} {q : Int} {ps : List Tr} {x : Tr} {n : Nat} (h : Chk ds t q ps x n) (m : Nat) (hs : x.sz + m * (1 + szl ps) ≤ 5000) : Chk ds t q ps x m := ⟨h.k5, h.kn, h.q0, h.q1, h.r1, h.f1, h.pl, h.ph, h.eh, hs⟩
/-- A chain on a chain. -/
theorem Chk.on {ds : List Dt} {t : Tr} {q : Int} {ps : List Tr} {x : Tr} {n : Nat} (h : Chk ds t q ps x n) (m : Nat) (hs : x.sz + (n + m) * (1 + szl ps) ≤ 5000) : Chk ds t q ps (chO ds t q ps x n) m := by
 have h1 := h.fit.sz x n
 rw [Nat.add_mul] at hs
 have he := h.eh
 unfold htB at he
 rw [Bool.and_eq_true] at he
 refine ⟨h.k5, h.kn, h.q0, h.q1, h.r1, h.f1, h.pl, h.ph, ?_, by omega⟩
 unfold htB
 rw [h.kn, decide_eq_true (by omega), h.fit.chain he.2]
 rfl
theorem Chk.has {ds : List Dt} {t : Tr} {q : Int} {ps : List Tr} {x : Tr} {n : Nat} (h : Chk ds t q ps x n) : htB ds (chO ds t q ps x n) t = true := by
 have h1 := h.fit.sz x n
 have hs := h.sz
 have he := h.eh
 unfold htB at he ⊢
 rw [Bool.and_eq_true] at he
 rw [h.kn, decide_eq_true (by omega), h.fit.chain he.2]
 rfl
theorem chO_add (ds : List Dt) (t : Tr) (q : Int) (ps : List Tr) (x : Tr) (n m : Nat) : chO ds t q ps (chO ds t q ps x n) m = chO ds t q ps x (n + m) := chainT_add _ _ _ _ _ _ _ _
/-
  FitGrows answers true.
-/
theorem few_sum : ∀ ps : List Tr, ps.all (fun p => fewB [p]) = true → szl ps ≤ ps.length * 40
 | [], _ => by simp [szl]
 | p :: ps, h => by
  rw [List.all_cons, Bool.and_eq_true] at h
  have h1 := few_sum ps h.2
  have h2 := h.1
  unfold fewB at h2
  rw [Bool.and_eq_true, decide_eq_true_iff] at h2
  have h3 := h2.1
  rw [szl, szl] at h3
  rw [szl, List.length_cons, Nat.add_mul]
  omega
theorem kept_sizes {nd : Nat} {ps : List Tr} {x : Tr} (h : keptB nd ps x = true) : x.sz ≤ 40 ∧ szl ps ≤ 160 := by
 unfold keptB at h
 rw [Bool.and_eq_true, Bool.and_eq_true, Bool.and_eq_true, decide_eq_true_iff, decide_eq_true_iff] at h
 obtain ⟨⟨⟨_, h1⟩, h2⟩, h3⟩ := h
 have h4 := few_sum ps h3
 unfold fewB at h2
 rw [Bool.and_eq_true, decide_eq_true_iff] at h2
 have h5 := h2.1
 rw [szl, szl] at h5
 have h6 := Nat.mul_le_mul_right 40 h1
 omega
set_option maxRecDepth 100000 in
set_option maxHeartbeats 8000000 in
theorem grows_true (ds : List Dt) (t : Tr) (q : Int) (ps : List Tr) (x : Tr) (n m : Int) (ok : Nat → Prop) (vd vt vp vx : Value) (w : World) (hok : ∀ k, w.heap.size ≤ k → ok k) (hd : LDt w ok vd ds) (ht : ITr 25 w ok vt t) (hp : LTr 28 w ok vp ps) (hx : ITr 28 w ok vx x)
  (hn0 : 0 ≤ n) (hn1 : n ≤ 255) (hm0 : 0 ≤ m) (hm1 : m ≤ 255) : Calls Tryz.prog 3 #[vd, vt, .int .i64 q, vp, vx, .int .u8 n, .int .u8 m] w (RetTrue w) := by
 obtain ⟨Ax, cx, rfl⟩ := hx.shape
 obtain ⟨At, ct, rfl⟩ := ht.shape
 have HMD := As hd.max
 obtain ⟨D, dc, rfl, hdc, hF⟩ := hd
 have hd : LDt w ok (.slice D ds.length dc) ds := ⟨D, dc, rfl, hdc, hF⟩
 obtain ⟨W1, hW1⟩ : ∃ W1, w.alloc (.cells #[.int .i64 t.k, .int .i64 t.n, .slice At t.l.length ct] 25) = W1 := ⟨_, rfl⟩
 obtain ⟨W2, hW2⟩ : ∃ W2, W1.alloc (.cells #[.int .i64 x.k, .int .i64 x.n, .slice Ax x.l.length cx] 28) = W2 := ⟨_, rfl⟩
 obtain ⟨gt, hgt⟩ : ∃ gt, gt = w.heap.size := ⟨_, rfl⟩
 obtain ⟨gx, hgx⟩ : ∃ gx, gx = w.heap.size + 1 := ⟨_, rfl⟩
 have hs1 : W1.heap.size = gx := by rw [hgx, ← hW1]; show (w.heap.push _).size = _; simp
 have hb1 : Below w.heap.size w W1 := by rw [← hW1]; exact below_alloc (Below.refl _ _) _
 have hb12 : Below W1.heap.size W1 W2 := by rw [← hW2]; exact below_alloc (Below.refl _ _) _
 have hg1 : W1.heap[gt]? = some (.cells #[.int .i64 t.k, .int .i64 t.n, .slice At t.l.length ct] 25 (0, 0)) := by rw [hgt, ← hW1]; exact heap_alloc_new _ _
 have hg2 : W2.heap[gx]? = some (.cells #[.int .i64 x.k, .int .i64 x.n, .slice Ax x.l.length cx] 28 (0, 0)) := by rw [← hs1, ← hW2]; exact heap_alloc_new _ _
 have hb2 := below_step hb1 hb12
 have HG1 := As (blk_below hg1 hb12)
 have HG2 := As hg2
 have HD2 := As (hd.below hb2)
 have HX2 := As (hx.below hb2)
 have HT2 := As (ht.below hb2)
 have HP2 := As (hp.below hb2)
 have HW2 := As (show (w.alloc (.cells #[.int .i64 t.k, .int .i64 t.n, .slice At t.l.length ct] 25)).alloc (.cells #[.int .i64 x.k, .int .i64 x.n, .slice Ax x.l.length cx] 28) = W2 by rw [hW1]; exact hW2)
 have HB2 := As hb2
 have HGX := As hgx
 have HGT := As hgt
 have HOK := As (show ∀ W : World, w.heap.size ≤ W.heap.size → ∀ k, W.heap.size ≤ k → ok k from fun W hW k hk => hok k (Nat.le_trans hW hk))
 obtain ⟨r1, hr1⟩ : ∃ r : Nat, n % 10 = (r : Int) := ⟨(n % 10).toNat, by omega⟩
 obtain ⟨r2, hr2⟩ : ∃ r : Nat, m % 10 = (r : Int) := ⟨(m % 10).toNat, by omega⟩
 have hl1 : r1 < 10 := by omega
 have hl2 : r2 < 10 := by omega
 have htn : n.tmod 10 = (r1 : Int) := by rw [Int.tmod_eq_emod_of_nonneg hn0]; exact hr1
 have htm : m.tmod 10 = (r2 : Int) := by rw [Int.tmod_eq_emod_of_nonneg hm0]; exact hr2
 obtain ⟨r3, hr3⟩ : ∃ r, r1 + r2 = r := ⟨_, rfl⟩
 have hw3 : IntKind.i64.wrap ((r1 : Int) + (r2 : Int)) = (r3 : Int) := by rw [IntWalk.i64_in _ (by omega)]; omega
 have HL1 := As (show r1 ≤ 5000 by omega)
 have HL2 := As (show r2 ≤ 5000 by omega)
 have HL3 := As (show r3 ≤ 5000 by omega)
 have HR3 := As hr3
 have HL9 := As (show r1 ≤ 9 ∧ r2 ≤ 9 by omega)
 clear hW1 hW2 hs1 hb1 hb12 hg1 hg2 hgx hgt hb2 hd ht hx hp hF hok hr1 hr2 hr3
 go_enter Tryz.func3, Tryz.ntmps3
 go_upto_region 1 with fail
 rw [HW2.out, ← HGX.out, ← HGT.out]
 go_wp2_with fail
 with_reducible refine (sane_true _).mono ?_
 rintro e w3 ⟨rfl, hb⟩
 have HB3 := As (below_step HB2.out hb)
 have HD3 := As (HD2.out.below hb)
 have HX3 := As (HX2.out.below hb)
 have HT3 := As (HT2.out.below hb)
 have HP3 := As (HP2.out.below hb)
 have HG13 := As (blk_below HG1.out hb)
 have HG23 := As (blk_below HG2.out hb)
 have b0 : w3.cell? ⟨gx, 0, none⟩ = some (.int .i64 x.k) := (blk_cell HG23.out 0).trans rfl
 have b1 : w3.cell? ⟨gx, 1, none⟩ = some (.int .i64 x.n) := (blk_cell HG23.out 1).trans rfl
 have b2 : w3.cell? ⟨gx, 2, none⟩ = some (.slice Ax x.l.length cx) := (blk_cell HG23.out 2).trans rfl
 have HOK3 := As (HOK.out w3 HB3.out.size)
 clear hb HD2 HX2 HT2 HP2 HG1 HG2
 go_wp2_with fail
 with_reducible refine (kept_val ok D ds.length dc _ _ ps x _ HOK3.out HMD.out HP3.out HX3.out).mono ?_
 rintro e w4 ⟨rfl, hb⟩
 have HB4 := As (below_step HB3.out hb)
 obtain ⟨kb, hkb⟩ : ∃ kb, keptB ds.length ps x = kb := ⟨_, rfl⟩
 rw [hkb]
 cases kb with
 | false =>
  clear hb hkb
  go_wp2
  go_ret
  exact ⟨rfl, HB4.out⟩
 | true =>
  have HSZ := As (kept_sizes hkb)
  have HPS := As (show szl ps ≤ 1000000 by have := HSZ.out; omega)
  have HXS := As (show x.sz ≤ 1000000 by have := HSZ.out; omega)
  have HD4 := As (HD3.out.below hb)
  have HX4 := As (HX3.out.below hb)
  have HT4 := As (HT3.out.below hb)
  have HP4 := As (HP3.out.below hb)
  have HG14 := As (blk_below HG13.out hb)
  have HG24 := As (blk_below HG23.out hb)
  have HOK4 := As (HOK.out w4 HB4.out.size)
  replace b0 := pw_cell_below hb b0
  replace b1 := pw_cell_below hb b1
  replace b2 := pw_cell_below hb b2
  have a0 : w4.cell? ⟨gt, 0, none⟩ = some (.int .i64 t.k) := (blk_cell HG14.out 0).trans rfl
  have a1 : w4.cell? ⟨gt, 1, none⟩ = some (.int .i64 t.n) := (blk_cell HG14.out 1).trans rfl
  have a2 : w4.cell? ⟨gt, 2, none⟩ = some (.slice At t.l.length ct) := (blk_cell HG14.out 2).trans rfl
  clear hb hkb HD3 HX3 HT3 HP3 HG13 HG23 HB3 HOK3
  go_wp2_with fail
  with_reducible refine (Chain_fn ds t q ps x r1 ok _ _ _ _ _ HOK4.out HD4.out HT4.out HP4.out HX4.out HL1.out HPS.out HXS.out).mono ?_
  rintro e w5 ⟨ya, yb, er, A5, m5, c5, rfl, her, hv, hb⟩
  have HB5 := As (below_step HB4.out hb)
  by_cases h0 : er ≠ 0
  ·have hnb : (er != 0) = true := bne_iff_ne.2 h0
   have HB6 := As (below_alloc HB5.out (.cells #[.int .i64 ya, .int .i64 yb, .slice A5 m5 c5] 28))
   clear hb her hv h0
   go_wp2
   go_ret
   exact ⟨rfl, HB6.out⟩
  replace h0 : er = 0 := Decidable.not_not.1 h0
  subst h0
  have HC1 := As (her.1 rfl)
  obtain ⟨y, hy⟩ : ∃ y, chO ds t q ps x r1 = y := ⟨_, rfl⟩
  have HY := As hy
  have hv5 := hv rfl
  rw [hy] at hv5
  have hroom : x.sz + (r1 + r2) * (1 + szl ps) ≤ 5000 := by
   have h1 := HSZ.out
   have h2 := HL9.out
   have h3 : (r1 + r2) * (1 + szl ps) ≤ 18 * 161 := Nat.mul_le_mul (by omega) (by omega)
   omega
  have HC2 := As (show Chk ds t q ps y r2 by rw [← hy]; exact HC1.out.on r2 hroom)
  have HC3 := As (show Chk ds t q ps x r3 from HC1.out.more r3 (by rw [← HR3.out]; exact hroom))
  have HYS := As (show y.sz ≤ 1000000 by
   have h1 := HC1.out.fit.sz x r1
   have h2 := HC1.out.sz
   rw [hy] at h1
   omega)
  clear hroom hy
  obtain ⟨g6, hg6⟩ : ∃ g, g = w5.heap.size := ⟨_, rfl⟩
  obtain ⟨W6, hW6⟩ : ∃ W, w5.alloc (.cells #[.int .i64 ya, .int .i64 yb, .slice A5 m5 c5] 28) = W := ⟨_, rfl⟩
  have hb_g6 : Below w5.heap.size w5 W6 := by rw [← hW6]; exact below_alloc (Below.refl _ _) _
  have hg_g6 : W6.heap[g6]? = some (.cells #[.int .i64 ya, .int .i64 yb, .slice A5 m5 c5] 28 (0, 0)) := by rw [hg6, ← hW6]; exact heap_alloc_new _ _
  have hbb := below_step hb hb_g6
  have HD6 := As (HD4.out.below hbb)
  have HX6 := As (HX4.out.below hbb)
  have HT6 := As (HT4.out.below hbb)
  have HP6 := As (HP4.out.below hbb)
  have HY6 := As (hv5.below hb_g6)
  have HB6 := As (below_step HB4.out hbb)
  have HOK6 := As (HOK.out W6 HB6.out.size)
  have HW6 := As hW6
  have HG6 := As hg6
  replace a0 := pw_cell_below hbb a0
  replace a1 := pw_cell_below hbb a1
  replace a2 := pw_cell_below hbb a2
  replace b0 := pw_cell_below hbb b0
  replace b1 := pw_cell_below hbb b1
  replace b2 := pw_cell_below hbb b2
  have y0 : W6.cell? ⟨g6, 0, none⟩ = some (.int .i64 ya) := (blk_cell hg_g6 0).trans rfl
  have y1 : W6.cell? ⟨g6, 1, none⟩ = some (.int .i64 yb) := (blk_cell hg_g6 1).trans rfl
  have y2 : W6.cell? ⟨g6, 2, none⟩ = some (.slice A5 m5 c5) := (blk_cell hg_g6 2).trans rfl
  clear hb her hv hv5 hbb hb_g6 hg_g6 hW6 hg6 HD4 HX4 HT4 HP4 HB5 HOK4 HG14 HG24
  go_upto_region 8 with fail
  rw [HW6.out, ← HG6.out]
  go_wp2_with fail
  with_reducible refine (Chain_fn ds t q ps y r2 ok _ _ _ _ _ HOK6.out HD6.out HT6.out HP6.out HY6.out HL2.out HPS.out HYS.out).mono ?_
  rintro e w7 ⟨za, zb, er2, A7, m7, c7, rfl, her, hv, hb⟩
  have h0 := her.2 HC2.out
  subst h0
  have hv7 := hv rfl
  rw [← HY.out, chO_add, HR3.out] at hv7
  obtain ⟨g8, hg8⟩ : ∃ g, g = w7.heap.size := ⟨_, rfl⟩
  obtain ⟨W8, hW8⟩ : ∃ W, w7.alloc (.cells #[.int .i64 za, .int .i64 zb, .slice A7 m7 c7] 28) = W := ⟨_, rfl⟩
  have hb_g8 : Below w7.heap.size w7 W8 := by rw [← hW8]; exact below_alloc (Below.refl _ _) _
  have hg_g8 : W8.heap[g8]? = some (.cells #[.int .i64 za, .int .i64 zb, .slice A7 m7 c7] 28 (0, 0)) := by rw [hg8, ← hW8]; exact heap_alloc_new _ _
  have hbb := below_step hb hb_g8
  have HD8 := As (HD6.out.below hbb)
  have HX8 := As (HX6.out.below hbb)
  have HT8 := As (HT6.out.below hbb)
  have HP8 := As (HP6.out.below hbb)
  have HY8 := As (hv7.below hb_g8)
  have HB8 := As (below_step HB6.out hbb)
  have HOK8 := As (HOK.out W8 HB8.out.size)
  have HW8 := As hW8
  have HG8 := As hg8
  replace a0 := pw_cell_below hbb a0
  replace a1 := pw_cell_below hbb a1
  replace a2 := pw_cell_below hbb a2
  replace b0 := pw_cell_below hbb b0
  replace b1 := pw_cell_below hbb b1
  replace b2 := pw_cell_below hbb b2
  have z0' : W8.cell? ⟨g8, 0, none⟩ = some (.int .i64 za) := (blk_cell hg_g8 0).trans rfl
  have z1' : W8.cell? ⟨g8, 1, none⟩ = some (.int .i64 zb) := (blk_cell hg_g8 1).trans rfl
  have z2' : W8.cell? ⟨g8, 2, none⟩ = some (.slice A7 m7 c7) := (blk_cell hg_g8 2).trans rfl
  clear hb her hv hv7 hbb hb_g8 hg_g8 hW8 hg8 HD6 HX6 HT6 HP6 HY6 HB6 HOK6 y0 y1 y2
  go_upto_region 9 with fail
  rw [HW8.out, ← HG8.out]
  go_wp2_with fail
  with_reducible refine (Chain_fn ds t q ps x r3 ok _ _ _ _ _ HOK8.out HD8.out HT8.out HP8.out HX8.out HL3.out HPS.out HXS.out).mono ?_
  rintro e w9 ⟨ua, ub, er3, A9, m9, c9, rfl, her, hv, hb⟩
  have h0 := her.2 HC3.out
  subst h0
  have hv9 := hv rfl
  obtain ⟨z, hz⟩ : ∃ z, chO ds t q ps x r3 = z := ⟨_, rfl⟩
  have HZT := As (show htB ds z t = true by rw [← hz]; exact HC3.out.has)
  rw [hz] at hv9 HY8
  obtain ⟨g10, hg10⟩ : ∃ g, g = w9.heap.size := ⟨_, rfl⟩
  obtain ⟨W10, hW10⟩ : ∃ W, w9.alloc (.cells #[.int .i64 ua, .int .i64 ub, .slice A9 m9 c9] 28) = W := ⟨_, rfl⟩
  have hb_g10 : Below w9.heap.size w9 W10 := by rw [← hW10]; exact below_alloc (Below.refl _ _) _
  have hg_g10 : W10.heap[g10]? = some (.cells #[.int .i64 ua, .int .i64 ub, .slice A9 m9 c9] 28 (0, 0)) := by rw [hg10, ← hW10]; exact heap_alloc_new _ _
  have hbb := below_step hb hb_g10
  have HD10 := As (HD8.out.below hbb)
  have HT10 := As (HT8.out.below hbb)
  have HY10 := As (HY8.out.below hbb)
  have HZ10 := As (hv9.below hb_g10)
  have HB10 := As (below_step HB8.out hbb)
  have HOK10 := As (HOK.out W10 HB10.out.size)
  have HW10 := As hW10
  have HG10 := As hg10
  replace a0 := pw_cell_below hbb a0
  replace a1 := pw_cell_below hbb a1
  replace a2 := pw_cell_below hbb a2
  replace z0' := pw_cell_below hbb z0'
  replace z1' := pw_cell_below hbb z1'
  replace z2' := pw_cell_below hbb z2'
  have u0' : W10.cell? ⟨g10, 0, none⟩ = some (.int .i64 ua) := (blk_cell hg_g10 0).trans rfl
  have u1' : W10.cell? ⟨g10, 1, none⟩ = some (.int .i64 ub) := (blk_cell hg_g10 1).trans rfl
  have u2' : W10.cell? ⟨g10, 2, none⟩ = some (.slice A9 m9 c9) := (blk_cell hg_g10 2).trans rfl
  clear hb her hv hv9 hbb hb_g10 hg_g10 hW10 hg10 HD8 HX8 HT8 HP8 HY8 HB8 HOK8 b0 b1 b2 hz
  go_upto_region 10 with fail
  rw [HW10.out, ← HG10.out]
  go_wp2_with fail
  with_reducible refine (HasType_fn ds z t ok _ _ _ _ HOK10.out HD10.out HZ10.out HT10.out).mono ?_
  rintro e w11 ⟨rfl, hb⟩
  rw [HZT.out]
  have HB11 := As (below_step HB10.out hb)
  have HY11 := As (HY10.out.below hb)
  have HZ11 := As (HZ10.out.below hb)
  replace z0' := pw_cell_below hb z0'
  replace z1' := pw_cell_below hb z1'
  replace z2' := pw_cell_below hb z2'
  replace u0' := pw_cell_below hb u0'
  replace u1' := pw_cell_below hb u1'
  replace u2' := pw_cell_below hb u2'
  clear hb
  go_wp2_with fail
  with_reducible refine (compare_same z.sz z ok ok _ _ _ (Nat.le_refl _) HY11.out HZ11.out).mono ?_
  rintro e w12 ⟨rfl, hb⟩
  have HB12 := As (below_step HB11.out hb)
  clear hb
  go_wp2
  go_ret
  exact ⟨rfl, HB12.out⟩
end Go.Proofs.YtldkcpgnccknpaaGreat
/-
  Arguments of data types, types and values, opened to what they read as.
-/
namespace Go.Proofs.YtldkcpgnccknpaaGreat
open Go.ChangeShapes Go.WideShapes Go.RowKit Go.Proofs.YtldkcpgnccknpaaGreatW.PrintWords Go.Proofs.YtldkcpgnccknpaaGreatW.PrintMore Go.Proofs.YtldkcpgnccknpaaGreatW.PrintLast
set_option linter.unusedVariables false
/-- A row that is read element by element. -/
theorem row_read {α : Type} (d : Kd α) (z : α) {w : World} {a : Addr} {len : Nat} (hm : len ≤ 9223372036854775807) (h : ∀ i, i < len → ∃ (y : α) (cs : List Value), cs.length = d.sz ∧ Kd.FK d w (fun _ => True) y cs ∧ ∀ j u, cs[j]? = some u → w.cell? (a.add (i * d.sz + j)) = some u) :
  ∃ xs : List α, xs.length = len ∧ Kd.F d w (fun _ => True) (some a) len xs := by
 obtain ⟨f, hf⟩ : ∃ f : Nat → α, ∀ i, i < len → ∃ cs : List Value, cs.length = d.sz ∧ Kd.FK d w (fun _ => True) (f i) cs ∧ ∀ j u, cs[j]? = some u → w.cell? (a.add (i * d.sz + j)) = some u :=
  ⟨fun i => if h' : i < len then Classical.choose (h i h') else z, fun i h' => by simp only [dif_pos h']; exact Classical.choose_spec (h i h')⟩
 have hlen : ((List.range len).map f).length = len := by simp
 refine ⟨(List.range len).map f, hlen, fun W' hW => ⟨hlen, hm, fun _ => ⟨a, rfl, fun j p hj => ?_⟩⟩⟩
 have hjl := (List.getElem?_eq_some_iff.1 hj).1
 rw [hlen] at hjl
 rw [List.getElem?_map, List.getElem?_range hjl] at hj
 obtain ⟨cs, h1, h2, h3⟩ := hf j hjl
 have hp : f j = p := by simpa using hj
 rw [hp] at h2
 refine ⟨cs, h1, h2 W' hW, fun i u hu => ?_⟩
 have hc := h3 i u hu
 have hb := World.block_lt_of_cell? w _ hc
 rw [← hc]
 simp only [World.cell?, hW _ trivial hb]
section
variable {H : Type} {enc : TypeId × Value → H} {w : World} {base : Nat} {spare : Nat → Bool} {held : Bool}
theorem slice_at {P : Program} {t e : TypeId} {fuel : Nat} {v : Value} {x : DataW H × List MemPlace} (ht : P.underlying t = some (.slice e)) (h : DataW.trod enc P w base spare held fuel t [v] = some x) :
  v = .slice none 0 0 ∨ ∃ a len cap n, fuel = n + 1 ∧ v = .slice (some a) len cap ∧ len ≤ cap ∧ cap ≤ maxLen ∧ ∀ i, i < len → ∃ cs' y, cs'.length = P.cellsOf e ∧ (∀ j u, cs'[j]? = some u → w.cell? (a.add (i * P.cellsOf e + j)) = some u) ∧ DataW.trod enc P w base spare held n e cs' = some y := by
 rcases DataW.trod_slice ht h with ⟨h0, _⟩ | ⟨a, len, cap, elems, rest, n, rfl, hcs, _, _, hl, hm, hlen, hel, _, _⟩
 ·simp at h0
  exact .inl h0
 ·simp at hcs
  refine .inr ⟨a, len, cap, n, rfl, hcs, hl, hm, fun i hi => ?_⟩
  have h1 := hel i hi
  rw [List.getElem?_eq_getElem (by omega), Option.bind_eq_some_iff] at h1
  obtain ⟨cs', hc, ht'⟩ := h1
  obtain ⟨_, hcl, hat⟩ := World.cells?_some hc
  refine ⟨cs', _, hcl, fun j u hu => ?_, ht'⟩
  have hj := (List.getElem?_eq_some_iff.1 hu).1
  have h2 := hat j (by omega)
  rw [Go.Deep.add_add] at h2
  rw [h2]
  exact hu
set_option maxRecDepth 100000 in
theorem open_tys : ∀ (fuel : Nat) (v : Value) (x : DataW H × List MemPlace), DataW.trod enc Tryz.prog w base spare held fuel 23 [v] = some x → ∃ xs, LTr 25 w (fun _ => True) v xs := by
 intro fuel
 induction fuel using Nat.strongRecOn with
 | _ fuel ih =>
  intro v x h
  rcases slice_at Tryz.underlying23 h with rfl | ⟨a, len, cap, n, rfl, rfl, hl, hm, hi⟩
  ·exact ⟨[], LTr.nil _ _ _⟩
  ·have hC : Tryz.prog.cellsOf 25 = 3 := by kernel_rfl
   rw [hC] at hi
   obtain ⟨xs, hlen, hF⟩ := row_read (kTr 25) z0 (w := w) (a := a) (len := len) (by simp only [maxLen] at hm; omega) (fun i hil => by
    obtain ⟨cs', y, hcl, hat, ht'⟩ := hi i hil
    obtain ⟨ys, n', rfl, _, _, hyl, hf⟩ := DataW.trod_struct Tryz.underlying25 ht'
    match cs', hcl with
    | [u0, u1, u2], _ =>
     have hC0 : Tryz.prog.cellsOf 3 = 1 := by kernel_rfl
     have hC1 : Tryz.prog.cellsOf 3 = 1 := by kernel_rfl
     have hC2 : Tryz.prog.cellsOf 23 = 1 := by kernel_rfl
     have hyl3 : ys.length = 3 := hyl
     have f0 : DataW.trod enc Tryz.prog w base spare held n' 3 ((List.drop 0 [u0, u1, u2]).take (Tryz.prog.cellsOf 3)) = ys[0]? := hf 0 _ rfl
     have f1 : DataW.trod enc Tryz.prog w base spare held n' 3 ((List.drop 1 [u0, u1, u2]).take (Tryz.prog.cellsOf 3)) = ys[1]? := hf 1 _ rfl
     have f2 : DataW.trod enc Tryz.prog w base spare held n' 23 ((List.drop 2 [u0, u1, u2]).take (Tryz.prog.cellsOf 23)) = ys[2]? := hf 2 _ rfl
     rw [hC0, List.getElem?_eq_getElem (by omega)] at f0
     rw [hC1, List.getElem?_eq_getElem (by omega)] at f1
     rw [hC2, List.getElem?_eq_getElem (by omega)] at f2
     obtain ⟨k0, e0, _⟩ := DataW.trod_int Tryz.underlying3 f0
     obtain ⟨k1, e1, _⟩ := DataW.trod_int Tryz.underlying3 f1
     obtain ⟨xs, A, c, e2, h2, h3⟩ := ih n' (by omega) u2 _ f2
     simp at e0 e1
     subst e0
     subst e1
     subst e2
     exact ⟨⟨k0, k1, xs⟩, _, rfl, kTr_mkF w _ ⟨k0, k1, xs⟩ h2 h3, hat⟩)
   subst hlen
   exact ⟨xs, some a, cap, rfl, hl, hF⟩
set_option maxRecDepth 100000 in
theorem open_tys1 {cs : Array Value} {fuel : Nat} {x : DataW H × List MemPlace} (hcs : cs.size = Tryz.prog.cellsOf 25) (h : DataW.trod enc Tryz.prog w base spare held fuel 25 cs.toList = some x) : ∃ y, ITr 25 w (fun _ => True) (.agg cs) y := by
 have hC : Tryz.prog.cellsOf 25 = 3 := by kernel_rfl
 rw [hC] at hcs
 obtain ⟨ys, n', rfl, _, _, hyl, hf⟩ := DataW.trod_struct Tryz.underlying25 h
 obtain ⟨l, rfl⟩ : ∃ l : List Value, cs = l.toArray := ⟨cs.toList, by simp⟩
 have hl : l.length = 3 := by simpa using hcs
 match l, hl with
 | [u0, u1, u2], _ =>
  have hC0 : Tryz.prog.cellsOf 3 = 1 := by kernel_rfl
  have hC1 : Tryz.prog.cellsOf 3 = 1 := by kernel_rfl
  have hC2 : Tryz.prog.cellsOf 23 = 1 := by kernel_rfl
  have hyl3 : ys.length = 3 := hyl
  have f0 : DataW.trod enc Tryz.prog w base spare held n' 3 ((List.drop 0 [u0, u1, u2]).take (Tryz.prog.cellsOf 3)) = ys[0]? := hf 0 _ rfl
  have f1 : DataW.trod enc Tryz.prog w base spare held n' 3 ((List.drop 1 [u0, u1, u2]).take (Tryz.prog.cellsOf 3)) = ys[1]? := hf 1 _ rfl
  have f2 : DataW.trod enc Tryz.prog w base spare held n' 23 ((List.drop 2 [u0, u1, u2]).take (Tryz.prog.cellsOf 23)) = ys[2]? := hf 2 _ rfl
  rw [hC0, List.getElem?_eq_getElem (by omega)] at f0
  rw [hC1, List.getElem?_eq_getElem (by omega)] at f1
  rw [hC2, List.getElem?_eq_getElem (by omega)] at f2
  obtain ⟨k0, e0, _⟩ := DataW.trod_int Tryz.underlying3 f0
  obtain ⟨k1, e1, _⟩ := DataW.trod_int Tryz.underlying3 f1
  obtain ⟨xs, A, c, e2, h2, h3⟩ := open_tys _ _ _ f2
  simp at e0 e1
  subst e0
  subst e1
  subst e2
  exact ⟨⟨k0, k1, xs⟩, A, c, rfl, h2, h3⟩
set_option maxRecDepth 100000 in
theorem open_vals : ∀ (fuel : Nat) (v : Value) (x : DataW H × List MemPlace), DataW.trod enc Tryz.prog w base spare held fuel 26 [v] = some x → ∃ xs, LTr 28 w (fun _ => True) v xs := by
 intro fuel
 induction fuel using Nat.strongRecOn with
 | _ fuel ih =>
  intro v x h
  rcases slice_at Tryz.underlying26 h with rfl | ⟨a, len, cap, n, rfl, rfl, hl, hm, hi⟩
  ·exact ⟨[], LTr.nil _ _ _⟩
  ·have hC : Tryz.prog.cellsOf 28 = 3 := by kernel_rfl
   rw [hC] at hi
   obtain ⟨xs, hlen, hF⟩ := row_read (kTr 28) z0 (w := w) (a := a) (len := len) (by simp only [maxLen] at hm; omega) (fun i hil => by
    obtain ⟨cs', y, hcl, hat, ht'⟩ := hi i hil
    obtain ⟨ys, n', rfl, _, _, hyl, hf⟩ := DataW.trod_struct Tryz.underlying28 ht'
    match cs', hcl with
    | [u0, u1, u2], _ =>
     have hC0 : Tryz.prog.cellsOf 3 = 1 := by kernel_rfl
     have hC1 : Tryz.prog.cellsOf 2 = 1 := by kernel_rfl
     have hC2 : Tryz.prog.cellsOf 26 = 1 := by kernel_rfl
     have hyl3 : ys.length = 3 := hyl
     have f0 : DataW.trod enc Tryz.prog w base spare held n' 3 ((List.drop 0 [u0, u1, u2]).take (Tryz.prog.cellsOf 3)) = ys[0]? := hf 0 _ rfl
     have f1 : DataW.trod enc Tryz.prog w base spare held n' 2 ((List.drop 1 [u0, u1, u2]).take (Tryz.prog.cellsOf 2)) = ys[1]? := hf 1 _ rfl
     have f2 : DataW.trod enc Tryz.prog w base spare held n' 26 ((List.drop 2 [u0, u1, u2]).take (Tryz.prog.cellsOf 26)) = ys[2]? := hf 2 _ rfl
     rw [hC0, List.getElem?_eq_getElem (by omega)] at f0
     rw [hC1, List.getElem?_eq_getElem (by omega)] at f1
     rw [hC2, List.getElem?_eq_getElem (by omega)] at f2
     obtain ⟨k0, e0, _⟩ := DataW.trod_int Tryz.underlying3 f0
     obtain ⟨k1, e1, _⟩ := DataW.trod_int Tryz.underlying2 f1
     obtain ⟨xs, A, c, e2, h2, h3⟩ := ih n' (by omega) u2 _ f2
     simp at e0 e1
     subst e0
     subst e1
     subst e2
     exact ⟨⟨k0, k1, xs⟩, _, rfl, kTr_mkF w _ ⟨k0, k1, xs⟩ h2 h3, hat⟩)
   subst hlen
   exact ⟨xs, some a, cap, rfl, hl, hF⟩
set_option maxRecDepth 100000 in
theorem open_vals1 {cs : Array Value} {fuel : Nat} {x : DataW H × List MemPlace} (hcs : cs.size = Tryz.prog.cellsOf 28) (h : DataW.trod enc Tryz.prog w base spare held fuel 28 cs.toList = some x) : ∃ y, ITr 28 w (fun _ => True) (.agg cs) y := by
 have hC : Tryz.prog.cellsOf 28 = 3 := by kernel_rfl
 rw [hC] at hcs
 obtain ⟨ys, n', rfl, _, _, hyl, hf⟩ := DataW.trod_struct Tryz.underlying28 h
 obtain ⟨l, rfl⟩ : ∃ l : List Value, cs = l.toArray := ⟨cs.toList, by simp⟩
 have hl : l.length = 3 := by simpa using hcs
 match l, hl with
 | [u0, u1, u2], _ =>
  have hC0 : Tryz.prog.cellsOf 3 = 1 := by kernel_rfl
  have hC1 : Tryz.prog.cellsOf 2 = 1 := by kernel_rfl
  have hC2 : Tryz.prog.cellsOf 26 = 1 := by kernel_rfl
  have hyl3 : ys.length = 3 := hyl
  have f0 : DataW.trod enc Tryz.prog w base spare held n' 3 ((List.drop 0 [u0, u1, u2]).take (Tryz.prog.cellsOf 3)) = ys[0]? := hf 0 _ rfl
  have f1 : DataW.trod enc Tryz.prog w base spare held n' 2 ((List.drop 1 [u0, u1, u2]).take (Tryz.prog.cellsOf 2)) = ys[1]? := hf 1 _ rfl
  have f2 : DataW.trod enc Tryz.prog w base spare held n' 26 ((List.drop 2 [u0, u1, u2]).take (Tryz.prog.cellsOf 26)) = ys[2]? := hf 2 _ rfl
  rw [hC0, List.getElem?_eq_getElem (by omega)] at f0
  rw [hC1, List.getElem?_eq_getElem (by omega)] at f1
  rw [hC2, List.getElem?_eq_getElem (by omega)] at f2
  obtain ⟨k0, e0, _⟩ := DataW.trod_int Tryz.underlying3 f0
  obtain ⟨k1, e1, _⟩ := DataW.trod_int Tryz.underlying2 f1
  obtain ⟨xs, A, c, e2, h2, h3⟩ := open_vals _ _ _ f2
  simp at e0 e1
  subst e0
  subst e1
  subst e2
  exact ⟨⟨k0, k1, xs⟩, A, c, rfl, h2, h3⟩
set_option maxRecDepth 100000 in
theorem open_cns {fuel : Nat} {v : Value} {x : DataW H × List MemPlace} (h : DataW.trod enc Tryz.prog w base spare held fuel 66 [v] = some x) : ∃ xs, LCn w (fun _ => True) v xs := by
 rcases slice_at Tryz.underlying66 h with rfl | ⟨a, len, cap, n, rfl, rfl, hl, hm, hi⟩
 ·exact ⟨[], none, 0, rfl, Nat.le_refl _, Kd.F_nil _ _ _⟩
 ·have hC : Tryz.prog.cellsOf 117 = 2 := by kernel_rfl
  rw [hC] at hi
  obtain ⟨xs, hlen, hF⟩ := row_read kCn c0 (w := w) (a := a) (len := len) (by simp only [maxLen] at hm; omega) (fun i hil => by
   obtain ⟨cs', y, hcl, hat, ht'⟩ := hi i hil
   obtain ⟨ys, n', rfl, _, _, hyl, hf⟩ := DataW.trod_struct Tryz.underlying117 ht'
   match cs', hcl with
   | [u0, u1], _ =>
    have hC0 : Tryz.prog.cellsOf 9 = 1 := by kernel_rfl
    have hC1 : Tryz.prog.cellsOf 23 = 1 := by kernel_rfl
    have hyl3 : ys.length = 2 := hyl
    have f0 : DataW.trod enc Tryz.prog w base spare held n' 9 ((List.drop 0 [u0, u1]).take (Tryz.prog.cellsOf 9)) = ys[0]? := hf 0 _ rfl
    have f1 : DataW.trod enc Tryz.prog w base spare held n' 23 ((List.drop 1 [u0, u1]).take (Tryz.prog.cellsOf 23)) = ys[1]? := hf 1 _ rfl
    rw [hC0, List.getElem?_eq_getElem (by omega)] at f0
    rw [hC1, List.getElem?_eq_getElem (by omega)] at f1
    obtain ⟨z, e0, _⟩ := DataW.trod_string Tryz.underlying9 f0
    obtain ⟨xs, A, c, e1, h2, h3⟩ := open_tys _ _ _ f1
    simp at e0
    subst e0
    subst e1
    exact ⟨⟨z, xs⟩, _, rfl, fun W' hW => ⟨[.string z], [.slice A xs.length c], rfl, rfl, ⟨A, c, rfl, h2, h3 W' hW⟩⟩, hat⟩)
  subst hlen
  exact ⟨xs, some a, cap, rfl, hl, hF⟩
set_option maxRecDepth 100000 in
theorem open_dts {fuel : Nat} {v : Value} {x : DataW H × List MemPlace} (h : DataW.trod enc Tryz.prog w base spare held fuel 22 [v] = some x) : ∃ xs, LDt w (fun _ => True) v xs := by
 rcases slice_at Tryz.underlying22 h with rfl | ⟨a, len, cap, n, rfl, rfl, hl, hm, hi⟩
 ·exact ⟨[], none, 0, rfl, Nat.le_refl _, Kd.F_nil _ _ _⟩
 ·have hC : Tryz.prog.cellsOf 68 = 3 := by kernel_rfl
  rw [hC] at hi
  obtain ⟨xs, hlen, hF⟩ := row_read kDt d0 (w := w) (a := a) (len := len) (by simp only [maxLen] at hm; omega) (fun i hil => by
   obtain ⟨cs', y, hcl, hat, ht'⟩ := hi i hil
   obtain ⟨ys, n', rfl, _, _, hyl, hf⟩ := DataW.trod_struct Tryz.underlying68 ht'
   match cs', hcl with
   | [u0, u1, u2], _ =>
    have hC0 : Tryz.prog.cellsOf 9 = 1 := by kernel_rfl
    have hC1 : Tryz.prog.cellsOf 3 = 1 := by kernel_rfl
    have hC2 : Tryz.prog.cellsOf 66 = 1 := by kernel_rfl
    have hyl3 : ys.length = 3 := hyl
    have f0 : DataW.trod enc Tryz.prog w base spare held n' 9 ((List.drop 0 [u0, u1, u2]).take (Tryz.prog.cellsOf 9)) = ys[0]? := hf 0 _ rfl
    have f1 : DataW.trod enc Tryz.prog w base spare held n' 3 ((List.drop 1 [u0, u1, u2]).take (Tryz.prog.cellsOf 3)) = ys[1]? := hf 1 _ rfl
    have f2 : DataW.trod enc Tryz.prog w base spare held n' 66 ((List.drop 2 [u0, u1, u2]).take (Tryz.prog.cellsOf 66)) = ys[2]? := hf 2 _ rfl
    rw [hC0, List.getElem?_eq_getElem (by omega)] at f0
    rw [hC1, List.getElem?_eq_getElem (by omega)] at f1
    rw [hC2, List.getElem?_eq_getElem (by omega)] at f2
    obtain ⟨z, e0, _⟩ := DataW.trod_string Tryz.underlying9 f0
    obtain ⟨k1, e1, _⟩ := DataW.trod_int Tryz.underlying3 f1
    obtain ⟨xs, A, c, e2, h2, h3⟩ := open_cns f2
    simp at e0 e1
    subst e0
    subst e1
    subst e2
    exact ⟨⟨z, k1, xs⟩, _, rfl, fun W' hW => ⟨[.string z], [.int .i64 k1, .slice A xs.length c], rfl, rfl, ⟨[.int .i64 k1], [.slice A xs.length c], rfl, rfl, ⟨A, c, rfl, h2, h3 W' hW⟩⟩⟩, hat⟩)
  subst hlen
  exact ⟨xs, some a, cap, rfl, hl, hF⟩
end
end Go.Proofs.YtldkcpgnccknpaaGreat
