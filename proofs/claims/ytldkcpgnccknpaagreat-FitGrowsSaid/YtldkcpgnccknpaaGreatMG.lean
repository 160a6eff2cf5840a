/-
  The parts BinE, BinF, NewA, NewB, NewD: the contracts of the program's functions and the plain laws below them; each part's own remark says which.
-/
import Derived.Test.YtldkcpgnccknpaaGreatMF
set_option linter.unusedVariables false
set_option linter.unusedSimpArgs false
/-
  The contract of Eval (package binomial).
-/
namespace Go.Proofs.YtldkcpgnccknpaaGreat
open Go.RowKit Go.Proofs.YtldkcpgnccknpaaGreatW.PrintWords Go.Proofs.YtldkcpgnccknpaaGreatW.PrintMore Go.Proofs.YtldkcpgnccknpaaGreatW.PrintLast Num
set_option linter.unusedVariables false
/-- The first k terms of the polynomial at n. -/
def ev (qs : List Rat) (n : Int) : Nat → Rat
 | 0 => 0
 | k + 1 => ev qs n k + qs.getD k 0 * ch n k
theorem RS.ev {qs : List Rat} {n : Int} {j : Nat} (hq : ∀ i, RS (j + 1) (qs.getD i 0)) (hn : n.natAbs < 1000000000000000000) : ∀ k : Nat, k ≤ 33 → RS ((j + 400) * k + 1) (ev qs n k)
 | 0, _ => RS.zero 0
 | k + 1, hk => by
  have h1 := RS.ev hq hn k (by omega)
  have h2 := RS.mul (hq k) (RS.ch n hn k (by omega))
  exact (RS.add h1 h2).mono (by rw [Nat.mul_succ]; omega)
theorem sgnR_zero {q : Rat} : sgnR q = 0 ↔ q = 0 := by
 unfold sgnR
 by_cases h : q.num = 0
 ·rw [if_pos h]
  exact ⟨fun _ => Rat.num_eq_zero.1 h, fun _ => rfl⟩
 ·rw [if_neg h]
  refine ⟨fun e => ?_, fun e => absurd (by rw [e]; rfl) h⟩
  split at e <;> cases e
def RetEval (ok : Nat → Prop) (q : Rat) (w0 : World) (e : Ending) (w' : World) : Prop := ∃ v, e = .returned (.tuple #[v, .bool true]) ∧ IsCan w' ok v q ∧ Below w0.heap.size w0 w'
set_option maxRecDepth 100000 in
set_option maxHeartbeats 4000000 in
theorem eval_rat (ok : Nat → Prop) (v0 : Value) (qs : List Rat) (j : Nat) (n : Int) (w : World) (hok : ∀ k, w.heap.size ≤ k → ok k) (h0 : RQ w ok v0 qs j) (hj : j ≤ 1000) (hl : qs.length ≤ 33) (hn0 : 0 ≤ n) (hn1 : n ≤ 1000000) :
  Calls Tryz.prog 24 #[v0, .int .i64 n] w (RetEval ok (ev qs n qs.length) w) := by
 have H0 := As h0
 have HRQ := As (fun i => h0.rs i)
 obtain ⟨A, c, rfl, hc, hmx⟩ := h0.shape
 clear h0
 obtain ⟨W1, hW1⟩ : ∃ W1, w.alloc (.cells #[.bool false, .slice none 0 0, .slice none 0 0] 46) = W1 := ⟨_, rfl⟩
 have hb1 : Below w.heap.size w W1 := by rw [← hW1]; exact below_alloc (Below.refl _ _) _
 have hsz : W1.heap.size = w.heap.size + 1 := by rw [← hW1, size_alloc]
 obtain ⟨ok', hok'⟩ : ∃ ok' : Nat → Prop, ok' = fun k => ok k ∧ k ≠ w.heap.size := ⟨_, rfl⟩
 have HOK' := As hok'
 have HOK1 := As (show ∀ k, W1.heap.size ≤ k → ok' k from fun k hk => by rw [hok']; exact ⟨hok k (by omega), by omega⟩)
 have HC := As (show W1.heap[w.heap.size]? = some (.cells #[.bool false, .slice none 0 0, .slice none 0 0] 46 (0, 0)) by rw [← hW1, heap_new])
 have HB1 := As hb1
 have HSZ := As hsz
 have HW1 := As hW1
 have HOK := As hok
 have hm1 := As (show (-9223372036854775808 : Int) ≤ 0 by decide)
 have hm2 := As (show (0 : Int) ≤ 9223372036854775807 by decide)
 have HN1 := As (show -1000000 ≤ n by omega)
 have HN2 := As (show n ≤ 1000000 by omega)
 clear hW1 hb1 hsz hok hok'
 go_enter Tryz.func24, Tryz.ntmps24
 go_wp2_with fail
 rw [HW1.out]
 with_reducible refine (fromInt_rat ok' 0 _ HOK1.out hm1.out hm2.out).mono ?_
 rintro e w1 ⟨v1, rfl, h1, hb⟩
 have HB2 := As (below_weaken HB1.out HB1.out.size hb)
 have HC2 := As ((hb.block _ (heap_lt_ HC.out)).trans HC.out)
 obtain ⟨A0, m0, c0, A0', m0', c0', rfl⟩ := h1.shape
 have hsz1 : w.heap.size < w1.heap.size := heap_lt_ HC2.out
 obtain ⟨b0, hb0⟩ : ∃ b0, decide ((((0 : Int) : Rat)).num < 0) = b0 := ⟨_, rfl⟩
 rw [hb0] at h1 ⊢
 obtain ⟨g, hg⟩ : ∃ g, g = w1.heap.size := ⟨_, rfl⟩
 have HG := As hg
 have HS := As (show ChBox w ok g (w1.alloc (.cells #[.bool b0, .slice A0 m0 c0, .slice A0' m0' c0'] 46)) (ev qs n 0) from ⟨below_alloc HB2.out _, by omega, (heap_old _ (by omega)).trans HC2.out, b0, A0, m0, c0, A0', m0', c0', by rw [hg]; exact heap_new _ _, by
  have h2 := (h1.old (below_alloc (Below.refl w1.heap.size w1) (.cells #[.bool b0, .slice A0 m0 c0, .slice A0' m0' c0'] 46))).mono (ok' := fun k => ok k ∧ k ≠ w.heap.size ∧ k ≠ g) (fun k hk => by
   have h3 := hk.1
   rw [HOK'.out] at h3
   exact ⟨h3.1, h3.2, by have := hk.2; omega⟩)
  exact h2⟩)
 clear h1 hb hb0 hg
 have d33 : decide ((33 : Int) < (qs.length : Int)) = false := decide_eq_false (by omega)
 go_wp2
 rw [← HG.out]
 go_loopw [16] (fun vi wr => ∃ i : Nat, vi = .int .i64 i ∧ i ≤ qs.length ∧ Aside0 (ChBox w ok g wr (ev qs n i))) (fun vi _ => qs.length - (intOf vi).toNat)
 case atStart => exact ⟨0, rfl, Nat.zero_le _, HS⟩
 case round =>
  clear HS
  obtain ⟨i, rfl, hi, HS⟩ := hrel
  obtain ⟨hbe, hgw, hrc, b, Ag, mg, cg, Ag', mg', cg', hgc, hcan⟩ := HS.out
  obtain ⟨x0, x1, x2, x3, x4, x5⟩ := cells3 hgc
  obtain ⟨r0, r1, r2, r3, r4, r5⟩ := cells3 hrc
  have hgl := heap_lt_ hgc
  have hrl := heap_lt_ hrc
  have HCAN := As hcan
  have HBE := As hbe
  clear hbe hgc hrc hcan
  by_cases hlt : i < qs.length
  ·have hlb : decide ((i : Int) < (qs.length : Int)) = true := decide_eq_true (by omega)
   obtain ⟨okk, hokk⟩ : ∃ okk : Nat → Prop, okk = fun k => ok k ∧ k ≠ w.heap.size ∧ k ≠ g := ⟨_, rfl⟩
   have HOKK := As hokk
   rw [← hokk] at HCAN
   have HOKG := As (show ∀ wq, ChBox w ok g wq (ev qs n i) → ∀ k, wq.heap.size ≤ k → okk k from fun wq h => by rw [hokk]; exact h.fresh HOK.out)
   have HPR := (H0.out.old HBE.out).mono (ok' := okk) (fun k hk => by rw [hokk]; exact ⟨hk.1, by have := hk.2; omega, by have := hk.2; omega⟩)
   obtain ⟨pb, po, nb, A1, m1, c1, A2, m2, c2, rfl, p0, p1, p2, hraw⟩ := HPR.at i hlt
   obtain ⟨q, hqq⟩ : ∃ q, qs.getD i 0 = q := ⟨_, rfl⟩
   rw [hqq] at hraw
   have HQQ := As hqq
   have HI64 := As (show i ≤ 64 by omega)
   have HRCH := As (RS.ch n (by omega) i (by omega))
   have HRE := As (RS.ev (qs := qs) (n := n) (j := j) HRQ.out (by omega) i (by omega))
   have HRM := As (RS.mul (show RS (j + 1) q by rw [← hqq]; exact HRQ.out i) HRCH.out)
   have HK1 := As (show j ≤ 1000000 by omega)
   have HK5 := As (show j ≤ 5000000 by omega)
   have HDI := As (show 10 * i + 3 ≤ 1000000 by omega)
   have hji : (j + 400) * i ≤ 1400 * 33 := Nat.mul_le_mul (by omega) (by omega)
   have HDE := As (show (j + 400) * i + 1 ≤ 1000000 by omega)
   have HDM := As (show j + 1 + (10 * i + 3) ≤ 1000000 by omega)
   obtain ⟨W8, hW8⟩ : ∃ W8, wr.alloc (.cells #[.bool nb, .slice A1 m1 c1, .slice A2 m2 c2] 46) = W8 := ⟨_, rfl⟩
   have hb8 : Below wr.heap.size wr W8 := by rw [← hW8]; exact below_alloc (Below.refl _ _) _
   have HB8 := As hb8
   have HS8 := As (HS.out.below_ hb8)
   have HP8 := As (hraw.below hb8)
   have HZ8 := As (show W8.heap[wr.heap.size]? = some (.cells #[.bool nb, .slice A1 m1 c1, .slice A2 m2 c2] 46 (0, 0)) by rw [← hW8]; exact heap_new _ _)
   have HW8 := As hW8
   clear hokk HPR hqq hji hb8 hW8 hraw
   go_wp2_with fail
   rw [HW8.out]
   with_reducible refine (sign_rat okk _ _ _ _ (HOKG.out _ HS8.out) HP8.out HK5.out).mono ?_
   rintro e w2 ⟨rfl, hb⟩
   have hbw := below_step HB8.out hb
   have hz2 := (hb.block _ (heap_lt_ HZ8.out)).trans HZ8.out
   replace x0 := pw_cell_below hbw x0
   replace x1 := pw_cell_below hbw x1
   replace x2 := pw_cell_below hbw x2
   obtain ⟨z0, z1, z2, _, _, _⟩ := cells3 hz2
   have hzl := heap_lt_ hz2
   have HS2 := As (HS8.out.below_ hb)
   have HP2 := As (HP8.out.below hb)
   have HC2 := As (HCAN.out.below hbw)
   have hgl2 : g < w2.heap.size := Nat.lt_of_lt_of_le hgl hbw.size
   clear hb hbw hz2 x3 x4 x5 r0 r1 r2 r3 r4 r5 hgl hrl p0 p1 p2
   by_cases hq0 : q = 0
   ·have hsb : (sgnR q != 0) = false := by rw [sgnR_zero.2 hq0]; rfl
    have HEV := As (show ev qs n (i + 1) = ev qs n i by show ev qs n i + qs.getD i 0 * ch n i = _; rw [HQQ.out, hq0, Rat.zero_mul, Rat.add_zero])
    clear hq0
    go_wp2
    go_roundw
    case rel => exact ⟨i + 1, by go_num, by omega, ⟨by rw [HEV.out]; exact HS2.out⟩⟩
    case measure => simp [intOf]; omega
   ·have hsb : (sgnR q != 0) = true := by
     have : sgnR q ≠ 0 := fun e => hq0 (sgnR_zero.1 e)
     simpa using this
    have hmx1 : (if n < 0 then (0 : Int) else n) = n := if_neg (by omega)
    have hmx2 : (if (0 : Int) < n then n else 0) = n := by split <;> omega
    have hmx3 : ¬ n < 0 := by omega
    clear hq0
    go_upto_region 8 with fail
    have HSd := As (HS2.out.below_ (below_drew1 (Below.refl w2.heap.size w2)))
    have HCANd := As (HC2.out.below (below_drew1 (Below.refl w2.heap.size w2)))
    have HPd := As (HP2.out.below (below_drew1 (Below.refl w2.heap.size w2)))
    go_region_with (first
     | (go_at_call 49; ((with_reducible refine (choose_rat okk n i _ (HOKG.out _ HSd.out) HN1.out HN2.out HI64.out).mono ?_); rintro e w3 ⟨v3, rfl, hv, hb⟩; have HA3 := As (hv.raw HRCH.out); have HP3 := As (HPd.out.below hb); have HS3 := As (HSd.out.below_ hb); have HC3 := As (HCANd.out.below hb); (have m30 := pw_cell_below hb x0); (have m31 := pw_cell_below hb x1); (have m32 := pw_cell_below hb x2); (have t30 := pw_cell_below hb z0); (have t31 := pw_cell_below hb z1); (have t32 := pw_cell_below hb z2); clear hv hb))
     | (go_at_call 48; ((with_reducible refine (mul_rat okk _ _ _ _ _ _ _ (HOKG.out _ HS3.out) HP3.out HA3.out HK1.out HDI.out).mono ?_); rintro e w4 ⟨v4, rfl, hv, hb⟩; have HA4 := As (hv.raw HRM.out); have HS4 := As (HS3.out.below_ hb); have HC4 := As (HC3.out.below hb); (have m40 := pw_cell_below hb m30); (have m41 := pw_cell_below hb m31); (have m42 := pw_cell_below hb m32); (have t40 := pw_cell_below hb t30); (have t41 := pw_cell_below hb t31); (have t42 := pw_cell_below hb t32); clear hv hb))
     | (go_at_call 47; ((with_reducible refine (add_rat okk _ _ _ _ _ _ _ (HOKG.out _ HS4.out) (HC4.out.raw HRE.out) HA4.out HDE.out HDM.out).mono ?_); rintro e w5 ⟨v5, rfl, hv, hb⟩; have HM5 := As hv; have HS5 := As (HS4.out.below_ hb); (obtain ⟨b5, A5, m5, c5, A5', m5', c5', rfl⟩ := hv.shapeb); (obtain ⟨_, _, _, _, _, _, _, _, _, _, hq, _⟩ := HS5.out); (obtain ⟨k50, k51, k52, k53, k54, k55⟩ := cells3 hq); clear hq; clear hv hb)))
    all_goals
     (have HP := As (HS5.out.put (q := ev qs n (i + 1)) (by rw [← HOKK.out]; show IsCan _ _ _ (ev qs n i + qs.getD i 0 * ch n i); rw [HQQ.out]; exact HM5.out))
      go_wp2
      go_roundw
      case rel => exact ⟨i + 1, by go_num, by omega, HP⟩
      case measure => simp [intOf]; omega)
  ·have hlb : decide ((i : Int) < (qs.length : Int)) = false := decide_eq_false (by omega)
   have he : i = qs.length := by omega
   subst he
   go_wp2
   refine bodyPost_ret (v := .tuple #[.agg #[.bool b, .slice Ag mg cg, .slice Ag' mg' cg'], .bool true]) (by simp [results, Tryz.results24, go_sem, hrl, r0, r1, r2]) rfl ⟨_, rfl, ?_, ?_⟩
   ·have hne : ∀ k, (ok k ∧ k ≠ w.heap.size ∧ k ≠ g) → k ≠ w.heap.size := fun k hk => hk.2.1
    exact (((HCAN.out.set hne 0 _).set hne 1 _).set hne 2 _).mono (fun k hk => hk.1)
   ·exact below_set (below_set (below_set HBE.out (Nat.le_refl _)) (Nat.le_refl _)) (Nat.le_refl _)
/-
  The contract of Above (package fit).
-/
/-- How far the polynomial is above value i. -/
def gapR (ps vs : List Rat) (i : Nat) : Rat := ev ps i ps.length - vs.getD i 0
def RetAbove (ps vs : List Rat) (w0 : World) (e : Ending) (w' : World) : Prop := ∃ (r : Int) (b : Bool), e = .returned (.tuple #[.int .i64 r, .bool b]) ∧ Below w0.heap.size w0 w' ∧ ((b = false ∧ r = 0 ∧ ∀ i, i < vs.length → 0 ≤ sgnR (gapR ps vs i)) ∨ (b = true ∧ ∃ i : Nat, i < vs.length ∧ r = i ∧ sgnR (gapR ps vs i) < 0 ∧ ∀ m, m < i → 0 ≤ sgnR (gapR ps vs m)))
set_option maxRecDepth 100000 in
set_option maxHeartbeats 4000000 in
theorem above_rat (ok : Nat → Prop) (v0 v1 : Value) (ps vs : List Rat) (j k : Nat) (w : World) (hok : ∀ k, w.heap.size ≤ k → ok k) (h0 : RQ w ok v0 ps j) (h1 : RQ w ok v1 vs k) (hj : j ≤ 1000) (hk : k ≤ 1000) (hl0 : ps.length ≤ 33) (hl1 : vs.length ≤ 33) :
  Calls Tryz.prog 11 #[v0, v1] w (RetAbove ps vs w) := by
 have H0 := As h0
 have H1 := As h1
 have HRQ := As (fun i => h0.rs i)
 have HB := As (Below.refl w.heap.size w)
 have HOK := As hok
 obtain ⟨A, c, rfl, hc, hmx⟩ := h0.shape
 obtain ⟨A', c', rfl, hc', hmx'⟩ := h1.shape
 clear h0 h1 hok
 have d33 : decide ((33 : Int) < (ps.length : Int)) = false := decide_eq_false (by omega)
 have d34 : decide ((33 : Int) < (vs.length : Int)) = false := decide_eq_false (by omega)
 go_enter Tryz.func11, Tryz.ntmps11
 go_wp2
 go_loopw [20] (fun vi wr => ∃ i : Nat, vi = .int .i64 i ∧ i ≤ vs.length ∧ Aside0 (∀ m, m < i → 0 ≤ sgnR (gapR ps vs m)) ∧ Aside0 (Below w.heap.size w wr)) (fun vi _ => vs.length - (intOf vi).toNat)
 case atStart => exact ⟨0, rfl, Nat.zero_le _, ⟨fun m hm => absurd hm (Nat.not_lt_zero _)⟩, HB⟩
 case round =>
  clear HB
  obtain ⟨i, rfl, hi, HM, HB⟩ := hrel
  by_cases hlt : i < vs.length
  ·have hlb : decide ((i : Int) < (vs.length : Int)) = true := decide_eq_true (by omega)
   have HV := As (H1.out.below HB.out)
   obtain ⟨pb, po, nb, A1, m1, c1, A2, m2, c2, rfl, p0, p1, p2, hraw⟩ := HV.out.at i hlt
   obtain ⟨W7, hW7⟩ : ∃ W7, wr.alloc (.cells #[.bool nb, .slice A1 m1 c1, .slice A2 m2 c2] 46) = W7 := ⟨_, rfl⟩
   have hb7 : Below wr.heap.size wr W7 := by rw [← hW7]; exact below_alloc (Below.refl _ _) _
   have HB7 := As (below_step HB.out hb7)
   have HP7 := As (hraw.below hb7)
   have HZ7 := As (show W7.heap[wr.heap.size]? = some (.cells #[.bool nb, .slice A1 m1 c1, .slice A2 m2 c2] 46 (0, 0)) by rw [← hW7]; exact heap_new _ _)
   have HOK7 := As (show ∀ k, W7.heap.size ≤ k → ok k from fun k hk => HOK.out k (Nat.le_trans (below_step HB.out hb7).size hk))
   have H07 := As (H0.out.below (below_step HB.out hb7))
   have HW7 := As hW7
   have HJ := As hj
   have HL := As hl0
   have HN1 := As (show (0 : Int) ≤ (i : Int) by omega)
   have HN2 := As (show (i : Int) ≤ 1000000 by omega)
   have HRE := As (RS.ev (qs := ps) (n := (i : Int)) (j := j) HRQ.out (by omega) ps.length hl0)
   have hji : (j + 400) * ps.length ≤ 1400 * 33 := Nat.mul_le_mul (by omega) hl0
   have HDE := As (show (j + 400) * ps.length + 1 ≤ 900000 by omega)
   have HDK := As (show k ≤ 900000 by omega)
   clear hb7 hW7 hji hraw
   go_wp2_with fail
   rw [HW7.out]
   with_reducible refine (eval_rat ok _ ps j (i : Int) _ HOK7.out H07.out HJ.out HL.out HN1.out HN2.out).mono ?_
   rintro e w2 ⟨v8, rfl, hv, hb⟩
   have HB2 := As (below_step HB7.out hb)
   have hz2 := (hb.block _ (heap_lt_ HZ7.out)).trans HZ7.out
   obtain ⟨z0, z1, z2, _, _, _⟩ := cells3 hz2
   have hzl := heap_lt_ hz2
   have HP2 := As (HP7.out.below hb)
   have HV2 := As (hv.raw HRE.out)
   obtain ⟨b8, A8, m8, c8, A8', m8', c8', rfl⟩ := hv.shapeb
   obtain ⟨W9, hW9⟩ : ∃ W9, w2.alloc (.cells #[.bool b8, .slice A8 m8 c8, .slice A8' m8' c8'] 46) = W9 := ⟨_, rfl⟩
   have hb9 : Below w2.heap.size w2 W9 := by rw [← hW9]; exact below_alloc (Below.refl _ _) _
   have HB9 := As (below_step HB2.out hb9)
   have HP9 := As (HP2.out.below hb9)
   have HV9 := As (HV2.out.below hb9)
   have HOK9 := As (show ∀ k, W9.heap.size ≤ k → ok k from fun k hk => HOK.out k (Nat.le_trans (below_step HB2.out hb9).size hk))
   have HW9 := As hW9
   clear hv hb hz2 hb9 hW9
   go_wp2_with fail
   rw [HW9.out]
   with_reducible refine (cmp_rat ok _ _ _ _ _ _ _ HOK9.out HV9.out HP9.out HDE.out HDK.out).mono ?_
   rintro e w3 ⟨rfl, hb⟩
   have HB3 := As (below_step HB9.out hb)
   clear hb
   obtain ⟨sg, hsg⟩ : ∃ sg, sgnR (ev ps (i : Int) ps.length - vs.getD i 0) = sg := ⟨_, rfl⟩
   rw [hsg]
   have HSG := As (show sgnR (gapR ps vs i) = sg from hsg)
   clear hsg
   by_cases hs : sg < 0
   ·have hsb : decide (sg < 0) = true := decide_eq_true hs
    go_wp2
    go_ret2
    exact ⟨(i : Int), true, rfl, HB3.out, .inr ⟨rfl, i, hlt, rfl, by rw [HSG.out]; exact hs, HM.out⟩⟩
   ·have hsb : decide (sg < 0) = false := decide_eq_false hs
    have hs0 : 0 ≤ sg := by omega
    go_wp2
    go_roundw
    case rel => exact ⟨i + 1, by go_num, by omega, ⟨fun m hm => by rcases Nat.lt_or_ge m i with h | h; exact HM.out m h; rw [show m = i by omega, HSG.out]; exact hs0⟩, HB3⟩
    case measure => simp [intOf]; omega
  ·have hlb : decide ((i : Int) < (vs.length : Int)) = false := decide_eq_false (by omega)
   go_wp2
   go_ret2
   exact ⟨0, false, rfl, HB.out, .inl ⟨rfl, rfl, fun m hm => HM.out m (by omega)⟩⟩
end Go.Proofs.YtldkcpgnccknpaaGreat
/-
  The plain law of Newton's forward differences: no program in sight.
-/
namespace Go.Proofs.YtldkcpgnccknpaaGreat
/-- The k-th differences. -/
def dl (v : Nat → Rat) : Nat → Nat → Rat
 | 0, i => v i
 | k + 1, i => dl v k (i + 1) - dl v k i
theorem cast_ne (k : Nat) : (((k : Int) + 1 : Int) : Rat) ≠ 0 := fun e => by
 have h5 : ((k : Int) + 1 : Int) = 0 := by exact_mod_cast e
 omega
theorem ch_absorb (n : Int) : ∀ k : Nat, ch (n + 1) (k + 1) * (((k : Int) + 1 : Int) : Rat) = ch n k * ((n : Rat) + 1)
 | 0 => by
  simp [ch]
  grind
 | k + 1 => by
  have ih := ch_absorb n k
  have h1 := cast_ne k
  have h2 := cast_ne (k + 1)
  rw [show ch (n + 1) (k + 1 + 1) = ch (n + 1) (k + 1) * (((n + 1 : Int) : Rat) - (((k + 1 : Nat) : Int) : Rat)) / ((((k + 1 : Nat) : Int) + 1 : Int) : Rat) from rfl, Rat.div_mul_cancel h2]
  rw [show ch n (k + 1) = ch n k * ((n : Rat) - ((k : Int) : Rat)) / (((k : Int) + 1 : Int) : Rat) from rfl]
  have e1 : (((n + 1 : Int) : Rat) - (((k + 1 : Nat) : Int) : Rat)) = (n : Rat) - ((k : Int) : Rat) := by
   push_cast
   grind
  rw [e1]
  generalize (((k : Int) + 1 : Int) : Rat) = d at ih h1 ⊢
  grind
theorem ch_pascal (n : Int) (k : Nat) : ch (n + 1) (k + 1) = ch n k + ch n (k + 1) := by
 have h1 := cast_ne k
 have h2 := ch_absorb n k
 have h3 : ch n (k + 1) * (((k : Int) + 1 : Int) : Rat) = ch n k * ((n : Rat) - ((k : Int) : Rat)) := by
  rw [show ch n (k + 1) = ch n k * ((n : Rat) - ((k : Int) : Rat)) / (((k : Int) + 1 : Int) : Rat) from rfl, Rat.div_mul_cancel h1]
 have h4 : (((k : Int) + 1 : Int) : Rat) = ((k : Int) : Rat) + 1 := by push_cast; rfl
 rw [h4] at h1 h2 h3
 generalize ((k : Int) : Rat) = d at h1 h2 h3
 grind
theorem ch_self (n : Nat) : ch n (n + 1) = 0 := by
 show ch n n * (((n : Int) : Rat) - ((n : Int) : Rat)) / _ = 0
 rw [Rat.sub_self, Rat.mul_zero, Rat.div_def, Rat.zero_mul]
theorem ch_big (n : Nat) : ∀ k : Nat, n < k → ch n k = 0
 | 0, h => absurd h (Nat.not_lt_zero _)
 | k + 1, h => by
  rcases Nat.lt_or_ge n k with h1 | h1
  ·show ch n k * _ / _ = 0
   rw [ch_big n k h1, Rat.zero_mul, Rat.div_def, Rat.zero_mul]
  ·have : k = n := by omega
   subst this
   exact ch_self k
theorem dl_shift (v : Nat → Rat) : ∀ k i, dl (fun i => v (i + 1) - v i) k i = dl v (k + 1) i
 | 0, i => rfl
 | k + 1, i => by
  show dl (fun i => v (i + 1) - v i) k (i + 1) - dl (fun i => v (i + 1) - v i) k i = _
  rw [dl_shift v k, dl_shift v k]
  rfl
/-- The first m terms of Newton's polynomial at n. -/
def nw (v : Nat → Rat) (n : Int) : Nat → Rat
 | 0 => 0
 | m + 1 => nw v n m + dl v m 0 * ch n m
theorem nw_step (v : Nat → Rat) (n : Int) : ∀ m, nw v (n + 1) (m + 1) = nw v n (m + 1) + nw (fun i => v (i + 1) - v i) n m
 | 0 => by
  simp [nw, ch]
  grind
 | m + 1 => by
  rw [show nw v (n + 1) (m + 1 + 1) = nw v (n + 1) (m + 1) + dl v (m + 1) 0 * ch (n + 1) (m + 1) from rfl, nw_step v n m, ch_pascal]
  rw [show nw v n (m + 1 + 1) = nw v n (m + 1) + dl v (m + 1) 0 * ch n (m + 1) from rfl, show nw (fun i => v (i + 1) - v i) n (m + 1) = nw (fun i => v (i + 1) - v i) n m + dl (fun i => v (i + 1) - v i) m 0 * ch n m from rfl, dl_shift]
  grind
theorem newton_at : ∀ (n : Nat) (v : Nat → Rat), nw v n (n + 1) = v n
 | 0, v => by
  simp [nw, ch, dl]
  grind
 | n + 1, v => by
  have h := nw_step v (n : Int) (n + 1)
  rw [newton_at n (fun i => v (i + 1) - v i), show nw v n (n + 1 + 1) = nw v n (n + 1) + dl v (n + 1) 0 * ch n (n + 1) from rfl, newton_at n v, ch_self] at h
  have e : (((n + 1 : Nat) : Int)) = (n : Int) + 1 := by omega
  rw [e, h]
  grind
theorem newton (v : Nat → Rat) (n : Nat) : ∀ m : Nat, n < m → nw v n m = v n
 | 0, h => absurd h (Nat.not_lt_zero _)
 | m + 1, h => by
  rcases Nat.lt_or_ge n m with h1 | h1
  ·show nw v n m + dl v m 0 * ch n m = v n
   rw [newton v n m h1, ch_big n m h1, Rat.mul_zero, Rat.add_zero]
  ·have : m = n := by omega
   subst this
   exact newton_at m v
/-
  The plain law of the table of differences, and of a polynomial's values.
-/
/-- The table behind k rounds. -/
def tb (v : Nat → Rat) (k i : Nat) : Rat := if i < k then dl v i 0 else dl v k (i - k)
theorem tb_zero (v : Nat → Rat) (i : Nat) : tb v 0 i = v i := by
 unfold tb
 rw [if_neg (by omega)]
 rfl
theorem tb_low (v : Nat → Rat) {k i : Nat} (h : i ≤ k) : tb v (k + 1) i = tb v k i := by
 unfold tb
 rw [if_pos (by omega)]
 rcases Nat.lt_or_ge i k with h1 | h1
 ·rw [if_pos h1]
 ·have : i = k := by omega
  subst this
  rw [if_neg (by omega), Nat.sub_self]
theorem tb_next (v : Nat → Rat) {k i : Nat} (h : k < i) : tb v (k + 1) i = tb v k i - tb v k (i - 1) := by
 unfold tb
 rw [if_neg (by omega), if_neg (by omega), if_neg (by omega)]
 obtain ⟨j, rfl⟩ : ∃ j, i = j + k + 1 := ⟨i - k - 1, by omega⟩
 rw [show j + k + 1 - (k + 1) = j by omega, show j + k + 1 - k = j + 1 by omega, show j + k + 1 - 1 - k = j by omega]
 rfl
theorem tb_done (v : Nat → Rat) {m i : Nat} (h : i ≤ m) : tb v m i = dl v i 0 := by
 unfold tb
 rcases Nat.lt_or_ge i m with h1 | h1
 ·rw [if_pos h1]
 ·have : i = m := by omega
  subst this
  rw [if_neg (by omega), Nat.sub_self]
/-- Trailing zeros say nothing. -/
theorem ev_nw {qs : List Rat} {v : Nat → Rat} {m : Nat} (n : Int) (h1 : ∀ i, i < qs.length → qs.getD i 0 = dl v i 0) (h2 : ∀ i, qs.length ≤ i → i < m → dl v i 0 = 0) (hl : qs.length ≤ m) : ev qs n qs.length = nw v n m := by
 have hA : ∀ k, k ≤ qs.length → ev qs n k = nw v n k := by
  intro k
  induction k with
  | zero => intro _; rfl
  | succ k ih =>
   intro hk
   show ev qs n k + qs.getD k 0 * ch n k = nw v n k + dl v k 0 * ch n k
   rw [ih (by omega), h1 k (by omega)]
 have hB : ∀ d, qs.length + d ≤ m → nw v n (qs.length + d) = nw v n qs.length := by
  intro d
  induction d with
  | zero => intro _; rfl
  | succ d ih =>
   intro hd
   show nw v n (qs.length + d) + dl v (qs.length + d) 0 * ch n (qs.length + d) = _
   rw [ih (by omega), h2 _ (by omega) (by omega), Rat.zero_mul, Rat.add_zero]
 rw [hA _ (Nat.le_refl _), ← hB (m - qs.length) (by omega), show qs.length + (m - qs.length) = m by omega]
end Go.Proofs.YtldkcpgnccknpaaGreat
/-
  How large the differences of n values can be: no program in sight.
-/
namespace Go.Proofs.YtldkcpgnccknpaaGreat
open Num
set_option linter.unusedVariables false
theorem mul_den (q : Rat) : q * ((q.den : Int) : Rat) = (q.num : Rat) := by
 have h : q = (q.num : Rat) / ((q.den : Int) : Rat) := by
  rw [← Rat.divInt_eq_div]; exact (Rat.num_divInt_den q).symm
 have hd : ((q.den : Int) : Rat) ≠ 0 := by
  intro e
  have : (q.den : Int) = 0 := by exact_mod_cast e
  exact q.den_nz (by omega)
 conv => lhs; lhs; rw [h]
 exact Rat.div_mul_cancel hd
theorem RS.ints (k : Nat) (n : Int) (h : (n.natAbs : Int) < pw k) (hk : 1 ≤ k) : RS k (n : Rat) := by
 refine ⟨?_, ?_⟩
 ·rw [Rat.num_intCast]; exact h
 ·rw [Rat.den_intCast]
  have h1 := pw_le hk
  have h2 : pw 1 = 1000000000 := rfl
  omega
/-- A common denominator. -/
theorem common (v : Nat → Rat) (s : Nat) : ∀ n, (∀ i, i < n → RS s (v i)) → ∃ D : Nat, 0 < D ∧ (D : Int) ≤ pw (s * n) ∧ ∀ i, i < n → ∃ N : Int, v i * ((D : Int) : Rat) = (N : Rat) ∧ (N.natAbs : Int) ≤ pw s * D
 | 0, _ => ⟨1, by decide, by have := pw_pos (s * 0); omega, fun i hi => absurd hi (Nat.not_lt_zero _)⟩
 | n + 1, h => by
  obtain ⟨D, h0, h1, h2⟩ := common v s n (fun i hi => h i (by omega))
  have hn := h n (by omega)
  have hd := (v n).den_pos
  have hp := pw_pos s
  refine ⟨D * (v n).den, Nat.mul_pos h0 hd, ?_, fun i hi => ?_⟩
  ·rw [show s * (n + 1) = s * n + s from rfl, pw_add, Int.natCast_mul]
   exact Int.mul_le_mul h1 (by have := hn.2; omega) (by omega) (by have := pw_pos (s * n); omega)
  ·rcases Nat.lt_or_ge i n with h3 | h3
   ·obtain ⟨N, e, hN⟩ := h2 i h3
    refine ⟨N * ((v n).den : Int), ?_, ?_⟩
    ·rw [Int.natCast_mul, Rat.intCast_mul, ← Rat.mul_assoc, e, ← Rat.intCast_mul]
    ·rw [Int.natAbs_mul, Int.natCast_mul, Int.natCast_mul, ← Int.mul_assoc, Int.natAbs_natCast]
     exact Int.mul_le_mul_of_nonneg_right hN (by omega)
   ·have : i = n := by omega
    subst this
    refine ⟨(v i).num * (D : Int), ?_, ?_⟩
    ·rw [Int.natCast_mul, Int.mul_comm, Rat.intCast_mul, ← Rat.mul_assoc, mul_den, ← Rat.intCast_mul]
    ·rw [Int.natAbs_mul, Int.natCast_mul, Int.natCast_mul, Int.natAbs_natCast]
     have h4 : ((v i).num.natAbs : Int) * (D : Int) ≤ pw s * D := Int.mul_le_mul_of_nonneg_right (by have := hn.1; omega) (by omega)
     have h5 : (pw s * D) * 1 ≤ (pw s * D) * ((v i).den : Int) := Int.mul_le_mul_of_nonneg_left (by omega) (Int.mul_nonneg (by omega) (by omega))
     rw [Int.mul_one, Int.mul_assoc] at h5
     exact Int.le_trans h4 h5
theorem dl_bound {v : Nat → Rat} {n : Nat} {D B : Int} (h : ∀ i, i < n → ∃ N : Int, v i * (D : Rat) = (N : Rat) ∧ (N.natAbs : Int) ≤ B) : ∀ k i, i + k < n → ∃ N : Int, dl v k i * (D : Rat) = (N : Rat) ∧ (N.natAbs : Int) ≤ 2 ^ k * B
 | 0, i, hi => by
  obtain ⟨N, h1, h2⟩ := h i (by omega)
  exact ⟨N, h1, by rw [Int.pow_zero, Int.one_mul]; exact h2⟩
 | k + 1, i, hi => by
  obtain ⟨N1, e1, h1⟩ := dl_bound h k (i + 1) (by omega)
  obtain ⟨N2, e2, h2⟩ := dl_bound h k i (by omega)
  refine ⟨N1 - N2, ?_, ?_⟩
  ·show (dl v k (i + 1) - dl v k i) * (D : Rat) = _
   rw [Rat.intCast_sub, ← e1, ← e2]
   grind
  ·rw [Int.pow_succ, Int.mul_assoc, Int.mul_comm 2 B, ← Int.mul_assoc]
   omega
theorem RS.dl {v : Nat → Rat} {s n : Nat} (h : ∀ i, i < n → RS s (v i)) (hn : n ≤ 33) {k i : Nat} (hi : i + k < n) : RS (2 * (s * n) + s + 4) (dl v k i) := by
 obtain ⟨D, h0, h1, h2⟩ := common v s n h
 obtain ⟨N, e, hN⟩ := dl_bound h2 k i hi
 have hD : ((D : Int) : Rat) ≠ 0 := by
  intro e
  have : (D : Int) = 0 := by exact_mod_cast e
  omega
 have hq : Go.Proofs.YtldkcpgnccknpaaGreat.dl v k i = (N : Rat) / ((D : Int) : Rat) := by rw [← e, Rat.mul_div_cancel hD]
 have h3 : (2 : Int) ^ k ≤ 2 ^ 33 := by
  have h33 : (2 : Nat) ^ k ≤ 2 ^ 33 := Nat.pow_le_pow_right (by decide) (by omega)
  exact_mod_cast h33
 have h4 : pw 2 = 1000000000000000000 := rfl
 have h5 : (2 : Int) ^ 33 = 8589934592 := rfl
 have hps := pw_pos s
 have h6 : 2 ^ k * (pw s * (D : Int)) ≤ pw 2 * (pw s * pw (s * n)) := Int.mul_le_mul (by omega) (Int.mul_le_mul_of_nonneg_left h1 (by omega)) (Int.mul_nonneg (by omega) (by omega)) (by omega)
 rw [← pw_add, ← pw_add] at h6
 have h7 : pw (2 + (s + s * n)) < pw (3 + (s + s * n)) := by
  rw [show 3 + (s + s * n) = (2 + (s + s * n)) + 1 by omega, pw_succ]
  have := pw_pos (2 + (s + s * n))
  omega
 have h8 : pw (s * n) < pw (s * n + 1) := by
  rw [pw_succ]
  have := pw_pos (s * n)
  omega
 have r1 := RS.ints (3 + (s + s * n)) N (by omega) (by omega)
 have r2 := RS.ints (s * n + 1) (D : Int) (by rw [Int.natAbs_natCast]; omega) (by omega)
 rw [hq]
 exact (RS.div r1 r2 hD).mono (by omega)
theorem RS.tb {v : Nat → Rat} {s n : Nat} (h : ∀ i, i < n → RS s (v i)) (hn : n ≤ 33) {k i : Nat} (hi : i < n) (hk : k < n) : RS (2 * (s * n) + s + 4) (tb v k i) := by
 unfold Go.Proofs.YtldkcpgnccknpaaGreat.tb
 split
 ·exact RS.dl h hn (by omega)
 ·exact RS.dl h hn (by omega)
end Go.Proofs.YtldkcpgnccknpaaGreat
