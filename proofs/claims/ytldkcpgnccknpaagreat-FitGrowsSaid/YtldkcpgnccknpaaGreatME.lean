/-
  The parts RefL, InvRef, RefM, RefN: the contracts of the program's functions and the plain laws below them; each part's own remark says which.
-/
import Derived.Test.YtldkcpgnccknpaaGreatMD
set_option linter.unusedVariables false
set_option linter.unusedSimpArgs false
/-
  The contracts of Sign and FromInt (the reference of layer 1).
-/
namespace Go.Proofs.YtldkcpgnccknpaaGreat
open Go.RowKit Go.Proofs.YtldkcpgnccknpaaGreatW.PrintWords Go.Proofs.YtldkcpgnccknpaaGreatW.PrintMore Go.Proofs.YtldkcpgnccknpaaGreatW.PrintLast Num
set_option linter.unusedVariables false
set_option maxHeartbeats 4000000 in
theorem sign_ref (ok : Nat → Prop) (v0 : Value) (p : Rat) (k : Nat) (w : World) (hok : ∀ k, w.heap.size ≤ k → ok k) (h0 : IsRaw w ok v0 p k) (hk : k ≤ 8000000) :
  Calls Tryz.prog 26 #[v0] w (RetInt (sgnR p) w) := by
 obtain ⟨n0, A0, m0, c0, A0', m0', c0', e0⟩ := h0.shape
 obtain ⟨W2, hW2⟩ : ∃ W2, w.alloc (.cells #[.bool n0, .slice A0 m0 c0, .slice A0' m0' c0'] 46) = W2 := ⟨_, rfl⟩
 have hsz : W2.heap.size = w.heap.size + 1 := by rw [← hW2]; simp only [size_alloc]
 have hb2 : Below w.heap.size w W2 := by rw [← hW2]; exact below_alloc (Below.refl _ _) _
 have HOK := As (show ∀ k, W2.heap.size ≤ k → ok k from fun k hk => hok k (by omega))
 have HR0 := As (h0.below hb2)
 have HC := As (show W2.heap[w.heap.size]? = some (.cells #[.bool n0, .slice A0 m0 c0, .slice A0' m0' c0'] 46 (0, 0)) by rw [← hW2, heap_new])
 have HW2 := As hW2
 have HB2 := As hb2
 have HK := As hk
 subst e0
 clear hW2 hsz hb2 hok h0 hk
 go_enter Tryz.func26, Tryz.ntmps26
 go_wp2_with fail
 rw [HW2.out]
 with_reducible refine (canonical_ref ok _ _ _ _ HOK.out HR0.out HK.out).mono ?_
 rintro e w3 ⟨vc, rfl, hc, hb⟩
 have HB3 := As (below_weaken HB2.out HB2.out.size hb)
 have HC3 := As ((hb.block _ (heap_lt_ HC.out)).trans HC.out)
 have hs3 := heap_lt_ HC3.out
 obtain ⟨u0, u1, u2, u3, u4, u5⟩ := cells3 HC3.out
 obtain ⟨x1, x2, rfl, hx1, hx2⟩ := hc
 obtain ⟨Ax, mx, cx, rfl, hxz⟩ := hx1.shape
 obtain ⟨Ay, my, cy, rfl, _⟩ := hx2.shape
 obtain ⟨bp, hbp⟩ : ∃ b, decide (p.num < 0) = b := ⟨_, rfl⟩
 rw [hbp]
 have HBP := As hbp
 have HXZ := As hxz
 clear hb hx1 hx2 hbp hxz
 by_cases hm : mx = 0
 ·have hmb : (mx == 0) = true := by simp [hm]
  have HM := As hm
  clear hm
  go_wp2
  go_ret
  exact RetInt.mk (by unfold sgnR; rw [if_pos (by have := HXZ.out.1 HM.out; omega)]) (below_set (below_set (below_set HB3.out (Nat.le_refl _)) (Nat.le_refl _)) (Nat.le_refl _))
 ·have hmb : (mx == 0) = false := by simp [hm]
  have HM := As (show p.num ≠ 0 from fun e => hm (HXZ.out.2 (by rw [e]; rfl)))
  clear hm
  cases bp with
  | true =>
   go_wp2
   go_ret
   exact RetInt.mk (by unfold sgnR; rw [if_neg HM.out, if_pos (of_decide_eq_true HBP.out)]) (below_set (below_set (below_set HB3.out (Nat.le_refl _)) (Nat.le_refl _)) (Nat.le_refl _))
  | false =>
   go_wp2
   go_ret
   exact RetInt.mk (by unfold sgnR; rw [if_neg HM.out, if_neg (of_decide_eq_false HBP.out)]) (below_set (below_set (below_set HB3.out (Nat.le_refl _)) (Nat.le_refl _)) (Nat.le_refl _))
set_option maxHeartbeats 4000000 in
theorem fromInt_ref (ok : Nat → Prop) (n : Int) (w : World) (hok : ∀ k, w.heap.size ≤ k → ok k) (hn0 : -9223372036854775808 ≤ n) (hn1 : n ≤ 9223372036854775807) :
  Calls Tryz.prog 13 #[.int .i64 n] w (RetRat ok (n : Rat) w) := by
 obtain ⟨W1, hW1⟩ : ∃ W1, w.alloc (.cells #[.bool false, .slice none 0 0, .slice none 0 0] 46) = W1 := ⟨_, rfl⟩
 have hb1 : Below w.heap.size w W1 := by rw [← hW1]; exact below_alloc (Below.refl _ _) _
 have hsz : W1.heap.size = w.heap.size + 1 := by rw [← hW1, size_alloc]
 obtain ⟨ok', hok'⟩ : ∃ ok' : Nat → Prop, ok' = fun k => ok k ∧ k ≠ w.heap.size := ⟨_, rfl⟩
 have HOK' := As hok'
 have HOK1 := As (show ∀ k, W1.heap.size ≤ k → ok' k from fun k hk => by rw [hok']; exact ⟨hok k (by omega), by omega⟩)
 have HC := As (show W1.heap[w.heap.size]? = some (.cells #[.bool false, .slice none 0 0, .slice none 0 0] 46 (0, 0)) by rw [← hW1, heap_new])
 have HB1 := As hb1
 have HW1 := As hW1
 have hone := As (show U32 [(1 : Int)] from fun x hx => by simp at hx; omega)
 have hlen1 := As (show [(1 : Int)].length ≤ 10 from by decide)
 have hk10 := As (show 10 ≤ 8000000 from by decide)
 clear hW1 hb1 hsz hok hok'
 rcases Int.lt_or_le n 0 with hneg | hpos
 ·obtain ⟨u, rfl⟩ : ∃ u, n = -u := ⟨-n, by omega⟩
  have hd : decide (-u < 0) = true := decide_eq_true hneg
  have hw1 : IntKind.u64.wrap (-(-u + 1)) = u - 1 := by show (-(-u + 1)) % 18446744073709551616 = _; omega
  have hw2 : IntKind.u64.wrap (u - 1 + 1) = u := by show (u - 1 + 1) % 18446744073709551616 = _; omega
  have hw3 : IntKind.i64.wrap (-u + 1) = -u + 1 := IntWalk.i64_in _ (by omega)
  have hw4 : IntKind.i64.wrap (-(-u + 1)) = -(-u + 1) := IntWalk.i64_in _ (by omega)
  have HK1 := As (show 0 ≤ u by omega)
  have HK2 := As (show u < 18446744073709551616 by omega)
  have HEQ := As (show rq true u.toNat 1 = ((-u : Int) : Rat) by rw [← rq_int, hd, Int.natAbs_neg, show u.toNat = u.natAbs by omega])
  go_enter Tryz.func13, Tryz.ntmps13
  go_wp2_with fail
  rw [HW1.out]
  with_reducible refine (limbs_nat ok' u _ HOK1.out HK1.out HK2.out).mono ?_
  rintro e w3 ⟨vn, rfl, hn, hb⟩
  have HB3 := As (below_weaken HB1.out HB1.out.size hb)
  have HC3 := As ((hb.block _ (heap_lt_ HC.out)).trans HC.out)
  have HOK3 := As (show ∀ k, w3.heap.size ≤ k → ok' k from fun k hk => HOK1.out k (Nat.le_trans hb.size hk))
  have hn' := hn.below (below_alloc (Below.refl w3.heap.size w3) (.cells #[.int .u32 1] 65))
  obtain ⟨ln, hun, hnn, hvn⟩ := hn'
  have HUN := As hun
  have HUL := As hnn.1.u32
  have HLL := As (show ln.length ≤ 10 from len_le hnn (by rw [hvn]; have h1 := HK2.out; have h2 := pw_le (show 3 ≤ 10 by decide); have h3 : pw 3 = 1000000000000000000000000000 := rfl; omega))
  have HU1 := As (U_lit w3 ok' HOK3.out 1)
  have HOK4 := As (show ∀ k, (w3.alloc (.cells #[.int .u32 1] 65)).heap.size ≤ k → ok' k from fun k hk => HOK3.out k (by rw [size_alloc] at hk; omega))
  have HC4 := As ((heap_old (.cells #[.int .u32 1] 65) (heap_lt_ HC3.out)).trans HC3.out)
  have HB4 := As (below_alloc HB3.out (.cells #[.int .u32 1] 65))
  have HQ := As (show rawq true ln [1] = rq true u.toNat 1 by unfold rawq; rw [if_neg (by decide), hvn, Int.toNat_natCast]; rfl)
  clear hn hun hnn hvn hb
  go_wp2_with fail
  with_reducible refine (build_rat ok' true _ _ ln [1] 10 _ HOK4.out HUN.out HU1.out HUL.out hone.out HLL.out hlen1.out hk10.out).mono ?_
  rintro e w5 ⟨vr, rfl, hr, hb⟩
  rw [HQ.out, HEQ.out] at hr
  have HR := As hr
  have HB5 := As (below_step HB4.out hb)
  have HC5 := As ((hb.block _ (heap_lt_ HC4.out)).trans HC4.out)
  obtain ⟨Ar, nr, cr, Ar', nr', cr', rfl⟩ := hr.shape
  obtain ⟨u0, u1, u2, u3, u4, u5⟩ := cells3 HC5.out
  clear hr hb
  obtain ⟨bs, hbs⟩ : ∃ bs, decide (((-u : Int) : Rat).num < 0) = bs := ⟨_, rfl⟩
  rw [hbs] at HR ⊢
  go_wp2
  refine bodyPost_ret (v := .agg #[.bool bs, .slice Ar nr cr, .slice Ar' nr' cr']) (by simp [results, Tryz.results13, go_sem, u0, u1, u2]) rfl ⟨_, rfl, ?_, ?_⟩
  ·have hne : ∀ k, ok' k → k ≠ w.heap.size := fun k hk => by rw [HOK'.out] at hk; exact hk.2
   have hmo : ∀ k, ok' k → ok k := fun k hk => by rw [HOK'.out] at hk; exact hk.1
   exact (((HR.out.set hne 0 _).set hne 1 _).set hne 2 _).mono hmo
  ·exact below_set (below_set (below_set HB5.out (by omega)) (by omega)) (by omega)
 ·have hd : decide (n < 0) = false := decide_eq_false (by omega)
  obtain ⟨u, hu⟩ : ∃ u, u = n := ⟨n, rfl⟩
  subst hu
  have hw1 : IntKind.u64.wrap u = u := by show u % 18446744073709551616 = _; omega
  have HK1 := As (show 0 ≤ u by omega)
  have HK2 := As (show u < 18446744073709551616 by omega)
  have HEQ := As (show rq false u.toNat 1 = ((u : Int) : Rat) by rw [← rq_int, hd, show u.toNat = u.natAbs by omega])
  go_enter Tryz.func13, Tryz.ntmps13
  go_wp2_with fail
  rw [HW1.out]
  with_reducible refine (limbs_nat ok' u _ HOK1.out HK1.out HK2.out).mono ?_
  rintro e w3 ⟨vn, rfl, hn, hb⟩
  have HB3 := As (below_weaken HB1.out HB1.out.size hb)
  have HC3 := As ((hb.block _ (heap_lt_ HC.out)).trans HC.out)
  have HOK3 := As (show ∀ k, w3.heap.size ≤ k → ok' k from fun k hk => HOK1.out k (Nat.le_trans hb.size hk))
  have hn' := hn.below (below_alloc (Below.refl w3.heap.size w3) (.cells #[.int .u32 1] 65))
  obtain ⟨ln, hun, hnn, hvn⟩ := hn'
  have HUN := As hun
  have HUL := As hnn.1.u32
  have HLL := As (show ln.length ≤ 10 from len_le hnn (by rw [hvn]; have h1 := HK2.out; have h2 := pw_le (show 3 ≤ 10 by decide); have h3 : pw 3 = 1000000000000000000000000000 := rfl; omega))
  have HU1 := As (U_lit w3 ok' HOK3.out 1)
  have HOK4 := As (show ∀ k, (w3.alloc (.cells #[.int .u32 1] 65)).heap.size ≤ k → ok' k from fun k hk => HOK3.out k (by rw [size_alloc] at hk; omega))
  have HC4 := As ((heap_old (.cells #[.int .u32 1] 65) (heap_lt_ HC3.out)).trans HC3.out)
  have HB4 := As (below_alloc HB3.out (.cells #[.int .u32 1] 65))
  have HQ := As (show rawq false ln [1] = rq false u.toNat 1 by unfold rawq; rw [if_neg (by decide), hvn, Int.toNat_natCast]; rfl)
  clear hn hun hnn hvn hb
  go_wp2_with fail
  with_reducible refine (build_rat ok' false _ _ ln [1] 10 _ HOK4.out HUN.out HU1.out HUL.out hone.out HLL.out hlen1.out hk10.out).mono ?_
  rintro e w5 ⟨vr, rfl, hr, hb⟩
  rw [HQ.out, HEQ.out] at hr
  have HR := As hr
  have HB5 := As (below_step HB4.out hb)
  have HC5 := As ((hb.block _ (heap_lt_ HC4.out)).trans HC4.out)
  obtain ⟨Ar, nr, cr, Ar', nr', cr', rfl⟩ := hr.shape
  obtain ⟨u0, u1, u2, u3, u4, u5⟩ := cells3 HC5.out
  clear hr hb
  obtain ⟨bs, hbs⟩ : ∃ bs, decide (((u : Int) : Rat).num < 0) = bs := ⟨_, rfl⟩
  rw [hbs] at HR ⊢
  go_wp2
  refine bodyPost_ret (v := .agg #[.bool bs, .slice Ar nr cr, .slice Ar' nr' cr']) (by simp [results, Tryz.results13, go_sem, u0, u1, u2]) rfl ⟨_, rfl, ?_, ?_⟩
  ·have hne : ∀ k, ok' k → k ≠ w.heap.size := fun k hk => by rw [HOK'.out] at hk; exact hk.2
   have hmo : ∀ k, ok' k → ok k := fun k hk => by rw [HOK'.out] at hk; exact hk.1
   exact (((HR.out.set hne 0 _).set hne 1 _).set hne 2 _).mono hmo
  ·exact below_set (below_set (below_set HB5.out (by omega)) (by omega)) (by omega)
/-
  Two boxes whose numbers are made canonical in place, in whatever order: what holds on the way.
-/
structure InPl (w0 : World) (ok : Nat → Prop) (p q : Rat) (V0 V1 : Value) (l1 l3 l4 l5 : Bool) (y z : Value) (w : World) : Prop where
 below : Below w0.heap.size w0 w
 sz : w0.heap.size + 3 ≤ w.heap.size
 rc : w.heap[w0.heap.size + 2]? = some (.cells #[.bool false, .slice none 0 0, .slice none 0 0] 46 (0, 0))
 d41 : l4 = true → l1 = true
 d53 : l5 = true → l3 = true
 bs : ∃ c0 c1 c2, w.heap[w0.heap.size]? = some (.cells #[c0, c1, c2] 46 (0, 0)) ∧ (l4 = false → V0 = .agg #[c0, c1, c2]) ∧ (l4 = true → y = .agg #[c0, c1, c2])
 bt : ∃ c0 c1 c2, w.heap[w0.heap.size + 1]? = some (.cells #[c0, c1, c2] 46 (0, 0)) ∧ (l5 = false → V1 = .agg #[c0, c1, c2]) ∧ (l5 = true → z = .agg #[c0, c1, c2])
 cy : l1 = true → IsCan w (fun k => ok k ∧ k ≠ w0.heap.size ∧ k ≠ w0.heap.size + 1 ∧ k ≠ w0.heap.size + 2) y p
 cz : l3 = true → IsCan w (fun k => ok k ∧ k ≠ w0.heap.size ∧ k ≠ w0.heap.size + 1 ∧ k ≠ w0.heap.size + 2) z q
section
variable {w0 w w1 : World} {ok : Nat → Prop} {p q : Rat} {V0 V1 : Value} {l1 l3 l4 l5 : Bool} {y z : Value}
theorem InPl.fresh (T : InPl w0 ok p q V0 V1 l1 l3 l4 l5 y z w) (hok : ∀ k, w0.heap.size ≤ k → ok k) : ∀ k, w.heap.size ≤ k → ok k ∧ k ≠ w0.heap.size ∧ k ≠ w0.heap.size + 1 ∧ k ≠ w0.heap.size + 2 := fun k hk =>
 ⟨hok k (by have := T.sz; omega), by have := T.sz; omega, by have := T.sz; omega, by have := T.sz; omega⟩
theorem InPl.arg (T : InPl w0 ok p q V0 V1 l1 l3 l4 l5 y z w) {v : Value} {r : Rat} {k : Nat} (hv : IsRaw w0 ok v r k) : IsRaw w (fun k => ok k ∧ k ≠ w0.heap.size ∧ k ≠ w0.heap.size + 1 ∧ k ≠ w0.heap.size + 2) v r k :=
 (hv.old T.below).mono (fun k hk => ⟨hk.1, by have := hk.2; omega, by have := hk.2; omega, by have := hk.2; omega⟩)
theorem InPl.below_ (T : InPl w0 ok p q V0 V1 l1 l3 l4 l5 y z w) (hb : Below w.heap.size w w1) : InPl w0 ok p q V0 V1 l1 l3 l4 l5 y z w1 :=
 ⟨below_weaken T.below T.below.size hb, Nat.le_trans T.sz hb.size, (hb.block _ (heap_lt_ T.rc)).trans T.rc, T.d41, T.d53,
  by obtain ⟨c0, c1, c2, hc, h3⟩ := T.bs; exact ⟨c0, c1, c2, (hb.block _ (heap_lt_ hc)).trans hc, h3⟩,
  by obtain ⟨c0, c1, c2, hc, h3⟩ := T.bt; exact ⟨c0, c1, c2, (hb.block _ (heap_lt_ hc)).trans hc, h3⟩,
  fun e => (T.cy e).below hb, fun e => (T.cz e).below hb⟩
theorem InPl.call1 (T : InPl w0 ok p q V0 V1 false l3 l4 l5 y z w) (hb : Below w.heap.size w w1) {v : Value} (hv : IsCan w1 (fun k => ok k ∧ k ≠ w0.heap.size ∧ k ≠ w0.heap.size + 1 ∧ k ≠ w0.heap.size + 2) v p) : InPl w0 ok p q V0 V1 true l3 l4 l5 v z w1 := by
 have T1 := T.below_ hb
 have h4 : l4 = false := by cases l4 with | false => rfl | true => exact absurd (T.d41 rfl) (by simp)
 subst h4
 exact ⟨T1.below, T1.sz, T1.rc, by simp, T1.d53, by obtain ⟨c0, c1, c2, hc, h3, _⟩ := T1.bs; exact ⟨c0, c1, c2, hc, h3, by simp⟩, T1.bt, fun _ => hv, T1.cz⟩
theorem InPl.call3 (T : InPl w0 ok p q V0 V1 l1 false l4 l5 y z w) (hb : Below w.heap.size w w1) {v : Value} (hv : IsCan w1 (fun k => ok k ∧ k ≠ w0.heap.size ∧ k ≠ w0.heap.size + 1 ∧ k ≠ w0.heap.size + 2) v q) : InPl w0 ok p q V0 V1 l1 true l4 l5 y v w1 := by
 have T1 := T.below_ hb
 have h5 : l5 = false := by cases l5 with | false => rfl | true => exact absurd (T.d53 rfl) (by simp)
 subst h5
 exact ⟨T1.below, T1.sz, T1.rc, T1.d41, by simp, T1.bs, by obtain ⟨c0, c1, c2, hc, h3, _⟩ := T1.bt; exact ⟨c0, c1, c2, hc, h3, by simp⟩, T1.cy, fun _ => hv⟩
theorem InPl.store4 {c0 c1 c2 : Value} (T : InPl w0 ok p q V0 V1 true l3 false l5 (.agg #[c0, c1, c2]) z w) : InPl w0 ok p q V0 V1 true l3 true l5 (.agg #[c0, c1, c2]) z (put3 w w0.heap.size c0 c1 c2) := by
 obtain ⟨a0, a1, a2, hc, _⟩ := T.bs
 refine ⟨below_put3 T.below (Nat.le_refl _) _ _ _, by unfold put3; simp only [heap_size_set]; exact T.sz, (heap_put3_far (by omega) _ _ _).trans T.rc, fun _ => rfl, T.d53, ⟨c0, c1, c2, heap_put3 hc, by simp, fun _ => rfl⟩, ?_, fun e => ?_, fun e => ?_⟩
 ·obtain ⟨b0, b1, b2, gc, g3⟩ := T.bt
  exact ⟨b0, b1, b2, (heap_put3_far (by omega) _ _ _).trans gc, g3⟩
 ·exact (T.cy e).step (fun k hk _ => heap_put3_far hk.2.1 _ _ _)
 ·exact (T.cz e).step (fun k hk _ => heap_put3_far hk.2.1 _ _ _)
theorem InPl.store5 {c0 c1 c2 : Value} (T : InPl w0 ok p q V0 V1 l1 true l4 false y (.agg #[c0, c1, c2]) w) : InPl w0 ok p q V0 V1 l1 true l4 true y (.agg #[c0, c1, c2]) (put3 w (w0.heap.size + 1) c0 c1 c2) := by
 obtain ⟨a0, a1, a2, hc, _⟩ := T.bt
 refine ⟨below_put3 T.below (by omega) _ _ _, by unfold put3; simp only [heap_size_set]; exact T.sz, (heap_put3_far (by omega) _ _ _).trans T.rc, T.d41, fun _ => rfl, ?_, ⟨c0, c1, c2, heap_put3 hc, by simp, fun _ => rfl⟩, fun e => ?_, fun e => ?_⟩
 ·obtain ⟨b0, b1, b2, gc, g3⟩ := T.bs
  exact ⟨b0, b1, b2, (heap_put3_far (by omega) _ _ _).trans gc, g3⟩
 ·exact (T.cy e).step (fun k hk _ => heap_put3_far hk.2.2.1 _ _ _)
 ·exact (T.cz e).step (fun k hk _ => heap_put3_far hk.2.2.1 _ _ _)
theorem InPl.done (T : InPl w0 ok p q V0 V1 true true true true y z w) : Below w0.heap.size w0 w ∧ w.heap[w0.heap.size + 2]? = some (.cells #[.bool false, .slice none 0 0, .slice none 0 0] 46 (0, 0)) ∧ w0.heap.size + 3 ≤ w.heap.size ∧ (∃ y, RatCells w w0.heap.size y ∧ IsCan w (fun k => ok k ∧ k ≠ w0.heap.size ∧ k ≠ w0.heap.size + 1 ∧ k ≠ w0.heap.size + 2) y p) ∧ (∃ z, RatCells w (w0.heap.size + 1) z ∧ IsCan w (fun k => ok k ∧ k ≠ w0.heap.size ∧ k ≠ w0.heap.size + 1 ∧ k ≠ w0.heap.size + 2) z q) := by
 obtain ⟨c0, c1, c2, hc, _, h3⟩ := T.bs
 obtain ⟨b0, b1, b2, gc, _, g3⟩ := T.bt
 exact ⟨T.below, T.rc, T.sz, ⟨y, ⟨c0, c1, c2, h3 rfl, hc⟩, T.cy rfl⟩, ⟨z, ⟨b0, b1, b2, g3 rfl, gc⟩, T.cz rfl⟩⟩
theorem InPl.drew (T : InPl w0 ok p q V0 V1 l1 l3 l4 l5 y z w) : InPl w0 ok p q V0 V1 l1 l3 l4 l5 y z w.drew := T.below_ (below_drew1 (Below.refl w.heap.size w))
end
/-
  The contract of Add (the reference of layer 1).
-/
set_option maxRecDepth 100000 in
set_option maxHeartbeats 4000000 in
theorem add_ref (ok : Nat → Prop) (v0 v1 : Value) (p q : Rat) (j k : Nat) (w : World) (hok : ∀ k, w.heap.size ≤ k → ok k) (h0 : IsRaw w ok v0 p j) (h1 : IsRaw w ok v1 q k) (hj : j ≤ 1000000) (hk : k ≤ 1000000) :
  Calls Tryz.prog 51 #[v0, v1] w (RetRat ok (p + q) w) := by
 obtain ⟨n0, A0, m0, c0, A0', m0', c0', e0⟩ := h0.shape
 obtain ⟨n1, A1, m1, c1, A1', m1', c1', e1⟩ := h1.shape
 obtain ⟨V0, hV0⟩ : ∃ V0, V0 = Value.agg #[.bool n0, .slice A0 m0 c0, .slice A0' m0' c0'] := ⟨_, rfl⟩
 obtain ⟨V1, hV1⟩ : ∃ V1, V1 = Value.agg #[.bool n1, .slice A1 m1 c1, .slice A1' m1' c1'] := ⟨_, rfl⟩
 have HV0 := As hV0
 have HV1 := As hV1
 obtain ⟨W3, hW3⟩ : ∃ W3, ((w.alloc (.cells #[.bool n0, .slice A0 m0 c0, .slice A0' m0' c0'] 46)).alloc (.cells #[.bool n1, .slice A1 m1 c1, .slice A1' m1' c1'] 46)).alloc (.cells #[.bool false, .slice none 0 0, .slice none 0 0] 46) = W3 := ⟨_, rfl⟩
 have hsz : W3.heap.size = w.heap.size + 3 := by rw [← hW3]; simp only [size_alloc]
 have hb3 : Below w.heap.size w W3 := by rw [← hW3]; exact below_alloc (below_alloc (below_alloc (Below.refl _ _) _) _) _
 obtain ⟨ok', hok'⟩ : ∃ ok' : Nat → Prop, ok' = fun k => ok k ∧ k ≠ w.heap.size + 2 := ⟨_, rfl⟩
 have HOK' := As hok'
 have HOK := As (show ∀ k, W3.heap.size ≤ k → ok' k from fun k hk => by rw [hok']; exact ⟨hok k (by omega), by omega⟩)
 have HR0 := As (show IsRaw w ok V0 p j by rw [hV0, ← e0]; exact h0)
 have HR1 := As (show IsRaw w ok V1 q k by rw [hV1, ← e1]; exact h1)
 have HX := As (show Boxes W3 w.heap.size (w.heap.size + 1) n0 (.slice A0 m0 c0) (.slice A0' m0' c0') n1 (.slice A1 m1 c1) (.slice A1' m1' c1') from ⟨by omega, by
  rw [← hW3, heap_old _ (by simp only [size_alloc]; omega), heap_old _ (by simp only [size_alloc]; omega), heap_new], by omega, by
  rw [← hW3, heap_old _ (by simp only [size_alloc]; omega)]
  have := heap_new (w.alloc (.cells #[.bool n0, .slice A0 m0 c0, .slice A0' m0' c0'] 46)) (.cells #[.bool n1, .slice A1 m1 c1, .slice A1' m1' c1'] 46)
  rwa [size_alloc] at this⟩)
 have HC := As (show W3.heap[w.heap.size + 2]? = some (.cells #[.bool false, .slice none 0 0, .slice none 0 0] 46 (0, 0)) by
  rw [← hW3]
  have := heap_new ((w.alloc (.cells #[.bool n0, .slice A0 m0 c0, .slice A0' m0' c0'] 46)).alloc (.cells #[.bool n1, .slice A1 m1 c1, .slice A1' m1' c1'] 46)) (.cells #[.bool false, .slice none 0 0, .slice none 0 0] 46)
  rwa [size_alloc, size_alloc] at this)
 have HW3 := As hW3
 have HSZ := As hsz
 have HB3 := As hb3
 have HJK := As (And.intro hj hk)
 have HRS0 := As h0.rs
 have HRS1 := As h1.rs
 have HOKW := As hok
 have HK0 := As (show j ≤ 8000000 by omega)
 have HK1 := As (show k ≤ 8000000 by omega)
 have HST := As (show InPl w ok p q V0 V1 false false false false undef undef W3.drew from InPl.drew ⟨HB3.out, by have := HSZ.out; omega, HC.out, by simp, by simp, ⟨_, _, _, HX.out.2.1, fun _ => hV0, by simp⟩, ⟨_, _, _, HX.out.2.2.2, fun _ => hV1, by simp⟩, by simp, by simp⟩)
 subst e0 e1
 clear hV0 hV1 hW3 hsz hb3 hok' hok h0 h1 hj hk
 go_enter Tryz.func51, Tryz.ntmps51
 go_upto_region 1 with fail
 rw [HW3.out]
 go_cut [2] (fun s2 wx => s2 = ptr w.heap.size ∧ ∃ y z, Aside0 (InPl w ok p q V0 V1 true true true true y z wx))
 case first =>
  refine region_inv (by kernel_rfl) (by kernel_rfl) (fun L a w' => ∃ (y0 y1 y2 y3 : Value), a = { tmps := List.toArray [.agg #[.bool n0, .slice A0 m0 c0, .slice A0' m0' c0'], .agg #[.bool n1, .slice A1 m1 c1, .slice A1' m1' c1'], ptr w.heap.size, ptr (w.heap.size + 1), ptr (w.heap.size + 2), undef, undef, undef, y0, y1, y2, y3, undef, undef, undef, undef, undef, undef, undef, undef, undef, undef, undef, undef, undef, undef, undef, undef, undef, undef, undef, undef, undef, undef, undef, undef, undef, undef, undef, undef, undef, undef, undef, undef, undef, undef, undef, undef, undef, undef, undef, undef, undef, undef, undef, undef, undef], defers := [] } ∧ (L 0 = true → y0 = V0) ∧ (L 2 = true → y2 = V1) ∧ (L 1 = true → L 0 = true) ∧ (L 3 = true → L 2 = true) ∧ InPl w ok p q V0 V1 (L 1) (L 3) (L 4) (L 5) y1 y3 w') ?_ ?_ ?_
  ·exact ⟨undef, undef, undef, undef, rfl, by simp, by simp, by simp, by simp, HST.out⟩
  ·intro L a w' i hi hI h0 hdep
   obtain ⟨y0, y1, y2, y3, rfl, e0, e2, d10, d32, T⟩ := hI
   have hi' : i < 6 := hi
   have hcase : i = 0 ∨ i = 1 ∨ i = 2 ∨ i = 3 ∨ i = 4 ∨ i = 5 := by omega
   have HT := As T
   have D10 := As d10
   have D32 := As d32
   clear T hi d10 d32
   rcases hcase with rfl | rfl | rfl | rfl | rfl | rfl
   ·have f1 : L 1 = false := by cases h : L 1 with | false => rfl | true => have := D10.out h; rw [h0] at this; cases this
    have f4 : L 4 = false := by cases h : L 4 with | false => rfl | true => have := HT.out.d41 h; rw [f1] at this; cases this
    obtain ⟨x0, x1, x2, hc, hV, _⟩ := HT.out.bs
    have hVV := hV f4
    have kk := cells3 hc
    refine op_on rfl ?_
    refine value_ (w1 := w') (v := V0) (by rfl) rfl ?_ ?_
    ·rw [hVV]
     go_simp
    ·exact ⟨V0, y1, y2, y3, rfl, fun _ => rfl, e2, fun h => rfl, D32.out, HT.out⟩
   ·have d0 : L 0 = true := hdep _ rfl { on := 0, ground := .data } (by simp) rfl
    have hy0 := e0 d0
    subst hy0
    rw [h0] at HT
    refine op_on rfl ?_
    refine goes_ Tryz.func50 (by kernel_rfl) rfl #[y0] (by rfl) rfl rfl (by simp only [List.map_toArray, List.map_cons, List.map_nil]; rfl) ?_
    refine (canonical_ref _ _ p _ _ (HT.out.fresh HOKW.out) (HT.out.arg HR0.out) HK0.out).mono ?_
    rintro e w1 ⟨v, rfl, hv, hb⟩
    exact ⟨v, rfl, y0, v, y2, y3, rfl, e0, e2, fun _ => d0, D32.out, HT.out.call1 hb hv⟩
   ·have f3 : L 3 = false := by cases h : L 3 with | false => rfl | true => have := D32.out h; rw [h0] at this; cases this
    have f5 : L 5 = false := by cases h : L 5 with | false => rfl | true => have := HT.out.d53 h; rw [f3] at this; cases this
    obtain ⟨x0, x1, x2, hc, hV, _⟩ := HT.out.bt
    have hVV := hV f5
    have kk := cells3 hc
    refine op_on rfl ?_
    refine value_ (w1 := w') (v := V1) (by rfl) rfl ?_ ?_
    ·rw [hVV]
     go_simp
    ·exact ⟨y0, y1, V1, y3, rfl, e0, fun _ => rfl, D10.out, fun h => rfl, HT.out⟩
   ·have d0 : L 2 = true := hdep _ rfl { on := 2, ground := .data } (by simp) rfl
    have hy2 := e2 d0
    subst hy2
    rw [h0] at HT
    refine op_on rfl ?_
    refine goes_ Tryz.func50 (by kernel_rfl) rfl #[y2] (by rfl) rfl rfl (by simp only [List.map_toArray, List.map_cons, List.map_nil]; rfl) ?_
    refine (canonical_ref _ _ q _ _ (HT.out.fresh HOKW.out) (HT.out.arg HR1.out) HK1.out).mono ?_
    rintro e w1 ⟨v, rfl, hv, hb⟩
    exact ⟨v, rfl, y0, y1, y2, v, rfl, e0, e2, D10.out, fun _ => d0, HT.out.call3 hb hv⟩
   ·have d1 : L 1 = true := hdep _ rfl { on := 1, ground := .data } (by simp) rfl
    rw [h0, d1] at HT
    obtain ⟨A_, n_, c_, A2_, n2_, c2_, hsh⟩ := (HT.out.cy rfl).shape
    subst hsh
    obtain ⟨x0, x1, x2, hc, _⟩ := HT.out.bs
    have kk := cells3 hc
    have HT2 := As (show InPl w ok p q V0 V1 (L 1) (L 3) true (L 5) _ y3 _ by rw [d1]; exact HT.out.store4)
    refine op_on rfl ?_
    refine skip_ (w1 := put3 w' w.heap.size (.bool (decide (p.num < 0))) (.slice A_ n_ c_) (.slice A2_ n2_ c2_)) (by rfl) rfl ?_ ?_
    rotate_left
    ·exact ⟨y0, _, y2, y3, rfl, e0, e2, D10.out, D32.out, HT2.out⟩
    ·go_simp
     rfl
   ·have d1 : L 3 = true := hdep _ rfl { on := 3, ground := .data } (by simp) rfl
    rw [h0, d1] at HT
    obtain ⟨A_, n_, c_, A2_, n2_, c2_, hsh⟩ := (HT.out.cz rfl).shape
    subst hsh
    obtain ⟨x0, x1, x2, hc, _⟩ := HT.out.bt
    have kk := cells3 hc
    have HT2 := As (show InPl w ok p q V0 V1 (L 1) (L 3) (L 4) true y1 _ _ by rw [d1]; exact HT.out.store5)
    refine op_on rfl ?_
    refine skip_ (w1 := put3 w' (w.heap.size + 1) (.bool (decide (q.num < 0))) (.slice A_ n_ c_) (.slice A2_ n2_ c2_)) (by rfl) rfl ?_ ?_
    rotate_left
    ·exact ⟨y0, y1, y2, _, rfl, e0, e2, D10.out, D32.out, HT2.out⟩
    ·go_simp
     rfl
  ·intro L a w' hI hall
   obtain ⟨y0, y1, y2, y3, rfl, e0, e2, _, _, T⟩ := hI
   rw [hall 1 (by decide), hall 3 (by decide), hall 4 (by decide), hall 5 (by decide)] at T
   go_wp2_with fail
   go_meet
   case rel => exact ⟨rfl, y1, y3, ⟨T⟩⟩
 case rest =>
  obtain ⟨rfl, y, z, HE⟩ := hcut
  obtain ⟨hbel, hrc, hszc, ⟨y, ⟨a0, a1, a2, rfl, hgc⟩, ⟨x1, x2, ey, hy1, hy2⟩⟩, ⟨z, ⟨b0, b1, b2, rfl, hhc⟩, ⟨z1, z2, ez, hz1, hz2⟩⟩⟩ := HE.out.done
  obtain ⟨rfl, rfl, rfl⟩ : a0 = .bool (decide (p.num < 0)) ∧ a1 = x1 ∧ a2 = x2 := by simpa using ey
  obtain ⟨rfl, rfl, rfl⟩ : b0 = .bool (decide (q.num < 0)) ∧ b1 = z1 ∧ b2 = z2 := by simpa using ez
  obtain ⟨bp, hbp⟩ : ∃ b, decide (p.num < 0) = b := ⟨_, rfl⟩
  obtain ⟨bq, hbq⟩ : ∃ b, decide (q.num < 0) = b := ⟨_, rfl⟩
  obtain ⟨sg, hsg⟩ : ∃ b, (bp != bq) = b := ⟨_, rfl⟩
  have hsg2 : (!bp == bq) = sg := by rw [← hsg]; cases bp <;> cases bq <;> rfl
  rw [hbp] at hgc
  rw [hbq] at hhc
  have HSG := As (show rq sg (p.num.natAbs * q.num.natAbs) (p.den * q.den) = p * q by rw [← hsg, ← hbp, ← hbq, ← rq_mul, rq_self, rq_self])
  have HBP := As hbp
  have HBQ := As hbq
  have HSGE := As hsg
  clear hbp hbq
  obtain ⟨okk, hokk⟩ : ∃ okk : Nat → Prop, okk = fun k => ok k ∧ k ≠ w.heap.size ∧ k ≠ w.heap.size + 1 ∧ k ≠ w.heap.size + 2 := ⟨_, rfl⟩
  rw [← hokk] at hy1 hy2 hz1 hz2
  have HOKK := As hokk
  have HBX := As hbel
  have HRC := As hrc
  have hgs := heap_lt_ hgc
  have hhs := heap_lt_ hhc
  have HOK2 := As (show ∀ k, wc.drew.heap.size ≤ k → okk k from fun k hk => by
   have h2 : wc.drew.heap.size = wc.heap.size := rfl
   rw [hokk]
   exact ⟨HOKW.out k (by omega), by omega, by omega, by omega⟩)
  obtain ⟨s0, s1, s2, _, _, _⟩ := cells3 hgc
  obtain ⟨t0, t1, t2, _, _, _⟩ := cells3 hhc
  have HCELLS := As (And.intro s0 (And.intro s1 (And.intro s2 (And.intro t0 (And.intro t1 t2)))))
  have HX1 := As (hy1.below (below_drew1 (Below.refl wc.heap.size wc)))
  have HX2 := As (hy2.below (below_drew1 (Below.refl wc.heap.size wc)))
  have HZ1 := As (hz1.below (below_drew1 (Below.refl wc.heap.size wc)))
  have HZ2 := As (hz2.below (below_drew1 (Below.refl wc.heap.size wc)))
  have HBXd := As (below_drew1 HBX.out)
  have hj1 := pw_le (show j + 1 ≤ 9000000 by have := HJK.out; omega)
  have hk1 := pw_le (show k + 1 ≤ 9000000 by have := HJK.out; omega)
  have hn1 := As (show (p.num.natAbs : Int) < pw 9000000 by have := HRS0.out.1; omega)
  have hd1 := As (show (p.den : Int) < pw 9000000 by have := HRS0.out.2; omega)
  have hn2 := As (show (q.num.natAbs : Int) < pw 9000000 by have := HRS1.out.1; omega)
  have hd2 := As (show (q.den : Int) < pw 9000000 by have := HRS1.out.2; omega)
  have hjk := pw_le (show j + 1 + (k + 1) ≤ 9000000 by have := HJK.out; omega)
  have hnn := As (show ((p.num.natAbs * q.num.natAbs : Nat) : Int) < pw 9000000 by have := mul_lt_pw HRS0.out.1 HRS1.out.1; omega)
  have hdd := As (show ((p.den * q.den : Nat) : Int) < pw 9000000 by have := mul_lt_pw HRS0.out.2 HRS1.out.2; omega)
  have hdz := As (Nat.mul_ne_zero p.den_nz q.den_nz)
  have HGB := As (show w.heap.size ≠ w.heap.size + 1 + 1 by omega)
  have HHB := As (show w.heap.size + 1 ≠ w.heap.size + 1 + 1 by omega)
  have hp1 := As (show ((p.num.natAbs * q.den : Nat) : Int) < pw 9000000 by have := mul_lt_pw HRS0.out.1 HRS1.out.2; omega)
  have hp2 := As (show ((q.num.natAbs * p.den : Nat) : Int) < pw 9000000 by have := mul_lt_pw HRS1.out.1 HRS0.out.2; rw [Nat.add_comm] at this; omega)
  have hsum := As (show ((p.num.natAbs * q.den + q.num.natAbs * p.den : Nat) : Int) < pw 9000000 by
   have h1 := mul_lt_pw HRS0.out.1 HRS1.out.2
   have h2 := mul_lt_pw HRS1.out.1 HRS0.out.2
   rw [Nat.add_comm] at h2
   have h3 := add_lt_pw h1 h2
   have h4 := pw_le (show j + 1 + (k + 1) + 1 ≤ 9000000 by have := HJK.out; omega)
   omega)
  have hp1x := As (show ((p.num.natAbs * q.den : Nat) : Int) < pw 10000000 by have := hp1.out; have := pw_le (show 9000000 ≤ 10000000 by decide); omega)
  have hp2x := As (show ((q.num.natAbs * p.den : Nat) : Int) < pw 10000000 by have := hp2.out; have := pw_le (show 9000000 ≤ 10000000 by decide); omega)
  clear hy1 hy2 hz1 hz2 hbel hrc hszc hgc hhc ey ez hj1 hk1 hjk hokk
  go_wp2_with fail
  go_region_held3 (fun W' => W'.cell? ⟨w.heap.size, 0, none⟩ = some (.bool bp) ∧ W'.cell? ⟨w.heap.size, 1, none⟩ = some a1 ∧ W'.cell? ⟨w.heap.size, 2, none⟩ = some a2 ∧ W'.cell? ⟨w.heap.size + 1, 0, none⟩ = some (.bool bq) ∧ W'.cell? ⟨w.heap.size + 1, 1, none⟩ = some b1 ∧ W'.cell? ⟨w.heap.size + 1, 2, none⟩ = some b2) (first | exact kc4.out | exact kc5.out | go_keep)
   (first
    | (go_at_call_of 83 (a1); (with_reducible refine (natMul_nat okk _ _ _ _ _ HOK2.out HX1.out HZ2.out hn1.out hd2.out).mono ?_); rintro e w4 ⟨vm, rfl, hm, hb⟩; have HM1 := As hm; have HB4 := As (below_step HBXd.out hb); have HX24 := As (HX2.out.below hb); have HZ14 := As (HZ1.out.below hb); have HZ24 := As (HZ2.out.below hb); have kc4 := As (six_below hb HCELLS.out); have HRC4 := As ((hb.block _ (heap_lt_ HRC.out)).trans HRC.out); have HOK4 := As (show ∀ k, w4.heap.size ≤ k → okk k from fun k hk => HOK2.out k (Nat.le_trans hb.size hk)); clear hm hb)
    | (go_at_call_of 83 (b1); (with_reducible refine (natMul_nat okk _ _ _ _ _ HOK4.out HZ14.out HX24.out hn2.out hd1.out).mono ?_); rintro e w5 ⟨vn, rfl, hm, hb⟩; have HM2 := As hm; have HB5 := As (below_step HB4.out hb); have HM15 := As (HM1.out.below hb); have HX25 := As (HX24.out.below hb); have HZ25 := As (HZ24.out.below hb); have kc5 := As (six_below hb kc4.out); have HRC5 := As ((hb.block _ (heap_lt_ HRC4.out)).trans HRC4.out); have HOK5 := As (show ∀ k, w5.heap.size ≤ k → okk k from fun k hk => HOK4.out k (Nat.le_trans hb.size hk)); clear hm hb))
  have k52 := kc5.out.2.2.1
  have k55 := kc5.out.2.2.2.2.2
  go_wp2_with fail
  with_reducible refine (natMul_nat okk _ _ _ _ _ HOK5.out HX25.out HZ25.out hd1.out hd2.out).mono ?_
  rintro e w6 ⟨vd, rfl, hm, hb⟩
  have HM3 := As hm
  have HB6 := As (below_step HB5.out hb)
  have HM16 := As (HM15.out.below hb)
  have HM26 := As (HM2.out.below hb)
  have kc6 := As (six_below hb kc5.out)
  have HRC6 := As ((hb.block _ (heap_lt_ HRC5.out)).trans HRC5.out)
  have HOK6 := As (show ∀ k, w6.heap.size ≤ k → okk k from fun k hk => HOK5.out k (Nat.le_trans hb.size hk))
  clear hm hb k52 k55
  have k60 := kc6.out.1
  have k63 := kc6.out.2.2.2.1
  by_cases hbb : bp = bq
  ·have hbe : (bp == bq) = true := by simpa using hbb
   have HEQ := As (show rq bp (p.num.natAbs * q.den + q.num.natAbs * p.den) (p.den * q.den) = p + q by
    have h1 := rq_self p
    have h2 := rq_self q
    rw [HBP.out] at h1
    rw [HBQ.out, ← hbb] at h2
    rw [← rq_add_same bp _ _ p.den_nz q.den_nz, h1, h2])
   have HM1dd := As (HM16.out.below (below_drew1 (Below.refl w6.heap.size w6)))
   have HM2dd := As (HM26.out.below (below_drew1 (Below.refl w6.heap.size w6)))
   have HDdd := As (HM3.out.below (below_drew1 (Below.refl w6.heap.size w6)))
   have HBdd := As (below_drew1 HB6.out)
   have kcdd := As (six_below (below_drew1 (Below.refl w6.heap.size w6)) kc6.out)
   have HRCdd := As (show w6.drew.heap[w.heap.size + 2]? = _ from HRC6.out)
   have HOKdd := As (show ∀ k, w6.drew.heap.size ≤ k → okk k from HOK6.out)
   have hnsm := hsum
   clear hbb
   go_wp2_with fail
   go_region_held3 (fun W' => W'.cell? ⟨w.heap.size, 0, none⟩ = some (.bool bp) ∧ W'.cell? ⟨w.heap.size, 1, none⟩ = some a1 ∧ W'.cell? ⟨w.heap.size, 2, none⟩ = some a2 ∧ W'.cell? ⟨w.heap.size + 1, 0, none⟩ = some (.bool bq) ∧ W'.cell? ⟨w.heap.size + 1, 1, none⟩ = some b1 ∧ W'.cell? ⟨w.heap.size + 1, 2, none⟩ = some b2) (first | exact kcdd.out | exact kc8.out | exact kc9.out | exact six_far HGB.out HHB.out kc9.out | go_keep)
    (first
     | (go_at_call 84; (with_reducible refine (natAdd_nat okk _ _ _ _ _ HOKdd.out HM1dd.out HM2dd.out hp1.out hp2.out).mono ?_); rintro e w8 ⟨vs, ls, rfl, hm, hl8, hv8, hn8, hb⟩; have HS8 := As hm; have HL8 := As hl8; have HV8 := As (show val ls = ((p.num.natAbs * q.den + q.num.natAbs * p.den : Nat) : Int) from by { rw [hv8, Int.natCast_add] }); have HN8 := As hn8; have HB8 := As (below_step HBdd.out hb); have HD8 := As (HDdd.out.below hb); have hs8 := hb.size; have kc8 := As (six_below hb kcdd.out); have HRC8 := As ((hb.block _ (heap_lt_ HRCdd.out)).trans HRCdd.out); have HOK8 := As (show ∀ k, w8.heap.size ≤ k → okk k from fun k hk => HOKdd.out k (by omega)); clear hm hb hs8 hl8 hv8 hn8)
     | (go_at_call 28; (with_reducible refine (build_lim okk _ _ _ ls _ _ _ HOK8.out HS8.out HL8.out HV8.out HN8.out HD8.out hdz.out hnsm.out hdd.out).mono ?_); rintro e w9 ⟨vr, rfl, hr, hb⟩; have HR := As hr; have HB9 := As (below_step HB8.out hb); have kc9 := As (six_below hb kc8.out); have HRC9 := As ((hb.block _ (heap_lt_ HRC8.out)).trans HRC8.out); (obtain ⟨Ar, nr, cr, Ar', nr', cr', rfl⟩ := hr.shape); (obtain ⟨u0, u1, u2, u3, u4, u5⟩ := cells3 HRC9.out); clear hr hb))
   go_wp2
   refine bodyPost_ret (v := .agg #[.bool (decide ((rq bp (p.num.natAbs * q.den + q.num.natAbs * p.den) (p.den * q.den)).num < 0)), .slice Ar nr cr, .slice Ar' nr' cr']) (by simp [results, Tryz.results51, go_sem, u0, u1, u2]) rfl ⟨_, rfl, ?_, ?_⟩
   ·have hne : ∀ k, okk k → k ≠ w.heap.size + 2 := fun k hk => by rw [HOKK.out] at hk; exact hk.2.2.2
    have hmo : ∀ k, okk k → ok k := fun k hk => by rw [HOKK.out] at hk; exact hk.1
    rw [← HEQ.out]
    exact (((HR.out.set hne 0 _).set hne 1 _).set hne 2 _).mono hmo
   ·exact below_set (below_set (below_set HB9.out (by omega)) (by omega)) (by omega)
  ·have hbe : (bp == bq) = false := by simpa using hbb
   have HBB := As hbb
   clear hbb
   by_cases hcm : q.num.natAbs * p.den ≤ p.num.natAbs * q.den
   ·have hcc : decide (0 ≤ cmpI (p.num.natAbs * q.den) (q.num.natAbs * p.den)) = true := by
     rcases Nat.lt_or_ge (q.num.natAbs * p.den) (p.num.natAbs * q.den) with h | h
     ·rw [cmpI_gt h]; rfl
     ·rw [cmpI_eq (by omega)]; rfl
    have HEQ := As (show rq bp (p.num.natAbs * q.den - q.num.natAbs * p.den) (p.den * q.den) = p + q by
     have h1 := rq_self p
     have h2 := rq_self q
     rw [HBP.out] at h1
     rw [HBQ.out] at h2
     rw [← rq_add_ge bp bq _ _ p.den_nz q.den_nz HBB.out hcm, h1, h2])
    have hnsm := As (show ((p.num.natAbs * q.den - q.num.natAbs * p.den : Nat) : Int) < pw 9000000 by have := hp1.out; omega)
    have HCM := As hcm
    clear hcm
    go_wp2_with fail
    with_reducible refine (natCmp_nat okk _ _ _ _ _ HM16.out HM26.out).mono ?_
    rintro e w7 ⟨rfl, hb⟩
    have hk60 := pw_cell_below hb k60
    have hk63 := pw_cell_below hb k63
    have HM1dd := As ((HM16.out.below hb).below (below_drew1 (Below.refl w7.heap.size w7)))
    have HM2dd := As ((HM26.out.below hb).below (below_drew1 (Below.refl w7.heap.size w7)))
    have HDdd := As ((HM3.out.below hb).below (below_drew1 (Below.refl w7.heap.size w7)))
    have HBdd := As (below_drew1 (below_step HB6.out hb))
    have kcdd := As (six_below (below_drew1 (Below.refl w7.heap.size w7)) (six_below hb kc6.out))
    have HRCdd := As (show w7.drew.heap[w.heap.size + 2]? = _ from (hb.block _ (heap_lt_ HRC6.out)).trans HRC6.out)
    have HOKdd := As (show ∀ k, w7.drew.heap.size ≤ k → okk k from fun k hk => HOK6.out k (Nat.le_trans hb.size hk))
    clear hb
    go_wp2_with fail
    go_region_held3 (fun W' => W'.cell? ⟨w.heap.size, 0, none⟩ = some (.bool bp) ∧ W'.cell? ⟨w.heap.size, 1, none⟩ = some a1 ∧ W'.cell? ⟨w.heap.size, 2, none⟩ = some a2 ∧ W'.cell? ⟨w.heap.size + 1, 0, none⟩ = some (.bool bq) ∧ W'.cell? ⟨w.heap.size + 1, 1, none⟩ = some b1 ∧ W'.cell? ⟨w.heap.size + 1, 2, none⟩ = some b2) (first | exact kcdd.out | exact kc8.out | exact kc9.out | exact six_far HGB.out HHB.out kc9.out | go_keep)
     (first
      | (go_at_call 86; (with_reducible refine (natSub_nat okk _ _ _ _ _ HOKdd.out HM1dd.out HM2dd.out HCM.out hp1x.out).mono ?_); rintro e w8 ⟨vs, rfl, hm, hb⟩; have HS8 := As hm; have HB8 := As (below_step HBdd.out hb); have HD8 := As (HDdd.out.below hb); have hs8 := hb.size; have kc8 := As (six_below hb kcdd.out); have HRC8 := As ((hb.block _ (heap_lt_ HRCdd.out)).trans HRCdd.out); have HOK8 := As (show ∀ k, w8.heap.size ≤ k → okk k from fun k hk => HOKdd.out k (by omega)); clear hm hb hs8)
      | (go_at_call 28; (with_reducible refine (build_nat okk _ _ _ _ _ _ HOK8.out HS8.out HD8.out hdz.out hnsm.out hdd.out).mono ?_); rintro e w9 ⟨vr, rfl, hr, hb⟩; have HR := As hr; have HB9 := As (below_step HB8.out hb); have kc9 := As (six_below hb kc8.out); have HRC9 := As ((hb.block _ (heap_lt_ HRC8.out)).trans HRC8.out); (obtain ⟨Ar, nr, cr, Ar', nr', cr', rfl⟩ := hr.shape); (obtain ⟨u0, u1, u2, u3, u4, u5⟩ := cells3 HRC9.out); clear hr hb))
    go_wp2
    refine bodyPost_ret (v := .agg #[.bool (decide ((rq bp (p.num.natAbs * q.den - q.num.natAbs * p.den) (p.den * q.den)).num < 0)), .slice Ar nr cr, .slice Ar' nr' cr']) (by simp [results, Tryz.results51, go_sem, u0, u1, u2]) rfl ⟨_, rfl, ?_, ?_⟩
    ·have hne : ∀ k, okk k → k ≠ w.heap.size + 2 := fun k hk => by rw [HOKK.out] at hk; exact hk.2.2.2
     have hmo : ∀ k, okk k → ok k := fun k hk => by rw [HOKK.out] at hk; exact hk.1
     rw [← HEQ.out]
     exact (((HR.out.set hne 0 _).set hne 1 _).set hne 2 _).mono hmo
    ·exact below_set (below_set (below_set HB9.out (by omega)) (by omega)) (by omega)
   ·have hcc : decide (0 ≤ cmpI (p.num.natAbs * q.den) (q.num.natAbs * p.den)) = false := by
     rw [cmpI_lt (by omega)]; rfl
    have HEQ := As (show rq bq (q.num.natAbs * p.den - p.num.natAbs * q.den) (p.den * q.den) = p + q by
     have h1 := rq_self p
     have h2 := rq_self q
     rw [HBP.out] at h1
     rw [HBQ.out] at h2
     rw [← rq_add_lt bp bq _ _ p.den_nz q.den_nz HBB.out (by omega), h1, h2])
    have hnsm := As (show ((q.num.natAbs * p.den - p.num.natAbs * q.den : Nat) : Int) < pw 9000000 by have := hp2.out; omega)
    have HCM := As (show p.num.natAbs * q.den ≤ q.num.natAbs * p.den by omega)
    clear hcm
    go_wp2_with fail
    with_reducible refine (natCmp_nat okk _ _ _ _ _ HM16.out HM26.out).mono ?_
    rintro e w7 ⟨rfl, hb⟩
    have hk60 := pw_cell_below hb k60
    have hk63 := pw_cell_below hb k63
    have HM1dd := As ((HM16.out.below hb).below (below_drew1 (Below.refl w7.heap.size w7)))
    have HM2dd := As ((HM26.out.below hb).below (below_drew1 (Below.refl w7.heap.size w7)))
    have HDdd := As ((HM3.out.below hb).below (below_drew1 (Below.refl w7.heap.size w7)))
    have HBdd := As (below_drew1 (below_step HB6.out hb))
    have kcdd := As (six_below (below_drew1 (Below.refl w7.heap.size w7)) (six_below hb kc6.out))
    have HRCdd := As (show w7.drew.heap[w.heap.size + 2]? = _ from (hb.block _ (heap_lt_ HRC6.out)).trans HRC6.out)
    have HOKdd := As (show ∀ k, w7.drew.heap.size ≤ k → okk k from fun k hk => HOK6.out k (Nat.le_trans hb.size hk))
    clear hb
    go_wp2_with fail
    go_region_held3 (fun W' => W'.cell? ⟨w.heap.size, 0, none⟩ = some (.bool bp) ∧ W'.cell? ⟨w.heap.size, 1, none⟩ = some a1 ∧ W'.cell? ⟨w.heap.size, 2, none⟩ = some a2 ∧ W'.cell? ⟨w.heap.size + 1, 0, none⟩ = some (.bool bq) ∧ W'.cell? ⟨w.heap.size + 1, 1, none⟩ = some b1 ∧ W'.cell? ⟨w.heap.size + 1, 2, none⟩ = some b2) (first | exact kcdd.out | exact kc8.out | exact kc9.out | exact six_far HGB.out HHB.out kc9.out | go_keep)
     (first
      | (go_at_call 86; (with_reducible refine (natSub_nat okk _ _ _ _ _ HOKdd.out HM2dd.out HM1dd.out HCM.out hp2x.out).mono ?_); rintro e w8 ⟨vs, rfl, hm, hb⟩; have HS8 := As hm; have HB8 := As (below_step HBdd.out hb); have HD8 := As (HDdd.out.below hb); have hs8 := hb.size; have kc8 := As (six_below hb kcdd.out); have HRC8 := As ((hb.block _ (heap_lt_ HRCdd.out)).trans HRCdd.out); have HOK8 := As (show ∀ k, w8.heap.size ≤ k → okk k from fun k hk => HOKdd.out k (by omega)); clear hm hb hs8)
      | (go_at_call 28; (with_reducible refine (build_nat okk _ _ _ _ _ _ HOK8.out HS8.out HD8.out hdz.out hnsm.out hdd.out).mono ?_); rintro e w9 ⟨vr, rfl, hr, hb⟩; have HR := As hr; have HB9 := As (below_step HB8.out hb); have kc9 := As (six_below hb kc8.out); have HRC9 := As ((hb.block _ (heap_lt_ HRC8.out)).trans HRC8.out); (obtain ⟨Ar, nr, cr, Ar', nr', cr', rfl⟩ := hr.shape); (obtain ⟨u0, u1, u2, u3, u4, u5⟩ := cells3 HRC9.out); clear hr hb))
    go_wp2
    refine bodyPost_ret (v := .agg #[.bool (decide ((rq bq (q.num.natAbs * p.den - p.num.natAbs * q.den) (p.den * q.den)).num < 0)), .slice Ar nr cr, .slice Ar' nr' cr']) (by simp [results, Tryz.results51, go_sem, u0, u1, u2]) rfl ⟨_, rfl, ?_, ?_⟩
    ·have hne : ∀ k, okk k → k ≠ w.heap.size + 2 := fun k hk => by rw [HOKK.out] at hk; exact hk.2.2.2
     have hmo : ∀ k, okk k → ok k := fun k hk => by rw [HOKK.out] at hk; exact hk.1
     rw [← HEQ.out]
     exact (((HR.out.set hne 0 _).set hne 1 _).set hne 2 _).mono hmo
    ·exact below_set (below_set (below_set HB9.out (by omega)) (by omega)) (by omega)
/-
  The contracts of Sub and Cmp (the reference of layer 1).
-/
set_option maxHeartbeats 4000000 in
theorem sub_ref (ok : Nat → Prop) (v0 v1 : Value) (p q : Rat) (j k : Nat) (w : World) (hok : ∀ k, w.heap.size ≤ k → ok k) (h0 : IsRaw w ok v0 p j) (h1 : IsRaw w ok v1 q k) (hj : j ≤ 900000) (hk : k ≤ 900000) :
  Calls Tryz.prog 27 #[v0, v1] w (RetRat ok (p - q) w) := by
 obtain ⟨n0, A0, m0, c0, A0', m0', c0', e0⟩ := h0.shape
 obtain ⟨n1, A1, m1, c1, A1', m1', c1', e1⟩ := h1.shape
 obtain ⟨W3, hW3⟩ : ∃ W3, ((w.alloc (.cells #[.bool n0, .slice A0 m0 c0, .slice A0' m0' c0'] 46)).alloc (.cells #[.bool n1, .slice A1 m1 c1, .slice A1' m1' c1'] 46)).alloc (.cells #[.bool false, .slice none 0 0, .slice none 0 0] 46) = W3 := ⟨_, rfl⟩
 have hsz : W3.heap.size = w.heap.size + 3 := by rw [← hW3]; simp only [size_alloc]
 have hb3 : Below w.heap.size w W3 := by rw [← hW3]; exact below_alloc (below_alloc (below_alloc (Below.refl _ _) _) _) _
 obtain ⟨ok', hok'⟩ : ∃ ok' : Nat → Prop, ok' = fun k => ok k ∧ k ≠ w.heap.size + 2 := ⟨_, rfl⟩
 have HOK' := As hok'
 have HOK := As (show ∀ k, W3.drew.heap.size ≤ k → ok' k from fun k hk => by
  have h2 : W3.drew.heap.size = W3.heap.size := rfl
  rw [hok']; exact ⟨hok k (by omega), by omega⟩)
 have HR0 := As (((h0.old hb3).mono (ok' := ok') (fun k hk => by rw [hok']; exact ⟨hk.1, by have := hk.2; omega⟩)).below (below_drew1 (Below.refl W3.heap.size W3)))
 have HR1 := As (((h1.old hb3).mono (ok' := ok') (fun k hk => by rw [hok']; exact ⟨hk.1, by have := hk.2; omega⟩)).below (below_drew1 (Below.refl W3.heap.size W3)))
 have hx : W3.heap[w.heap.size]? = some (.cells #[.bool n0, .slice A0 m0 c0, .slice A0' m0' c0'] 46 (0, 0)) := by
  rw [← hW3, heap_old _ (by simp only [size_alloc]; omega), heap_old _ (by simp only [size_alloc]; omega), heap_new]
 have hy : W3.heap[w.heap.size + 1]? = some (.cells #[.bool n1, .slice A1 m1 c1, .slice A1' m1' c1'] 46 (0, 0)) := by
  rw [← hW3, heap_old _ (by simp only [size_alloc]; omega)]
  have := heap_new (w.alloc (.cells #[.bool n0, .slice A0 m0 c0, .slice A0' m0' c0'] 46)) (.cells #[.bool n1, .slice A1 m1 c1, .slice A1' m1' c1'] 46)
  rwa [size_alloc] at this
 have HC := As (show W3.heap[w.heap.size + 2]? = some (.cells #[.bool false, .slice none 0 0, .slice none 0 0] 46 (0, 0)) by
  rw [← hW3]
  have := heap_new ((w.alloc (.cells #[.bool n0, .slice A0 m0 c0, .slice A0' m0' c0'] 46)).alloc (.cells #[.bool n1, .slice A1 m1 c1, .slice A1' m1' c1'] 46)) (.cells #[.bool false, .slice none 0 0, .slice none 0 0] 46)
  rwa [size_alloc, size_alloc] at this)
 obtain ⟨x0, x1, x2, _, _, _⟩ := cells3 hx
 obtain ⟨y0, y1, y2, _, _, _⟩ := cells3 hy
 have HSIX := As (And.intro x0 (And.intro x1 (And.intro x2 (And.intro y0 (And.intro y1 y2)))))
 have HW3 := As hW3
 have HB3d := As (below_drew1 hb3)
 have HK0 := As (show k ≤ 8000000 by omega)
 have HK1 := As (show k + 1 ≤ 1000000 by omega)
 have HJ1 := As (show j ≤ 1000000 by omega)
 have HRS := As h1.rs.neg
 subst e0 e1
 clear hW3 hb3 hok' hok h0 h1 hj hk hx hy x0 x1 x2 y0 y1 y2 hsz
 go_enter Tryz.func27, Tryz.ntmps27
 go_upto_region 1 with fail
 rw [HW3.out]
 go_region_held3 (fun W' => W'.cell? ⟨w.heap.size, 0, none⟩ = some (.bool n0) ∧ W'.cell? ⟨w.heap.size, 1, none⟩ = some (.slice A0 m0 c0) ∧ W'.cell? ⟨w.heap.size, 2, none⟩ = some (.slice A0' m0' c0') ∧ W'.cell? ⟨w.heap.size + 1, 0, none⟩ = some (.bool n1) ∧ W'.cell? ⟨w.heap.size + 1, 1, none⟩ = some (.slice A1 m1 c1) ∧ W'.cell? ⟨w.heap.size + 1, 2, none⟩ = some (.slice A1' m1' c1')) (first | exact HSIX.out | exact kc4.out | exact kc5.out | exact six_far (by omega) (by omega) kc5.out | go_keep)
  (first
   | (go_at_call 52; (with_reducible refine (neg_ref ok' _ _ _ _ HOK.out HR1.out HK0.out).mono ?_); rintro e w4 ⟨vn, rfl, hn, hb⟩; have HN := As (hn.raw HRS.out); have HB4 := As (below_step HB3d.out hb); have HR04 := As (HR0.out.below hb); have kc4 := As (six_below hb HSIX.out); have HC4 := As ((hb.block _ (heap_lt_ HC.out)).trans HC.out); have HOK4 := As (show ∀ k, w4.heap.size ≤ k → ok' k from fun k hk => HOK.out k (Nat.le_trans hb.size hk)); clear hn hb)
   | (go_at_call 51; (with_reducible refine (add_ref ok' _ _ _ _ _ _ _ HOK4.out HR04.out HN.out HJ1.out HK1.out).mono ?_); rintro e w5 ⟨vr, rfl, hr, hb⟩; have HR := As hr; have HB5 := As (below_step HB4.out hb); have kc5 := As (six_below hb kc4.out); have HC5 := As ((hb.block _ (heap_lt_ HC4.out)).trans HC4.out); (obtain ⟨Ar, nr, cr, Ar', nr', cr', rfl⟩ := hr.shape); (obtain ⟨u0, u1, u2, u3, u4, u5⟩ := cells3 HC5.out); clear hr hb))
 go_wp2
 refine bodyPost_ret (v := .agg #[.bool (decide ((p + -q).num < 0)), .slice Ar nr cr, .slice Ar' nr' cr']) (by simp [results, Tryz.results27, go_sem, u0, u1, u2]) rfl ⟨_, rfl, ?_, ?_⟩
 ·have hne : ∀ k, ok' k → k ≠ w.heap.size + 2 := fun k hk => by rw [HOK'.out] at hk; exact hk.2
  have hmo : ∀ k, ok' k → ok k := fun k hk => by rw [HOK'.out] at hk; exact hk.1
  rw [Rat.sub_eq_add_neg]
  exact (((HR.out.set hne 0 _).set hne 1 _).set hne 2 _).mono hmo
 ·exact below_set (below_set (below_set HB5.out (by omega)) (by omega)) (by omega)
set_option maxHeartbeats 4000000 in
theorem cmp_ref (ok : Nat → Prop) (v0 v1 : Value) (p q : Rat) (j k : Nat) (w : World) (hok : ∀ k, w.heap.size ≤ k → ok k) (h0 : IsRaw w ok v0 p j) (h1 : IsRaw w ok v1 q k) (hj : j ≤ 900000) (hk : k ≤ 900000) :
  Calls Tryz.prog 12 #[v0, v1] w (RetInt (sgnR (p - q)) w) := by
 have HOK := As hok
 have H0 := As h0
 have H1 := As h1
 have HJ := As hj
 have HK := As hk
 have HRS := As (RS.sub h0.rs h1.rs)
 have HJK := As (show j + 1 + (k + 1) + 1 ≤ 8000000 by omega)
 clear hok h0 h1 hj hk
 obtain ⟨n0, A0, m0, c0, A0', m0', c0', rfl⟩ := H0.out.shape
 obtain ⟨n1, A1, m1, c1, A1', m1', c1', rfl⟩ := H1.out.shape
 obtain ⟨W2, hW2⟩ : ∃ W2, (w.alloc (.cells #[.bool n0, .slice A0 m0 c0, .slice A0' m0' c0'] 46)).alloc (.cells #[.bool n1, .slice A1 m1 c1, .slice A1' m1' c1'] 46) = W2 := ⟨_, rfl⟩
 have hb2 : Below w.heap.size w W2 := by rw [← hW2]; exact below_alloc (below_alloc (Below.refl _ _) _) _
 have HOK2 := As (show ∀ k, W2.heap.size ≤ k → ok k from fun k hk => HOK.out k (Nat.le_trans hb2.size hk))
 have H02 := As (H0.out.below hb2)
 have H12 := As (H1.out.below hb2)
 have HB2 := As hb2
 have HW2 := As hW2
 clear hb2 hW2
 go_enter Tryz.func12, Tryz.ntmps12
 go_wp2_with fail
 rw [HW2.out]
 with_reducible refine (sub_ref ok _ _ _ _ _ _ _ HOK2.out H02.out H12.out HJ.out HK.out).mono ?_
 rintro e w3 ⟨vs, rfl, hs, hb⟩
 have HS := As (hs.raw HRS.out)
 have HB3 := As (below_weaken HB2.out HB2.out.size hb)
 have HOK3 := As (show ∀ k, w3.heap.size ≤ k → ok k from fun k hk => HOK2.out k (Nat.le_trans hb.size hk))
 clear hs hb
 go_wp2_with fail
 with_reducible refine (sign_ref ok _ _ _ _ HOK3.out HS.out HJK.out).mono ?_
 rintro e w4 ⟨rfl, hb⟩
 have HB4 := As (below_step HB3.out hb)
 clear hb
 go_wp2
 go_ret
 exact ⟨rfl, HB4.out⟩
end Go.Proofs.YtldkcpgnccknpaaGreat
