/-
  The parts RatA, RatB, RatC, Inv, Inv2, RatD, RatE, RatF, RatG, RatH: the contracts of the program's functions and the plain laws below them; each part's own remark says which.
-/
import Derived.Test.YtldkcpgnccknpaaGreatMN
import Derived.Test.YtldkcpgnccknpaaGreatMB
import Derived.Deep.RegionHeld3
import Derived.Test.YtldkcpgnccknpaaGreatWLast
import Derived.Deep.DeepCutAuto
set_option linter.unusedVariables false
set_option linter.unusedSimpArgs false
/-
  Plain arithmetic of fractions: no program in sight.
-/
namespace Go.Proofs.YtldkcpgnccknpaaGreat
namespace Num
def sgn (neg : Bool) (n : Nat) : Int := if neg then -(n : Int) else n
/-- The fraction with a sign, a numerator and a denominator. -/
def rq (neg : Bool) (n d : Nat) : Rat := mkRat (sgn neg n) d
theorem sgn_natAbs (neg : Bool) (n : Nat) : (sgn neg n).natAbs = n := by unfold sgn; split <;> simp
theorem sgn_lt (neg : Bool) (n : Nat) : sgn neg n < 0 ↔ neg = true ∧ n ≠ 0 := by unfold sgn; cases neg <;> simp <;> omega
theorem sgn_div (neg : Bool) (n g : Nat) (hg : g ∣ n) : sgn neg n / (g : Int) = sgn neg (n / g) := by
 obtain ⟨k, rfl⟩ := hg
 unfold sgn
 rcases Nat.eq_zero_or_pos g with h | h
 ·subst h; cases neg <;> simp
 ·cases neg
  ·simp only [Bool.false_eq_true, if_false]
   rw [Nat.mul_div_cancel_left _ h]
   rw [Int.natCast_mul, Int.mul_ediv_cancel_left _ (by omega)]
  ·simp only [if_true]
   rw [Nat.mul_div_cancel_left _ h, Int.natCast_mul, ← Int.mul_neg, Int.mul_ediv_cancel_left _ (by omega)]
theorem rq_num (neg : Bool) (n : Nat) {d : Nat} (hd : d ≠ 0) : (rq neg n d).num = sgn neg (n / Nat.gcd n d) := by
 unfold rq
 rw [Rat.num_mkRat, if_neg hd, sgn_natAbs, Nat.gcd_comm, sgn_div _ _ _ (Nat.gcd_dvd_left n d)]
theorem rq_abs (neg : Bool) (n : Nat) {d : Nat} (hd : d ≠ 0) : (rq neg n d).num.natAbs = n / Nat.gcd n d := by rw [rq_num _ _ hd, sgn_natAbs]
theorem rq_den (neg : Bool) (n : Nat) {d : Nat} (hd : d ≠ 0) : (rq neg n d).den = d / Nat.gcd n d := by
 unfold rq
 rw [Rat.den_mkRat, if_neg hd, sgn_natAbs, Nat.gcd_comm]
theorem div_gcd_pos {n d : Nat} (hn : n ≠ 0) : n / Nat.gcd n d ≠ 0 := by
 have hg : 0 < Nat.gcd n d := Nat.gcd_pos_of_pos_left _ (by omega)
 have := Nat.div_pos (Nat.le_of_dvd (by omega) (Nat.gcd_dvd_left n d)) hg
 omega
theorem rq_neg (neg : Bool) {n d : Nat} (hn : n ≠ 0) (hd : d ≠ 0) : decide ((rq neg n d).num < 0) = neg := by
 have h := sgn_lt neg (n / Nat.gcd n d)
 rw [rq_num _ _ hd]
 have h2 := div_gcd_pos (d := d) hn
 cases neg
 ·simp [h]
 ·simp [h, h2]
theorem rq_zero (neg : Bool) (d : Nat) : rq neg 0 d = 0 := by unfold rq sgn; cases neg <;> simp
theorem rq_self (q : Rat) : rq (decide (q.num < 0)) q.num.natAbs q.den = q := by
 unfold rq
 have : sgn (decide (q.num < 0)) q.num.natAbs = q.num := by
  unfold sgn
  by_cases h : q.num < 0
  ·rw [decide_eq_true h]; simp; omega
  ·rw [decide_eq_false h]; simp; omega
 rw [this, Rat.mkRat_self]
theorem sgn_mul (a b : Bool) (n m : Nat) : sgn a n * sgn b m = sgn (a != b) (n * m) := by
 unfold sgn
 cases a <;> cases b <;> simp [Int.natCast_mul] <;> grind
theorem rq_mul (a b : Bool) (n m d e : Nat) : rq a n d * rq b m e = rq (a != b) (n * m) (d * e) := by
 unfold rq; rw [Rat.mkRat_mul_mkRat, sgn_mul]
theorem rq_add_same (a : Bool) (n m : Nat) {d e : Nat} (hd : d ≠ 0) (he : e ≠ 0) : rq a n d + rq a m e = rq a (n * e + m * d) (d * e) := by
 unfold rq
 rw [Rat.mkRat_add_mkRat _ _ hd he]
 congr 1
 unfold sgn
 cases a <;> simp [Int.natCast_mul, Int.natCast_add] <;> grind
theorem rq_add_ge (a b : Bool) (n m : Nat) {d e : Nat} (hd : d ≠ 0) (he : e ≠ 0) (hab : a ≠ b) (h : m * d ≤ n * e) : rq a n d + rq b m e = rq a (n * e - m * d) (d * e) := by
 unfold rq
 rw [Rat.mkRat_add_mkRat _ _ hd he]
 congr 1
 unfold sgn
 have h2 : ((n * e - m * d : Nat) : Int) = (n : Int) * e - (m : Int) * d := by rw [Int.natCast_sub h]; simp
 cases a <;> cases b <;> simp at hab ⊢ <;> rw [h2] <;> grind
theorem rq_add_lt (a b : Bool) (n m : Nat) {d e : Nat} (hd : d ≠ 0) (he : e ≠ 0) (hab : a ≠ b) (h : n * e ≤ m * d) : rq a n d + rq b m e = rq b (m * d - n * e) (d * e) := by
 unfold rq
 rw [Rat.mkRat_add_mkRat _ _ hd he]
 congr 1
 unfold sgn
 have h2 : ((m * d - n * e : Nat) : Int) = (m : Int) * d - (n : Int) * e := by rw [Int.natCast_sub h]; simp
 cases a <;> cases b <;> simp at hab ⊢ <;> rw [h2] <;> grind
theorem rq_nonzero (b : Bool) {m e : Nat} (hm : m ≠ 0) (he : e ≠ 0) : rq b m e ≠ 0 := by
 intro h
 have h1 := rq_abs b m he
 rw [h] at h1
 have h2 := div_gcd_pos (d := e) hm
 exact h2 (by rw [← h1]; rfl)
theorem rq_div (a b : Bool) (n : Nat) {m d e : Nat} (hm : m ≠ 0) (hd : d ≠ 0) (he : e ≠ 0) : rq a n d / rq b m e = rq (a != b) (n * e) (d * m) := by
 have h0 := rq_nonzero b hm he
 have h1 : rq (a != b) (n * e) (d * m) * rq b m e = rq a n d := by
  rw [rq_mul]
  have h2 : ((a != b) != b) = a := by cases a <;> cases b <;> rfl
  rw [h2]
  unfold rq
  rw [Rat.mkRat_eq_iff (Nat.mul_ne_zero (Nat.mul_ne_zero hd hm) he) hd]
  unfold sgn
  cases a <;> simp [Int.natCast_mul] <;> grind
 rw [← h1]
 grind
theorem rq_negate (a : Bool) (n d : Nat) : -rq a n d = rq (!a) n d := by
 unfold rq
 rw [Rat.neg_mkRat]
 congr 1
 unfold sgn
 cases a <;> simp
/-- Numerator and denominator have at most k limbs. -/
def RS (k : Nat) (q : Rat) : Prop := (q.num.natAbs : Int) < pw k ∧ (q.den : Int) < pw k
theorem RS.rq (neg : Bool) {n d k : Nat} (hd : d ≠ 0) (hn : (n : Int) < pw k) (hdd : (d : Int) < pw k) : RS k (rq neg n d) := by
 refine ⟨?_, ?_⟩
 ·rw [rq_abs _ _ hd]; have := Nat.div_le_self n (Nat.gcd n d); omega
 ·rw [rq_den _ _ hd]; have := Nat.div_le_self d (Nat.gcd n d); omega
theorem RS.mono {k k' : Nat} {q : Rat} (h : RS k q) (hk : k ≤ k') : RS k' q := ⟨by have := pw_le hk; have := h.1; omega, by have := pw_le hk; have := h.2; omega⟩
theorem mul_lt_pw {n m : Nat} {j k : Nat} (hn : (n : Int) < pw j) (hm : (m : Int) < pw k) : ((n * m : Nat) : Int) < pw (j + k) := by
 rw [pw_add, Int.natCast_mul]
 have h1 : (n : Int) * m ≤ (pw j - 1) * m := Int.mul_le_mul_of_nonneg_right (by omega) (by omega)
 have h2 : (pw j - 1) * m ≤ (pw j - 1) * (pw k - 1) := Int.mul_le_mul_of_nonneg_left (by omega) (by have := pw_pos j; omega)
 have h3 : (pw j - 1) * (pw k - 1) = pw j * pw k - pw j - pw k + 1 := by grind
 have := pw_pos j
 have := pw_pos k
 omega
theorem add_lt_pw {n m : Nat} {j : Nat} (hn : (n : Int) < pw j) (hm : (m : Int) < pw j) : ((n + m : Nat) : Int) < pw (j + 1) := by
 rw [pw_succ]
 have := pw_pos j
 omega
theorem RS.mul {j k : Nat} {p q : Rat} (hp : RS j p) (hq : RS k q) : RS (j + k) (p * q) := by
 rw [← rq_self p, ← rq_self q, rq_mul]
 exact RS.rq _ (Nat.mul_ne_zero p.den_nz q.den_nz) (mul_lt_pw hp.1 hq.1) (mul_lt_pw hp.2 hq.2)
theorem RS.add {j k : Nat} {p q : Rat} (hp : RS j p) (hq : RS k q) : RS (j + k + 1) (p + q) := by
 have h1 := mul_lt_pw hp.1 hq.2
 have h2 := mul_lt_pw hq.1 hp.2
 rw [Nat.add_comm] at h2
 have hd := mul_lt_pw hp.2 hq.2
 have hle := pw_le (show j + k ≤ j + k + 1 by omega)
 have hnz := Nat.mul_ne_zero p.den_nz q.den_nz
 rw [← rq_self p, ← rq_self q]
 by_cases he : decide (p.num < 0) = decide (q.num < 0)
 ·rw [he, rq_add_same _ _ _ p.den_nz q.den_nz]
  exact RS.rq _ hnz (add_lt_pw h1 h2) (by omega)
 ·by_cases hc : q.num.natAbs * p.den ≤ p.num.natAbs * q.den
  ·rw [rq_add_ge _ _ _ _ p.den_nz q.den_nz he hc]
   exact RS.rq _ hnz (by omega) (by omega)
  ·rw [rq_add_lt _ _ _ _ p.den_nz q.den_nz he (by omega)]
   exact RS.rq _ hnz (by omega) (by omega)
theorem RS.neg {j : Nat} {p : Rat} (hp : RS j p) : RS j (-p) := by
 rw [← rq_self p, rq_negate]
 exact RS.rq _ p.den_nz hp.1 hp.2
theorem RS.sub {j k : Nat} {p q : Rat} (hp : RS j p) (hq : RS k q) : RS (j + k + 1) (p - q) := by
 rw [Rat.sub_eq_add_neg]; exact RS.add hp hq.neg
theorem rat_num_zero {q : Rat} (h : q.num.natAbs = 0) : q = 0 := by
 have : q.num = 0 := by omega
 exact Rat.num_eq_zero.1 this
theorem RS.div {j k : Nat} {p q : Rat} (hp : RS j p) (hq : RS k q) (h0 : q ≠ 0) : RS (j + k) (p / q) := by
 have hm : q.num.natAbs ≠ 0 := fun h => h0 (rat_num_zero h)
 rw [← rq_self p, ← rq_self q, rq_div _ _ _ hm p.den_nz q.den_nz]
 exact RS.rq _ (Nat.mul_ne_zero p.den_nz hm) (mul_lt_pw hp.1 hq.2) (mul_lt_pw hp.2 hq.1)
end Num
end Go.Proofs.YtldkcpgnccknpaaGreat
/-
  The contract of made (package rational): fractions in canonical form.
-/
namespace Go.Proofs.YtldkcpgnccknpaaGreat
open Go.RowKit Go.Proofs.YtldkcpgnccknpaaGreatW.PrintWords Go.Proofs.YtldkcpgnccknpaaGreatW.PrintMore Num
set_option linter.unusedVariables false
/-- A number in canonical form. -/
def IsCan (w : World) (ok : Nat → Prop) (v : Value) (q : Rat) : Prop := ∃ v1 v2, v = .agg #[.bool (decide (q.num < 0)), v1, v2] ∧ IsNat w ok v1 q.num.natAbs ∧ IsNat w ok v2 q.den
def RetRat (ok : Nat → Prop) (q : Rat) (w0 : World) (e : Ending) (w' : World) : Prop := ∃ v, e = .returned v ∧ IsCan w' ok v q ∧ Below w0.heap.size w0 w'
section
variable {w w1 : World} {ok ok' : Nat → Prop} {v : Value} {q : Rat}
theorem IsNat.old {n : Nat} (h : IsNat w ok v n) (hb : Below w.heap.size w w1) : IsNat w1 (fun k => ok k ∧ k < w.heap.size) v n := by
 obtain ⟨l, hu, hn, hv⟩ := h
 exact ⟨l, (hu.bound).step (fun k _ hlt => hb.block k hlt), hn, hv⟩
theorem IsNat.set {n : Nat} (h : IsNat w ok v n) {g : Nat} (hg : ∀ k, ok k → k ≠ g) (i : Nat) (x : Value) : IsNat (w.setCell ⟨g, i, none⟩ x) ok v n := h.step (fun k hk _ => Below.heap_setCell w ⟨g, i, none⟩ x k (hg k hk))
theorem isCan_rq {v1 v2 : Value} {neg : Bool} {n d : Nat} (hn : n ≠ 0) (hd : d ≠ 0) (h1 : IsNat w ok v1 (n / Nat.gcd n d)) (h2 : IsNat w ok v2 (d / Nat.gcd n d)) : IsCan w ok (.agg #[.bool neg, v1, v2]) (rq neg n d) :=
 ⟨v1, v2, by rw [rq_neg neg hn hd], by rw [rq_abs neg n hd]; exact h1, by rw [rq_den neg n hd]; exact h2⟩
theorem IsCan.mono (h : IsCan w ok v q) (hok : ∀ k, ok k → ok' k) : IsCan w ok' v q := by
 obtain ⟨v1, v2, e, h1, h2⟩ := h
 exact ⟨v1, v2, e, h1.mono hok, h2.mono hok⟩
theorem IsCan.step (h : IsCan w ok v q) (hm : ∀ k, ok k → k < w.heap.size → w1.heap[k]? = w.heap[k]?) : IsCan w1 ok v q := by
 obtain ⟨v1, v2, e, h1, h2⟩ := h
 exact ⟨v1, v2, e, h1.step hm, h2.step hm⟩
theorem IsCan.below (h : IsCan w ok v q) (hb : Below w.heap.size w w1) : IsCan w1 ok v q := h.step (fun k _ hlt => hb.block k hlt)
theorem IsCan.set (h : IsCan w ok v q) {g : Nat} (hg : ∀ k, ok k → k ≠ g) (i : Nat) (x : Value) : IsCan (w.setCell ⟨g, i, none⟩ x) ok v q := h.step (fun k hk _ => Below.heap_setCell w ⟨g, i, none⟩ x k (hg k hk))
theorem bcell {W w1 : World} (hb : Below W.heap.size W w1) : (∀ b o, b < W.heap.size → w1.cell? ⟨b, o, none⟩ = W.cell? ⟨b, o, none⟩) ∧ (∀ b o, b < W.heap.size → w1.frozen? ⟨b, o, none⟩ = W.frozen? ⟨b, o, none⟩) :=
 ⟨fun b o h => hb.cell (p := ⟨b, o, none⟩) h, fun b o h => hb.frozen (p := ⟨b, o, none⟩) h⟩
end
theorem isCan_zero (w : World) (ok : Nat → Prop) (v2 : Value) (h2 : IsNat w ok v2 1) : IsCan w ok (.agg #[.bool false, .slice none 0 0, v2]) 0 := ⟨_, _, rfl, IsNat.nil _ _, h2⟩
theorem isNat_one (w : World) (ok : Nat → Prop) (hok : ∀ k, w.heap.size ≤ k → ok k) : IsNat (w.alloc (.cells #[.int .u32 1] 65)) ok (.slice (some ⟨w.heap.size, 0, none⟩) 1 1) 1 := ⟨[1], U_lit w ok hok 1, ⟨Lim.single (by omega) (by omega), .inr (by decide)⟩, rfl⟩
theorem size_alloc (w : World) (o : Obj) : (w.alloc o).heap.size = w.heap.size + 1 := by
 show (w.heap.push _).size = _
 simp
set_option maxHeartbeats 1000000 in
theorem made_zero (ok : Nat → Prop) (neg : Bool) (v0 v1 : Value) (w : World) (hok : ∀ k, w.heap.size ≤ k → ok k) (h0 : IsNat w ok v0 0) :
  Calls Tryz.prog 75 #[.bool neg, v0, v1] w (RetRat ok 0 w) := by
 obtain ⟨l, ⟨A, c, rfl, hc, hF⟩, hl, hv⟩ := h0
 have hz : l.length = 0 := nrm_zero hl hv
 have hzb : (l.length == 0) = true := by simp [hz]
 clear hF hl hv hz
 go_enter Tryz.func75, Tryz.ntmps75
 go_wp2
 have h1 := isNat_one (w.alloc (.cells #[.bool false, .slice none 0 0, .slice (some ⟨w.heap.size + 1, 0, none⟩) 1 1] 46)) ok (fun k hk => hok k (by have := (below_alloc (Below.refl w.heap.size w) (.cells #[.bool false, .slice none 0 0, .slice (some ⟨w.heap.size + 1, 0, none⟩) 1 1] 46)).size; omega))
 rw [size_alloc] at h1
 exact bodyPost_ret (v := .agg #[.bool false, .slice none 0 0, .slice (some ⟨w.heap.size + 1, 0, none⟩) 1 1]) (by simp [results, Tryz.results75, go_sem]) rfl ⟨_, rfl, isCan_zero _ _ _ h1, below_alloc (below_alloc (Below.refl _ _) _) _⟩
set_option maxHeartbeats 2000000 in
theorem made_rat (ok : Nat → Prop) (neg : Bool) (v0 v1 : Value) (n d : Nat) (w : World) (hok : ∀ k, w.heap.size ≤ k → ok k) (h0 : IsNat w ok v0 n) (h1 : IsNat w ok v1 d) (hn : n ≠ 0) (hd : d ≠ 0) (hns : (n : Int) < pw 10000000) (hds : (d : Int) < pw 10000000) :
  Calls Tryz.prog 75 #[.bool neg, v0, v1] w (RetRat ok (rq neg n d) w) := by
 have H0 := As h0
 have H1 := As h1
 have HOK := As hok
 have HS := As (And.intro hn (And.intro hd (And.intro hns hds)))
 have hsn := As hns
 have hsd := As hds
 obtain ⟨l, ⟨A, c, rfl, hc, hF⟩, hl, hv⟩ := h0
 have hz : l.length ≠ 0 := fun e => hn (by rw [nil_zero e] at hv; omega)
 have hzb : (l.length == 0) = false := by simpa using hz
 obtain ⟨ok', hok'⟩ : ∃ ok' : Nat → Prop, ok' = fun k => ok k ∧ k ≠ w.heap.size := ⟨_, rfl⟩
 have HOK' := As hok'
 have HOK1 := As (show ∀ k, (w.alloc (.cells #[.bool false, .slice none 0 0, .slice none 0 0] 46)).heap.size ≤ k → ok' k from fun k hk => by rw [size_alloc] at hk; rw [hok']; exact ⟨hok k (by omega), by omega⟩)
 have H0a := As ((H0.out.old (below_alloc (Below.refl _ _) (.cells #[.bool false, .slice none 0 0, .slice none 0 0] 46))).mono (ok' := ok') (fun k hk => by rw [hok']; exact ⟨hk.1, by have := hk.2; omega⟩))
 have H1a := As ((H1.out.old (below_alloc (Below.refl _ _) (.cells #[.bool false, .slice none 0 0, .slice none 0 0] 46))).mono (ok' := ok') (fun k hk => by rw [hok']; exact ⟨hk.1, by have := hk.2; omega⟩))
 clear hF hl hv hz hn hd hns hds h1 hok hok'
 go_enter Tryz.func75, Tryz.ntmps75
 go_wp2_with fail
 with_reducible refine (gcd_nat ok' _ _ n d _ HOK1.out H0a.out H1a.out hsn.out hsd.out).mono ?_
 rintro e w1 ⟨vg, rfl, hg, hb⟩
 obtain ⟨bc, bf⟩ := bcell hb
 have hz1 : w.heap.size < w1.heap.size := by have := hb.size; rw [size_alloc] at this; omega
 have HB1 := As (below_step (below_alloc (Below.refl w.heap.size w) _) hb)
 have HG := As hg
 have H0b := As (H0a.out.below hb)
 have H1b := As (H1a.out.below hb)
 have HOK2 := As (show ∀ k, w1.heap.size ≤ k → ok' k from fun k hk => by rw [HOK'.out]; exact ⟨HOK.out k (by omega), by omega⟩)
 obtain ⟨lg, ⟨Ag, cg, rfl, hcg, hFg⟩, hlg, hvg⟩ := hg
 have hg0 : 0 < Nat.gcd n d := Nat.gcd_pos_of_pos_left _ (by have := HS.out.1; omega)
 have hlgp : 0 < lg.length := by
  rcases Nat.eq_zero_or_pos lg.length with h | h
  ·rw [nil_zero h] at hvg; omega
  ·exact h
 obtain ⟨adg, rfl, hcell⟩ := F_at hFg 0 hlgp
 have had : adg.add 0 = adg := rfl
 rw [had] at hcell
 have hg1 := nrm_pos hlg hlgp
 have HVG := As (And.intro hlg hvg)
 clear had hFg hlg hvg
 have hcase : (decide ((1 : Int) < (lg.length : Int)) = true ∧ Nat.gcd n d ≠ 1) ∨ ((decide ((1 : Int) < (lg.length : Int)) = false ∧ decide (1 < nth lg 0) = true) ∧ Nat.gcd n d ≠ 1) ∨ ((decide ((1 : Int) < (lg.length : Int)) = false ∧ decide (1 < nth lg 0) = false) ∧ Nat.gcd n d = 1) := by
  have hv := HVG.out.2
  by_cases h : (1 : Int) < (lg.length : Int)
  ·refine .inl ⟨decide_eq_true h, fun e => ?_⟩
   have h1 := nrm_low HVG.out.1 hlgp
   have h2 := pw_le (show 1 ≤ lg.length - 1 by omega)
   rw [show pw 1 = 1000000000 from rfl] at h2
   omega
  ·have h1 : lg.length = 1 := by omega
   have h2 := val_drop (l := lg) (i := 0) (by omega)
   rw [List.drop_zero, List.drop_eq_nil_of_le (by omega), val_nil] at h2
   by_cases h3 : 1 < nth lg 0
   ·exact .inr (.inl ⟨⟨decide_eq_false h, decide_eq_true h3⟩, by omega⟩)
   ·exact .inr (.inr ⟨⟨decide_eq_false h, decide_eq_false h3⟩, by omega⟩)
 have HGP := As (show Nat.gcd n d ≠ 0 by omega)
 clear hg1 hg0
 rcases hcase with ⟨ht, hg⟩ | ⟨⟨ht, ht'⟩, hg⟩ | ⟨⟨ht, ht'⟩, hg⟩
 iterate 2
  ·clear hg
   go_wp2_with fail
   with_reducible refine (div_nat ok' _ _ n (Nat.gcd n d) _ HOK2.out H0b.out HG.out HGP.out hsn.out).mono ?_
   rintro e w2 ⟨va, vr, rfl, hva, _, hb⟩
   obtain ⟨bc2, bf2⟩ := bcell hb
   have hz2 : w.heap.size < w2.heap.size := by have := hb.size; omega
   have HB2 := As (below_step HB1.out hb)
   have HG2 := As (HG.out.below hb)
   have H1c := As (H1b.out.below hb)
   have HA2 := As hva
   have HOK3 := As (show ∀ k, w2.heap.size ≤ k → ok' k from fun k hk => by rw [HOK'.out]; exact ⟨HOK.out k (by omega), by omega⟩)
   clear hva hb
   go_wp2_with fail
   with_reducible refine (div_nat ok' _ _ d (Nat.gcd n d) _ HOK3.out H1c.out HG2.out HGP.out hsd.out).mono ?_
   rintro e w3 ⟨vb, vs, rfl, hvb, _, hb⟩
   obtain ⟨bc3, bf3⟩ := bcell hb
   have hz3 : w.heap.size < w3.heap.size := by have := hb.size; omega
   have HB3 := As (below_step HB2.out hb)
   have ha3 := HA2.out.below hb
   obtain ⟨la, hua, hla, hvva⟩ := ha3
   obtain ⟨lb, hub, hlb, hvvb⟩ := hvb
   have HUA := As hua
   have HLA := As (And.intro hla hvva)
   have HLB := As (And.intro hlb hvvb)
   have hle1 := As (show la.length ≤ 10000000 from len_le hla (by rw [hvva]; have := Nat.div_le_self n (Nat.gcd n d); have := hsn.out; omega))
   have hle2 := As (show lb.length ≤ 10000000 from len_le hlb (by rw [hvvb]; have := Nat.div_le_self d (Nat.gcd n d); have := hsd.out; omega))
   have HUB := As hub
   have HOK4 := As (show ∀ k, w3.heap.size ≤ k → ok' k from fun k hk => by rw [HOK'.out]; exact ⟨HOK.out k (by omega), by omega⟩)
   clear hb hua hla hvva hub hlb hvvb
   go_wp2_with fail
   with_reducible refine (clone_u32 ok' _ la _ HOK4.out HUA.out hle1.out).mono ?_
   rintro e w4 ⟨vx, rfl, hux, hb⟩
   obtain ⟨bc4, bf4⟩ := bcell hb
   have hz4 : w.heap.size < w4.heap.size := by have := hb.size; omega
   have HB4 := As (below_step HB3.out hb)
   have HUX := As hux
   have HUB4 := As (HUB.out.below hb)
   have HOK5 := As (show ∀ k, w4.heap.size ≤ k → ok' k from fun k hk => by rw [HOK'.out]; exact ⟨HOK.out k (by omega), by omega⟩)
   obtain ⟨Ax, cx, rfl, _, _⟩ := hux
   clear hb
   go_wp2_with fail
   with_reducible refine (clone_u32 ok' _ lb _ HOK5.out HUB4.out hle2.out).mono ?_
   rintro e w5 ⟨vy, rfl, huy, hb⟩
   obtain ⟨bc5, bf5⟩ := bcell hb
   have hz5 : w.heap.size < w5.heap.size := by have := hb.size; omega
   have HB5 := As (below_step HB4.out hb)
   have HUX5 := As (HUX.out.below hb)
   have HUY := As huy
   obtain ⟨Ay, cy, rfl, _, _⟩ := huy
   clear hb
   go_wp2
   refine bodyPost_ret (v := .agg #[.bool neg, .slice Ax la.length cx, .slice Ay lb.length cy]) (by simp [results, Tryz.results75, go_sem, bc5, bf5, bc4, bf4, bc3, bf3, bc2, bf2, bc, bf, hz1, hz2, hz3, hz4, hz5]) rfl ⟨_, rfl, ?_, ?_⟩
   ·have hne : ∀ k, ok' k → k ≠ w.heap.size := fun k hk => by rw [HOK'.out] at hk; exact hk.2
    have hmo : ∀ k, ok' k → ok k := fun k hk => by rw [HOK'.out] at hk; exact hk.1
    exact (isCan_rq HS.out.1 HS.out.2.1 (((IsNat.set (IsNat.set (IsNat.set ⟨la, HUX5.out, HLA.out.1, HLA.out.2⟩ hne 0 _) hne 1 _) hne 2 _))) (((IsNat.set (IsNat.set (IsNat.set ⟨lb, HUY.out, HLB.out.1, HLB.out.2⟩ hne 0 _) hne 1 _) hne 2 _)))).mono hmo
   ·exact below_set (below_set (below_set HB5.out (Nat.le_refl _)) (Nat.le_refl _)) (Nat.le_refl _)
 ·have HG1 := As hg
  clear hg
  have ha3 := H0b.out
  obtain ⟨la, hua, hla, hvva⟩ := ha3
  have hvb := H1b.out
  obtain ⟨lb, hub, hlb, hvvb⟩ := hvb
  have HUA := As hua
  have HLA := As (And.intro hla (show val la = ((n / Nat.gcd n d : Nat) : Int) by rw [HG1.out, Nat.div_one]; exact hvva))
  have HLB := As (And.intro hlb (show val lb = ((d / Nat.gcd n d : Nat) : Int) by rw [HG1.out, Nat.div_one]; exact hvvb))
  have hle1 := As (show la.length ≤ 10000000 from len_le hla (by rw [hvva]; exact hsn.out))
  have hle2 := As (show lb.length ≤ 10000000 from len_le hlb (by rw [hvvb]; exact hsd.out))
  have HUB := As hub
  clear hua hla hvva hub hlb hvvb
  go_wp2_with fail
  with_reducible refine (clone_u32 ok' _ la _ HOK2.out HUA.out hle1.out).mono ?_
  rintro e w4 ⟨vx, rfl, hux, hb⟩
  obtain ⟨bc4, bf4⟩ := bcell hb
  have hz4 : w.heap.size < w4.heap.size := by have := hb.size; omega
  have HB4 := As (below_step HB1.out hb)
  have HUX := As hux
  have HUB4 := As (HUB.out.below hb)
  have HOK5 := As (show ∀ k, w4.heap.size ≤ k → ok' k from fun k hk => by rw [HOK'.out]; exact ⟨HOK.out k (by omega), by omega⟩)
  obtain ⟨Ax, cx, rfl, _, _⟩ := hux
  clear hb
  go_wp2_with fail
  with_reducible refine (clone_u32 ok' _ lb _ HOK5.out HUB4.out hle2.out).mono ?_
  rintro e w5 ⟨vy, rfl, huy, hb⟩
  obtain ⟨bc5, bf5⟩ := bcell hb
  have hz5 : w.heap.size < w5.heap.size := by have := hb.size; omega
  have HB5 := As (below_step HB4.out hb)
  have HUX5 := As (HUX.out.below hb)
  have HUY := As huy
  obtain ⟨Ay, cy, rfl, _, _⟩ := huy
  clear hb
  go_wp2
  refine bodyPost_ret (v := .agg #[.bool neg, .slice Ax la.length cx, .slice Ay lb.length cy]) (by simp [results, Tryz.results75, go_sem, bc5, bf5, bc4, bf4, bc, bf, hz1, hz4, hz5]) rfl ⟨_, rfl, ?_, ?_⟩
  ·have hne : ∀ k, ok' k → k ≠ w.heap.size := fun k hk => by rw [HOK'.out] at hk; exact hk.2
   have hmo : ∀ k, ok' k → ok k := fun k hk => by rw [HOK'.out] at hk; exact hk.1
   exact (isCan_rq HS.out.1 HS.out.2.1 (((IsNat.set (IsNat.set (IsNat.set ⟨la, HUX5.out, HLA.out.1, HLA.out.2⟩ hne 0 _) hne 1 _) hne 2 _))) (((IsNat.set (IsNat.set (IsNat.set ⟨lb, HUY.out, HLB.out.1, HLB.out.2⟩ hne 0 _) hne 1 _) hne 2 _)))).mono hmo
  ·exact below_set (below_set (below_set HB5.out (Nat.le_refl _)) (Nat.le_refl _)) (Nat.le_refl _)
theorem made_any (ok : Nat → Prop) (neg : Bool) (v0 v1 : Value) (n d : Nat) (w : World) (hok : ∀ k, w.heap.size ≤ k → ok k) (h0 : IsNat w ok v0 n) (h1 : IsNat w ok v1 d) (hd : d ≠ 0) (hns : (n : Int) < pw 10000000) (hds : (d : Int) < pw 10000000) :
  Calls Tryz.prog 75 #[.bool neg, v0, v1] w (RetRat ok (rq neg n d) w) := by
 by_cases hn : n = 0
 ·subst hn
  rw [rq_zero]
  exact made_zero ok neg v0 v1 w hok h0
 ·exact made_rat ok neg v0 v1 n d w hok h0 h1 hn hd hns hds
/-
  The contract of Canonical (package rational).
-/
/-- What limbs of any kind denote. -/
def rawq (neg : Bool) (nl dl : List Int) : Rat := if val dl = 0 then 0 else rq neg (val nl).toNat (val dl).toNat
/-- A number of any form: at most k limbs on each side. -/
def IsRaw (w : World) (ok : Nat → Prop) (v : Value) (q : Rat) (k : Nat) : Prop := ∃ neg v1 v2 nl dl, v = .agg #[.bool neg, v1, v2] ∧ U w ok v1 nl ∧ U w ok v2 dl ∧ U32 nl ∧ U32 dl ∧ nl.length ≤ k ∧ dl.length ≤ k ∧ q = rawq neg nl dl
theorem val_u_lt {l : List Int} (h : U32 l) : val l ≤ 5 * (pw l.length - 1) := by
 induction l with
 | nil => simp [val, pw]
 | cons x l ih =>
  have hx := h x List.mem_cons_self
  have := ih (fun y hy => h y (List.mem_cons_of_mem _ hy))
  rw [val_cons, List.length_cons, pw_succ]
  have := pw_pos l.length
  omega
theorem val_u_pw {l : List Int} (h : U32 l) {k : Nat} (hk : l.length ≤ k) : val l < pw (k + 1) := by
 have h1 := val_u_lt h
 have h2 := pw_le hk
 have h3 := pw_pos k
 rw [pw_succ]
 omega
section
variable {w w1 : World} {ok ok' : Nat → Prop} {v : Value} {q : Rat} {k : Nat}
theorem IsRaw.mono (h : IsRaw w ok v q k) (hok : ∀ k, ok k → ok' k) : IsRaw w ok' v q k := by
 obtain ⟨neg, v1, v2, nl, dl, e, h1, h2, h3, h4, h5, h6, h7⟩ := h
 exact ⟨neg, v1, v2, nl, dl, e, h1.mono hok, h2.mono hok, h3, h4, h5, h6, h7⟩
theorem IsRaw.step (h : IsRaw w ok v q k) (hm : ∀ k, ok k → k < w.heap.size → w1.heap[k]? = w.heap[k]?) : IsRaw w1 ok v q k := by
 obtain ⟨neg, v1, v2, nl, dl, e, h1, h2, h3, h4, h5, h6, h7⟩ := h
 exact ⟨neg, v1, v2, nl, dl, e, h1.step hm, h2.step hm, h3, h4, h5, h6, h7⟩
theorem IsRaw.below (h : IsRaw w ok v q k) (hb : Below w.heap.size w w1) : IsRaw w1 ok v q k := h.step (fun k _ hlt => hb.block k hlt)
theorem IsRaw.bound (h : IsRaw w ok v q k) : IsRaw w (fun k => ok k ∧ k < w.heap.size) v q k := by
 obtain ⟨neg, v1, v2, nl, dl, e, h1, h2, h3, h4, h5, h6, h7⟩ := h
 exact ⟨neg, v1, v2, nl, dl, e, h1.bound, h2.bound, h3, h4, h5, h6, h7⟩
theorem IsRaw.old (h : IsRaw w ok v q k) (hb : Below w.heap.size w w1) : IsRaw w1 (fun k => ok k ∧ k < w.heap.size) v q k := h.bound.step (fun k _ hlt => hb.block k hlt)
theorem IsRaw.rs (h : IsRaw w ok v q k) : RS (k + 1) q := by
 obtain ⟨neg, v1, v2, nl, dl, e, h1, h2, h3, h4, h5, h6, rfl⟩ := h
 unfold rawq
 split
 ·exact ⟨by have := pw_pos (k + 1); simpa using this, by
   have h1 := pw_le (show 1 ≤ k + 1 by omega)
   have h2 : pw 1 = 1000000000 := rfl
   show ((1 : Nat) : Int) < _
   omega⟩
 ·rename_i hd
  have g1 := val_u_pw h3 h5
  have g2 := val_u_pw h4 h6
  have g3 := val_nonneg_u h3
  have g4 := val_nonneg_u h4
  exact RS.rq _ (by omega) (by omega) (by omega)
theorem IsCan.raw (h : IsCan w ok v q) (hs : RS k q) : IsRaw w ok v q k := by
 obtain ⟨v1, v2, e, ⟨nl, u1, n1, e1⟩, ⟨dl, u2, n2, e2⟩⟩ := h
 refine ⟨_, v1, v2, nl, dl, e, u1, u2, n1.1.u32, n2.1.u32, len_le n1 (by rw [e1]; exact hs.1), len_le n2 (by rw [e2]; exact hs.2), ?_⟩
 unfold rawq
 have := q.den_nz
 rw [if_neg (by omega), e1, e2, Int.toNat_natCast, Int.toNat_natCast, rq_self]
theorem IsCan.bound (h : IsCan w ok v q) : IsCan w (fun k => ok k ∧ k < w.heap.size) v q := by
 obtain ⟨v1, v2, e, ⟨l, u, n, e1⟩, ⟨l2, u2, n2, e2⟩⟩ := h
 exact ⟨v1, v2, e, ⟨l, u.bound, n, e1⟩, ⟨l2, u2.bound, n2, e2⟩⟩
theorem IsCan.old (h : IsCan w ok v q) (hb : Below w.heap.size w w1) : IsCan w1 (fun k => ok k ∧ k < w.heap.size) v q := h.bound.step (fun k _ hlt => hb.block k hlt)
theorem U.old {l : List Int} (h : U w ok v l) (hb : Below w.heap.size w w1) : U w1 (fun k => ok k ∧ k < w.heap.size) v l := h.bound.step (fun k _ hlt => hb.block k hlt)
end
theorem IsCan.shape {w : World} {ok : Nat → Prop} {v : Value} {q : Rat} (h : IsCan w ok v q) : ∃ A n c A' n' c', v = .agg #[.bool (decide (q.num < 0)), .slice A n c, .slice A' n' c'] := by
 obtain ⟨v1, v2, rfl, ⟨l, ⟨A, c, rfl, _, _⟩, _, _⟩, ⟨l', ⟨A', c', rfl, _, _⟩, _, _⟩⟩ := h
 exact ⟨A, _, c, A', _, c', rfl⟩
set_option maxHeartbeats 2000000 in
theorem canonical_rat (ok : Nat → Prop) (v : Value) (q : Rat) (k : Nat) (w : World) (hok : ∀ k, w.heap.size ≤ k → ok k) (h : IsRaw w ok v q k) (hk : k ≤ 5000000) :
  Calls Tryz.prog 77 #[v] w (RetRat ok q w) := by
 obtain ⟨neg, v1, v2, nl, dl, rfl, h1, h2, h3, h4, h5, h6, rfl⟩ := h
 obtain ⟨W2, hW2⟩ : ∃ W2, (w.alloc (.cells #[.bool neg, v1, v2] 46)).alloc (.cells #[.bool false, .slice none 0 0, .slice none 0 0] 46) = W2 := ⟨_, rfl⟩
 have hb2 : Below w.heap.size w W2 := by rw [← hW2]; exact below_alloc (below_alloc (Below.refl _ _) _) _
 have hsz : W2.heap.size = w.heap.size + 2 := by rw [← hW2, size_alloc, size_alloc]
 obtain ⟨ok', hok'⟩ : ∃ ok' : Nat → Prop, ok' = fun k => ok k ∧ k ≠ w.heap.size ∧ k ≠ w.heap.size + 1 := ⟨_, rfl⟩
 have HOK' := As hok'
 have HN := As ((h1.old hb2).mono (ok' := ok') (fun k hk => by rw [hok']; exact ⟨hk.1, by have := hk.2; omega, by have := hk.2; omega⟩))
 have HD := As ((h2.old hb2).mono (ok' := ok') (fun k hk => by rw [hok']; exact ⟨hk.1, by have := hk.2; omega, by have := hk.2; omega⟩))
 have HOK2 := As (show ∀ k, W2.heap.size ≤ k → ok' k from fun k hk => by rw [hok']; exact ⟨hok k (by omega), by omega, by omega⟩)
 have HB2 := As hb2
 have HSZ := As hsz
 have hu4 := As h4
 have hu3 := As h3
 have hle1 := As (show nl.length ≤ 10000000 by omega)
 have hle2 := As (show dl.length ≤ 10000000 by omega)
 have hlk := As (And.intro h5 (And.intro h6 hk))
 have HOK := As hok
 have HW2 := As hW2
 obtain ⟨A1, c1, rfl, _, _⟩ := h1
 obtain ⟨A2, c2, rfl, _, _⟩ := h2
 clear h3 h4 h5 h6 hok hok' hb2 hsz hW2 hk
 go_enter Tryz.func77, Tryz.ntmps77
 go_wp2_with fail
 rw [HW2.out]
 with_reducible refine (norm_nat ok' _ dl _ HOK2.out HD.out hu4.out hle2.out).mono ?_
 rintro e w3 ⟨vd, rfl, hd, hb⟩
 obtain ⟨bc, bf⟩ := bcell hb
 rw [HSZ.out, ← HW2.out] at bc bf
 have hz3 : w.heap.size + 1 < w3.heap.size := by have := hb.size; have := HSZ.out; omega
 have hz3' : w.heap.size < w3.heap.size := by omega
 have HB3 := As (below_weaken HB2.out HB2.out.size hb)
 have HDN := As hd
 have HN3 := As (HN.out.below hb)
 have HOK3 := As (show ∀ k, w3.heap.size ≤ k → ok' k from fun k hk => by rw [HOK'.out]; exact ⟨HOK.out k (by omega), by omega, by omega⟩)
 obtain ⟨ld, ⟨Ad, cd, rfl, _, _⟩, hnd, hvd⟩ := hd
 clear hb
 by_cases hz : val dl = 0
 ·have hl0 : ld.length = 0 := nrm_zero hnd (by rw [hvd, hz]; rfl)
  have hlb : (ld.length == 0) = true := by simp [hl0]
  have HZ := As hz
  have HNIL := As (IsNat.nil w3 ok')
  clear hz hnd hvd hl0
  go_wp2_with fail
  with_reducible refine (made_zero ok' _ _ _ _ HOK3.out HNIL.out).mono ?_
  rintro e w4 ⟨vr, rfl, hr, hb⟩
  obtain ⟨bc4, bf4⟩ := bcell hb
  have hz4 : w.heap.size + 1 < w4.heap.size := by have := hb.size; omega
  have HB4 := As (below_step HB3.out hb)
  have HR := As hr
  obtain ⟨Ar, nr, cr, Ar', nr', cr', rfl⟩ := hr.shape
  clear hr hb
  go_wp2
  refine bodyPost_ret (v := .agg #[.bool (decide ((0 : Rat).num < 0)), .slice Ar nr cr, .slice Ar' nr' cr']) (by simp [results, Tryz.results77, go_sem, bc4, bf4, bc, bf, hz4, hz3]) rfl ⟨_, rfl, ?_, ?_⟩
  ·have hne : ∀ k, ok' k → k ≠ w.heap.size + 1 := fun k hk => by rw [HOK'.out] at hk; exact hk.2.2
   have hmo : ∀ k, ok' k → ok k := fun k hk => by rw [HOK'.out] at hk; exact hk.1
   rw [show rawq neg nl dl = 0 by unfold rawq; rw [if_pos HZ.out]]
   exact (((HR.out.set hne 0 _).set hne 1 _).set hne 2 _).mono hmo
  ·exact below_set (below_set (below_set HB4.out (by omega)) (by omega)) (by omega)
 ·have hl0 : ld.length ≠ 0 := fun e => hz (by rw [nil_zero e] at hvd; have := val_nonneg_u hu4.out; omega)
  have hlb : (ld.length == 0) = false := by simp [hl0]
  have HZ := As hz
  clear hz hnd hvd hl0
  have c0 : w3.cell? ⟨w.heap.size, 0, none⟩ = some (.bool neg) := by simp [bc, hz3', go_sem]
  have c1' : w3.cell? ⟨w.heap.size, 1, none⟩ = some (.slice A1 nl.length c1) := by simp [bc, hz3', go_sem]
  have HN3d := As (HN3.out.below (below_drew1 (Below.refl w3.heap.size w3)))
  have HDN3d := As (HDN.out.below (below_drew1 (Below.refl w3.heap.size w3)))
  have HOK3d := As (show ∀ k, w3.drew.heap.size ≤ k → ok' k from HOK3.out)
  have HB3d := As (below_drew1 HB3.out)
  have HC3 := As (And.intro c0 c1')
  have hdl0 : 0 < val dl := by have := val_nonneg_u hu4.out; have := HZ.out; omega
  have hdnz := As (show (val dl).toNat ≠ 0 by omega)
  have hnlt := As (show ((val nl).toNat : Int) < pw 10000000 by have := val_u_pw hu3.out hlk.out.1; have := pw_le (show k + 1 ≤ 10000000 by have := hlk.out.2.2; omega); have := val_nonneg_u hu3.out; omega)
  have hdlt := As (show ((val dl).toNat : Int) < pw 10000000 by have := val_u_pw hu4.out hlk.out.2.1; have := pw_le (show k + 1 ≤ 10000000 by have := hlk.out.2.2; omega); omega)
  clear hdl0
  go_wp2_with fail
  go_region_held3 (fun W' => W'.cell? ⟨w.heap.size, 0, none⟩ = some (.bool neg) ∧ W'.cell? ⟨w.heap.size, 1, none⟩ = some (.slice A1 nl.length c1)) (first | exact kc4 | exact kc5 | go_keep)
   (first
    | (go_at_call 76; (with_reducible refine (norm_nat ok' _ nl _ HOK3d.out HN3d.out hu3.out hle1.out).mono ?_); rintro e w4 ⟨vn, rfl, hn, hb⟩; have HNN := As hn; have HB4 := As (below_step HB3d.out hb); have HDN4 := As (HDN3d.out.below hb); have hz4 : w.heap.size + 1 < w4.heap.size := by { have := hb.size; have h2 : w3.drew.heap.size = w3.heap.size := rfl; omega }; have HOK4 := As (show ∀ k, w4.heap.size ≤ k → ok' k from fun k hk => by { rw [HOK'.out]; exact ⟨HOK.out k (by omega), by omega, by omega⟩ }); have kc4 := And.intro (pw_cell_below hb HC3.out.1) (pw_cell_below hb HC3.out.2); (obtain ⟨bc4, bf4⟩ := bcell hb); (replace bc4 : ∀ b o, b < w3.heap.size → w4.cell? ⟨b, o, none⟩ = w3.cell? ⟨b, o, none⟩ := bc4); (replace bf4 : ∀ b o, b < w3.heap.size → w4.frozen? ⟨b, o, none⟩ = w3.frozen? ⟨b, o, none⟩ := bf4); clear hn hb)
    | (go_at_call 75; (with_reducible refine (made_any ok' neg _ _ _ _ _ HOK4.out HNN.out HDN4.out hdnz.out hnlt.out hdlt.out).mono ?_); rintro e w5 ⟨vr, rfl, hr, hb⟩; have HR := As hr; have HB5 := As (below_step HB4.out hb); have hz5 : w.heap.size + 1 < w5.heap.size := by { have := hb.size; omega }; have kc5 := And.intro (pw_cell_below hb kc4.1) (pw_cell_below hb kc4.2); (obtain ⟨bc5, bf5⟩ := bcell hb); (obtain ⟨Ar, nr, cr, Ar', nr', cr', rfl⟩ := hr.shape); clear hr hb))
  go_wp2
  refine bodyPost_ret (v := .agg #[.bool (decide ((rq neg (val nl).toNat (val dl).toNat).num < 0)), .slice Ar nr cr, .slice Ar' nr' cr']) (by simp [results, Tryz.results77, go_sem, bc5, bf5, bc4, bf4, bc, bf, hz5, hz4, hz3]) rfl ⟨_, rfl, ?_, ?_⟩
  ·have hne : ∀ k, ok' k → k ≠ w.heap.size + 1 := fun k hk => by rw [HOK'.out] at hk; exact hk.2.2
   have hmo : ∀ k, ok' k → ok k := fun k hk => by rw [HOK'.out] at hk; exact hk.1
   rw [show rawq neg nl dl = rq neg (val nl).toNat (val dl).toNat by unfold rawq; rw [if_neg HZ.out]]
   exact (((HR.out.set hne 0 _).set hne 1 _).set hne 2 _).mono hmo
  ·exact below_set (below_set (below_set HB5.out (by omega)) (by omega)) (by omega)
end Go.Proofs.YtldkcpgnccknpaaGreat
/-
  A region that draws its order, by what holds behind each set of its operations (one proof for each operation, whatever the order).
-/
namespace Go.Proofs.YtldkcpgnccknpaaGreat
open Go.RowKit Go.Proofs.YtldkcpgnccknpaaGreatW.PrintWords Go.Proofs.YtldkcpgnccknpaaGreatW.PrintMore Go.Proofs.YtldkcpgnccknpaaGreatW.PrintLast Num
set_option linter.unusedVariables false
section
variable {P : Program} {md : Region.Mode} {ops : Array Oper} {Q : Exit → Act → World → Prop}
/-- Each edge that binds points back. -/
def backB (md : Region.Mode) (ops : Array Oper) : Bool := (List.range ops.size).all fun i => ((ops[i]?).map (·.after.all fun e => !Region.binds md e || decide (e.on < i))).getD true
theorem ready_nil (hb : backB md ops = true) {listed : Array Bool} (h : Region.ready md ops listed = []) : ∀ i, i < ops.size → listed.getD i true = true := by
 intro i
 induction i using Nat.strongRecOn with
 | ind i ih =>
  intro hi
  rcases hl : listed.getD i true with _ | _
  ·exfalso
   have hm : i ∈ Region.ready md ops listed := by
    refine mem_ready.2 ⟨hl, ops[i], Array.getElem?_eq_getElem hi, fun e he hbe => ?_⟩
    have h1 := List.all_eq_true.1 hb i (List.mem_range.2 hi)
    rw [Array.getElem?_eq_getElem hi] at h1
    simp only [Option.map_some, Option.getD_some] at h1
    have h2 := Array.all_eq_true_iff_forall_mem.1 h1 e he
    rw [hbe] at h2
    have h3 : e.on < i := by simpa using h2
    have h4 := ih e.on h3 (by omega)
    simpa [Array.getD_eq_getD_getElem?] using (by
     rcases Nat.lt_or_ge e.on listed.size with h5 | h5
     ·simp [h5] at h4 ⊢; exact h4
     ·exfalso
      have h6 : i ≥ listed.size := by omega
      simp [Array.getElem?_eq_none h6] at hl)
   rw [h] at hm
   cases hm
  ·rfl
theorem wpAny_inv (hb : backB md ops = true) (I : (Nat → Bool) → Act → World → Prop)
  (step : ∀ (L : Nat → Bool) (a : Act) (w : World) (i : Nat), i < ops.size → I L a w → L i = false → (∀ o, ops[i]? = some o → ∀ e ∈ o.after, Region.binds md e = true → L e.on = true) → wpOp P ops Q i (fun a' w' => I (fun k => if k = i then true else L k) a' w') a w)
  (done : ∀ (L : Nat → Bool) (a : Act) (w : World), I L a w → (∀ i, i < ops.size → L i = true) → Q .normal a w) :
  ∀ (fuel : Nat) (listed : Array Bool) (L : Nat → Bool) (a : Act) (w : World), listed.size = ops.size → (∀ i, i < ops.size → listed.getD i true = L i) → ((List.range ops.size).filter fun i => !L i).length ≤ fuel → I L a w → wpAny P md ops Q fuel listed a w := by
 intro fuel
 induction fuel with
 | zero =>
  intro listed L a w hs hL hf hI
  have hall : ∀ i, i < ops.size → L i = true := fun i hi => by
   rcases hl : L i with _ | _
   ·have : i ∈ (List.range ops.size).filter fun i => !L i := List.mem_filter.2 ⟨List.mem_range.2 hi, by simp [hl]⟩
    have hnil : ((List.range ops.size).filter fun i => !L i) = [] := List.eq_nil_of_length_eq_zero (by omega)
    rw [hnil] at this
    cases this
   ·rfl
  refine ⟨?_, done L a w hI hall⟩
  rw [List.eq_nil_iff_forall_not_mem]
  intro i hi
  have h1 := (mem_ready.1 hi).1
  obtain ⟨o, ho, _⟩ := (mem_ready.1 hi).2
  have hlt := (Array.getElem?_eq_some_iff.1 ho).1
  rw [hL i hlt, hall i hlt] at h1
  cases h1
 | succ fuel ih =>
  intro listed L a w hs hL hf hI
  refine ⟨fun h => done L a w hI fun i hi => by rw [← hL i hi]; exact ready_nil hb h i hi, fun i hi => ?_⟩
  obtain ⟨h0, o, ho, hall⟩ := mem_ready.1 hi
  have hlt := (Array.getElem?_eq_some_iff.1 ho).1
  rw [hL i hlt] at h0
  refine wpOp_mono (fun a' w' h => ?_) (step L a w i hlt hI h0 fun o' ho' e he hbe => ?_)
  ·refine ih (listed.setIfInBounds i true) _ a' w' (by simp [hs]) (fun j hj => ?_) ?_ h
   ·by_cases hji : j = i
    ·subst hji; simp [hs, hj]
    ·rw [if_neg hji, ← hL j hj, getD_set_ne true (Ne.symm hji)]
   ·have h1 : (List.range ops.size).filter (fun j => !(if j = i then true else L j)) = ((List.range ops.size).filter fun j => !L j).filter fun j => decide (j ≠ i) := by
     rw [List.filter_filter]
     apply List.filter_congr
     intro j _
     by_cases hji : j = i <;> simp [hji]
    have h2 : i ∈ (List.range ops.size).filter fun j => !L j := List.mem_filter.2 ⟨List.mem_range.2 hlt, by simp [h0]⟩
    have h3 := List.length_filter_lt_length_iff_exists (p := fun j => decide (j ≠ i)) (l := (List.range ops.size).filter fun j => !L j) |>.2 ⟨i, h2, by simp⟩
    rw [h1]
    omega
  ·rw [ho] at ho'
   injection ho' with ho'
   subst ho'
   have h5 := hall e he hbe
   have hlt2 : e.on < listed.size := by
    rcases Nat.lt_or_ge e.on listed.size with h | h
    ·exact h
    ·simp [Array.getElem?_eq_none h] at h5
   rw [← hL e.on (by omega)]
   simp [hlt2] at h5 ⊢
   exact h5
/-- The rule: a region by its invariant. -/
theorem region_inv {id : Nat} {a : Act} {w : World} (hm : P.follows .mixedOrders = true) (hb : backB .any ops = true) (I : (Nat → Bool) → Act → World → Prop) (h0 : I (fun _ => false) a w.drew)
  (step : ∀ (L : Nat → Bool) (a : Act) (w : World) (i : Nat), i < ops.size → I L a w → L i = false → (∀ o, ops[i]? = some o → ∀ e ∈ o.after, Region.binds .any e = true → L e.on = true) → wpOp P ops Q i (fun a' w' => I (fun k => if k = i then true else L k) a' w') a w)
  (done : ∀ (L : Nat → Bool) (a : Act) (w : World), I L a w → (∀ i, i < ops.size → L i = true) → Q .normal a w) : (Code.region id ops true).wp P Q a w :=
 wp_region_any hm (wpAny_inv hb I step done ops.size (Array.replicate ops.size false) (fun _ => false) a _ (by simp) (fun i hi => by simp [hi]) (by
  have := List.length_filter_le (fun i : Nat => !((fun _ => false : Nat → Bool) i)) (List.range ops.size)
  simpa using this) h0)
theorem op_on {i : Nat} {o : Oper} {K : Act → World → Prop} {a : Act} {w : World} (ho : ops[i]? = some o) (h : if Region.wanted o (yielded ops a.tmps) = true then Oper.wp P o a w K Q else K (a.put o.dst undef) w) : wpOp P ops Q i K a w := by
 unfold wpOp
 simp only [ho]
 split
 ·rename_i hw; rw [if_pos hw] at h; exact .inl h
 ·rename_i hw; rw [if_neg hw] at h; exact h
end
/-
  Two numbers made canonical and laid into two new variables, in whatever order: what holds on the way.
-/
abbrev ptr (g : Nat) : Value := .pointer (some ⟨g, 0, none⟩)
theorem heap_set {w : World} {g : Nat} {cs : Array Value} {t : TypeId} {fr : Nat × Nat} (h : w.heap[g]? = some (.cells cs t fr)) (i : Nat) (x : Value) : (w.setCell ⟨g, i, none⟩ x).heap[g]? = some (.cells (cs.setIfInBounds i x) t fr) := by
 have hlt : g < w.heap.size := (Array.getElem?_eq_some_iff.1 h).1
 have h2 : w.heap[g] = .cells cs t fr := (Array.getElem?_eq_some_iff.1 h).2
 show (w.heap.modify g _)[g]? = _
 rw [Array.getElem?_eq_getElem (by simpa using hlt), Array.getElem_modify, if_pos rfl, h2]
 rfl
theorem heap_far {w : World} {g k : Nat} (hne : k ≠ g) (i : Nat) (x : Value) : (w.setCell ⟨g, i, none⟩ x).heap[k]? = w.heap[k]? := Below.heap_setCell w ⟨g, i, none⟩ x k hne
theorem heap_size_set (w : World) (a : Addr) (x : Value) : (w.setCell a x).heap.size = w.heap.size := by simp [World.setCell]
theorem heap_new (w : World) (o : Obj) : (w.alloc o).heap[w.heap.size]? = some o := by
 show (w.heap.push _)[w.heap.size]? = _
 simp
theorem heap_old {w : World} (o : Obj) {k : Nat} (h : k < w.heap.size) : (w.alloc o).heap[k]? = w.heap[k]? := by
 show (w.heap.push _)[k]? = _
 rw [Array.getElem?_push]
 split <;> simp_all
theorem heap_lt_ {w : World} {g : Nat} {o : Obj} (h : w.heap[g]? = some o) : g < w.heap.size := (Array.getElem?_eq_some_iff.1 h).1
/-- The three cells of a variable of the type of the numbers. -/
theorem cells3 {w : World} {g : Nat} {c0 c1 c2 : Value} {t : TypeId} (h : w.heap[g]? = some (.cells #[c0, c1, c2] t (0, 0))) :
  w.cell? ⟨g, 0, none⟩ = some c0 ∧ w.cell? ⟨g, 1, none⟩ = some c1 ∧ w.cell? ⟨g, 2, none⟩ = some c2 ∧ w.frozen? ⟨g, 0, none⟩ = false ∧ w.frozen? ⟨g, 1, none⟩ = false ∧ w.frozen? ⟨g, 2, none⟩ = false := by
 simp [World.cell?, World.frozen?, h]
def RatCells (w : World) (g : Nat) (v : Value) : Prop := ∃ c0 c1 c2, v = .agg #[c0, c1, c2] ∧ w.heap[g]? = some (.cells #[c0, c1, c2] 46 (0, 0))
structure TwoCan (W0 : World) (ok : Nat → Prop) (p q : Rat) (l1 l3 l4 l5 l6 l7 : Bool) (y z s t : Value) (g h : Nat) (w : World) : Prop where
 below : Below W0.heap.size W0 w
 d61 : l6 = true → l1 = true
 d64 : l6 = true → l4 = true
 d73 : l7 = true → l3 = true
 d75 : l7 = true → l5 = true
 bs : l4 = true → s = ptr g ∧ W0.heap.size ≤ g ∧ ∃ c0 c1 c2, w.heap[g]? = some (.cells #[c0, c1, c2] 46 (0, 0)) ∧ (l6 = true → y = .agg #[c0, c1, c2])
 bt : l5 = true → t = ptr h ∧ W0.heap.size ≤ h ∧ ∃ c0 c1 c2, w.heap[h]? = some (.cells #[c0, c1, c2] 46 (0, 0)) ∧ (l7 = true → z = .agg #[c0, c1, c2])
 ne : l4 = true → l5 = true → g ≠ h
 cy : l1 = true → IsCan w (fun k => ok k ∧ (l4 = true → k ≠ g) ∧ (l5 = true → k ≠ h)) y p
 cz : l3 = true → IsCan w (fun k => ok k ∧ (l4 = true → k ≠ g) ∧ (l5 = true → k ≠ h)) z q
section
variable {W0 w w1 : World} {ok : Nat → Prop} {p q : Rat} {l1 l3 l4 l5 l6 l7 : Bool} {y z s t : Value} {g h : Nat}
theorem TwoCan.start (W0 : World) (ok : Nat → Prop) (p q : Rat) (y z s t : Value) : TwoCan W0 ok p q false false false false false false y z s t 0 0 W0.drew :=
 ⟨(Below.refl _ _).drew, (by simp), (by simp), (by simp), (by simp), (by simp), (by simp), (by simp), (by simp), (by simp)⟩
theorem TwoCan.fresh (T : TwoCan W0 ok p q l1 l3 l4 l5 l6 l7 y z s t g h w) (hok : ∀ k, W0.heap.size ≤ k → ok k) : ∀ k, w.heap.size ≤ k → ok k ∧ (l4 = true → k ≠ g) ∧ (l5 = true → k ≠ h) := fun k hk =>
 ⟨hok k (by have := T.below.size; omega), fun e => by obtain ⟨_, _, _, _, _, hc, _⟩ := T.bs e; have := heap_lt_ hc; omega, fun e => by obtain ⟨_, _, _, _, _, hc, _⟩ := T.bt e; have := heap_lt_ hc; omega⟩
theorem TwoCan.arg (T : TwoCan W0 ok p q l1 l3 l4 l5 l6 l7 y z s t g h w) {v : Value} {r : Rat} {k : Nat} (hv : IsRaw W0 ok v r k) : IsRaw w (fun k => ok k ∧ (l4 = true → k ≠ g) ∧ (l5 = true → k ≠ h)) v r k :=
 (hv.old T.below).mono (fun k hk => ⟨hk.1, fun e => by have := (T.bs e).2.1; have := hk.2; omega, fun e => by have := (T.bt e).2.1; have := hk.2; omega⟩)
theorem TwoCan.below_ (T : TwoCan W0 ok p q l1 l3 l4 l5 l6 l7 y z s t g h w) (hb : Below w.heap.size w w1) : TwoCan W0 ok p q l1 l3 l4 l5 l6 l7 y z s t g h w1 :=
 ⟨below_weaken T.below T.below.size hb, T.d61, T.d64, T.d73, T.d75,
  fun e => by obtain ⟨h1, h2, c0, c1, c2, hc, h3⟩ := T.bs e; exact ⟨h1, h2, c0, c1, c2, (hb.block g (heap_lt_ hc)).trans hc, h3⟩,
  fun e => by obtain ⟨h1, h2, c0, c1, c2, hc, h3⟩ := T.bt e; exact ⟨h1, h2, c0, c1, c2, (hb.block h (heap_lt_ hc)).trans hc, h3⟩,
  T.ne, fun e => (T.cy e).below hb, fun e => (T.cz e).below hb⟩
theorem TwoCan.call1 (T : TwoCan W0 ok p q false l3 l4 l5 l6 l7 y z s t g h w) (hb : Below w.heap.size w w1) {v : Value} (hv : IsCan w1 (fun k => ok k ∧ (l4 = true → k ≠ g) ∧ (l5 = true → k ≠ h)) v p) : TwoCan W0 ok p q true l3 l4 l5 l6 l7 v z s t g h w1 := by
 have T1 := T.below_ hb
 have h6 : l6 = false := by cases l6 with | false => rfl | true => exact absurd (T.d61 rfl) (by simp)
 subst h6
 exact ⟨T1.below, by simp, by simp, T1.d73, T1.d75, fun e => by obtain ⟨h1, h2, c0, c1, c2, hc, h3⟩ := T1.bs e; exact ⟨h1, h2, c0, c1, c2, hc, by simp⟩, T1.bt, T1.ne, fun _ => hv, T1.cz⟩
theorem TwoCan.call3 (T : TwoCan W0 ok p q l1 false l4 l5 l6 l7 y z s t g h w) (hb : Below w.heap.size w w1) {v : Value} (hv : IsCan w1 (fun k => ok k ∧ (l4 = true → k ≠ g) ∧ (l5 = true → k ≠ h)) v q) : TwoCan W0 ok p q l1 true l4 l5 l6 l7 y v s t g h w1 := by
 have T1 := T.below_ hb
 have h7 : l7 = false := by cases l7 with | false => rfl | true => exact absurd (T.d73 rfl) (by simp)
 subst h7
 exact ⟨T1.below, T1.d61, T1.d64, by simp, by simp, T1.bs, fun e => by obtain ⟨h1, h2, c0, c1, c2, hc, h3⟩ := T1.bt e; exact ⟨h1, h2, c0, c1, c2, hc, by simp⟩, T1.ne, T1.cy, fun _ => hv⟩
theorem TwoCan.alloc4 (T : TwoCan W0 ok p q l1 l3 false l5 l6 l7 y z s t g h w) (c0 c1 c2 : Value) : TwoCan W0 ok p q l1 l3 true l5 l6 l7 y z (ptr w.heap.size) t w.heap.size h (w.alloc (.cells #[c0, c1, c2] 46)) := by
 have T1 := T.below_ (below_alloc (Below.refl w.heap.size w) (.cells #[c0, c1, c2] 46))
 have h6 : l6 = false := by cases l6 with | false => rfl | true => exact absurd (T.d64 rfl) (by simp)
 subst h6
 refine ⟨T1.below, by simp, by simp, T1.d73, T1.d75, fun _ => ⟨rfl, T.below.size, c0, c1, c2, heap_new _ _, by simp⟩, T1.bt, fun _ e => ?_, fun e => ?_, fun e => ?_⟩
 ·obtain ⟨_, _, _, _, _, hc, _⟩ := T.bt e
  have := heap_lt_ hc
  omega
 ·exact ((T.cy e).old (below_alloc (Below.refl w.heap.size w) _)).mono (fun k hk => ⟨hk.1.1, fun _ => by have := hk.2; omega, hk.1.2.2⟩)
 ·exact ((T.cz e).old (below_alloc (Below.refl w.heap.size w) _)).mono (fun k hk => ⟨hk.1.1, fun _ => by have := hk.2; omega, hk.1.2.2⟩)
theorem TwoCan.alloc5 (T : TwoCan W0 ok p q l1 l3 l4 false l6 l7 y z s t g h w) (c0 c1 c2 : Value) : TwoCan W0 ok p q l1 l3 l4 true l6 l7 y z s (ptr w.heap.size) g w.heap.size (w.alloc (.cells #[c0, c1, c2] 46)) := by
 have T1 := T.below_ (below_alloc (Below.refl w.heap.size w) (.cells #[c0, c1, c2] 46))
 have h7 : l7 = false := by cases l7 with | false => rfl | true => exact absurd (T.d75 rfl) (by simp)
 subst h7
 refine ⟨T1.below, T1.d61, T1.d64, by simp, by simp, T1.bs, fun _ => ⟨rfl, T.below.size, c0, c1, c2, heap_new _ _, by simp⟩, fun e _ => ?_, fun e => ?_, fun e => ?_⟩
 ·obtain ⟨_, _, _, _, _, hc, _⟩ := T.bs e
  have := heap_lt_ hc
  omega
 ·exact ((T.cy e).old (below_alloc (Below.refl w.heap.size w) _)).mono (fun k hk => ⟨hk.1.1, hk.1.2.1, fun _ => by have := hk.2; omega⟩)
 ·exact ((T.cz e).old (below_alloc (Below.refl w.heap.size w) _)).mono (fun k hk => ⟨hk.1.1, hk.1.2.1, fun _ => by have := hk.2; omega⟩)
def put3 (w : World) (g : Nat) (c0 c1 c2 : Value) : World := ((w.setCell ⟨g, 0, none⟩ c0).setCell ⟨g, 1, none⟩ c1).setCell ⟨g, 2, none⟩ c2
theorem heap_put3 {a0 a1 a2 c0 c1 c2 : Value} {T : TypeId} (h : w.heap[g]? = some (.cells #[a0, a1, a2] T (0, 0))) : (put3 w g c0 c1 c2).heap[g]? = some (.cells #[c0, c1, c2] T (0, 0)) := by
 unfold put3
 rw [heap_set (heap_set (heap_set h 0 c0) 1 c1) 2 c2]
 rfl
theorem heap_put3_far {k : Nat} (hne : k ≠ g) (c0 c1 c2 : Value) : (put3 w g c0 c1 c2).heap[k]? = w.heap[k]? := by
 unfold put3
 rw [heap_far hne, heap_far hne, heap_far hne]
theorem below_put3 {B : Nat} (hb : Below B W0 w) (hg : B ≤ g) (c0 c1 c2 : Value) : Below B W0 (put3 w g c0 c1 c2) := ((hb.setCell hg _).setCell hg _).setCell hg _
theorem TwoCan.store6 {c0 c1 c2 : Value} (T : TwoCan W0 ok p q true l3 true l5 false l7 (.agg #[c0, c1, c2]) z s t g h w) : TwoCan W0 ok p q true l3 true l5 true l7 (.agg #[c0, c1, c2]) z s t g h (put3 w g c0 c1 c2) := by
 obtain ⟨h1, h2, a0, a1, a2, hc, _⟩ := T.bs rfl
 refine ⟨below_put3 T.below h2 _ _ _, fun _ => rfl, fun _ => rfl, T.d73, T.d75, fun _ => ⟨h1, h2, c0, c1, c2, heap_put3 hc, fun _ => rfl⟩, fun e => ?_, T.ne, fun e => ?_, fun e => ?_⟩
 ·obtain ⟨g1, g2, b0, b1, b2, gc, g3⟩ := T.bt e
  exact ⟨g1, g2, b0, b1, b2, (heap_put3_far (Ne.symm (T.ne rfl e)) _ _ _).trans gc, g3⟩
 ·exact (T.cy e).step (fun k hk _ => heap_put3_far (hk.2.1 rfl) _ _ _)
 ·exact (T.cz e).step (fun k hk _ => heap_put3_far (hk.2.1 rfl) _ _ _)
theorem TwoCan.store7 {c0 c1 c2 : Value} (T : TwoCan W0 ok p q l1 true l4 true l6 false y (.agg #[c0, c1, c2]) s t g h w) : TwoCan W0 ok p q l1 true l4 true l6 true y (.agg #[c0, c1, c2]) s t g h (put3 w h c0 c1 c2) := by
 obtain ⟨h1, h2, a0, a1, a2, hc, _⟩ := T.bt rfl
 refine ⟨below_put3 T.below h2 _ _ _, T.d61, T.d64, fun _ => rfl, fun _ => rfl, fun e => ?_, fun _ => ⟨h1, h2, c0, c1, c2, heap_put3 hc, fun _ => rfl⟩, T.ne, fun e => ?_, fun e => ?_⟩
 ·obtain ⟨g1, g2, b0, b1, b2, gc, g3⟩ := T.bs e
  exact ⟨g1, g2, b0, b1, b2, (heap_put3_far (T.ne e rfl) _ _ _).trans gc, g3⟩
 ·exact (T.cy e).step (fun k hk _ => heap_put3_far (hk.2.2 rfl) _ _ _)
 ·exact (T.cz e).step (fun k hk _ => heap_put3_far (hk.2.2 rfl) _ _ _)
/-- The end: two variables that hold two canonical numbers. -/
structure TwoEnd (W0 : World) (ok : Nat → Prop) (p q : Rat) (g h : Nat) (w : World) : Prop where
 below : Below W0.heap.size W0 w
 ne : g ≠ h
 hg : W0.heap.size ≤ g
 hh : W0.heap.size ≤ h
 cy : ∃ y, RatCells w g y ∧ IsCan w (fun k => ok k ∧ k ≠ g ∧ k ≠ h) y p
 cz : ∃ z, RatCells w h z ∧ IsCan w (fun k => ok k ∧ k ≠ g ∧ k ≠ h) z q
theorem TwoCan.done (T : TwoCan W0 ok p q true true true true true true y z s t g h w) : s = ptr g ∧ t = ptr h ∧ TwoEnd W0 ok p q g h w := by
 obtain ⟨h1, h2, c0, c1, c2, hc, h3⟩ := T.bs rfl
 obtain ⟨g1, g2, b0, b1, b2, gc, g3⟩ := T.bt rfl
 refine ⟨h1, g1, T.below, T.ne rfl rfl, h2, g2, ⟨y, ⟨c0, c1, c2, h3 rfl, hc⟩, (T.cy rfl).mono (fun k hk => ⟨hk.1, hk.2.1 rfl, hk.2.2 rfl⟩)⟩, ⟨z, ⟨b0, b1, b2, g3 rfl, gc⟩, (T.cz rfl).mono (fun k hk => ⟨hk.1, hk.2.1 rfl, hk.2.2 rfl⟩)⟩⟩
end
/-
  The contract of Mul (package rational).
-/
theorem IsRaw.shape {w : World} {ok : Nat → Prop} {v : Value} {q : Rat} {k : Nat} (h : IsRaw w ok v q k) : ∃ neg A n c A' n' c', v = .agg #[.bool neg, .slice A n c, .slice A' n' c'] := by
 obtain ⟨neg, v1, v2, nl, dl, rfl, ⟨A, c, rfl, _, _⟩, ⟨A', c', rfl, _, _⟩, _⟩ := h
 exact ⟨neg, A, _, c, A', _, c', rfl⟩
theorem six_below {w w1 : World} {g h : Nat} {a0 a1 a2 b0 b1 b2 : Value} (hb : Below w.heap.size w w1)
  (H : w.cell? ⟨g, 0, none⟩ = some a0 ∧ w.cell? ⟨g, 1, none⟩ = some a1 ∧ w.cell? ⟨g, 2, none⟩ = some a2 ∧ w.cell? ⟨h, 0, none⟩ = some b0 ∧ w.cell? ⟨h, 1, none⟩ = some b1 ∧ w.cell? ⟨h, 2, none⟩ = some b2) :
  w1.cell? ⟨g, 0, none⟩ = some a0 ∧ w1.cell? ⟨g, 1, none⟩ = some a1 ∧ w1.cell? ⟨g, 2, none⟩ = some a2 ∧ w1.cell? ⟨h, 0, none⟩ = some b0 ∧ w1.cell? ⟨h, 1, none⟩ = some b1 ∧ w1.cell? ⟨h, 2, none⟩ = some b2 :=
 ⟨pw_cell_below hb H.1, pw_cell_below hb H.2.1, pw_cell_below hb H.2.2.1, pw_cell_below hb H.2.2.2.1, pw_cell_below hb H.2.2.2.2.1, pw_cell_below hb H.2.2.2.2.2⟩
theorem cell_far {w : World} {g k i o : Nat} {x : Value} (hne : k ≠ g) : (w.setCell ⟨g, i, none⟩ x).cell? ⟨k, o, none⟩ = w.cell? ⟨k, o, none⟩ := World.cell?_setCell_far w ⟨g, i, none⟩ ⟨k, o, none⟩ x (by simpa using Ne.symm hne)
theorem six_far {w : World} {b g h : Nat} {a0 a1 a2 b0 b1 b2 x0 x1 x2 : Value} (hg : g ≠ b) (hh : h ≠ b)
  (H : w.cell? ⟨g, 0, none⟩ = some a0 ∧ w.cell? ⟨g, 1, none⟩ = some a1 ∧ w.cell? ⟨g, 2, none⟩ = some a2 ∧ w.cell? ⟨h, 0, none⟩ = some b0 ∧ w.cell? ⟨h, 1, none⟩ = some b1 ∧ w.cell? ⟨h, 2, none⟩ = some b2) :
  (((w.setCell ⟨b, 0, none⟩ x0).setCell ⟨b, 1, none⟩ x1).setCell ⟨b, 2, none⟩ x2).cell? ⟨g, 0, none⟩ = some a0 ∧ (((w.setCell ⟨b, 0, none⟩ x0).setCell ⟨b, 1, none⟩ x1).setCell ⟨b, 2, none⟩ x2).cell? ⟨g, 1, none⟩ = some a1 ∧ (((w.setCell ⟨b, 0, none⟩ x0).setCell ⟨b, 1, none⟩ x1).setCell ⟨b, 2, none⟩ x2).cell? ⟨g, 2, none⟩ = some a2 ∧
  (((w.setCell ⟨b, 0, none⟩ x0).setCell ⟨b, 1, none⟩ x1).setCell ⟨b, 2, none⟩ x2).cell? ⟨h, 0, none⟩ = some b0 ∧ (((w.setCell ⟨b, 0, none⟩ x0).setCell ⟨b, 1, none⟩ x1).setCell ⟨b, 2, none⟩ x2).cell? ⟨h, 1, none⟩ = some b1 ∧ (((w.setCell ⟨b, 0, none⟩ x0).setCell ⟨b, 1, none⟩ x1).setCell ⟨b, 2, none⟩ x2).cell? ⟨h, 2, none⟩ = some b2 := by
 rw [cell_far hg, cell_far hg, cell_far hg, cell_far hg, cell_far hg, cell_far hg, cell_far hg, cell_far hg, cell_far hg, cell_far hh, cell_far hh, cell_far hh, cell_far hh, cell_far hh, cell_far hh, cell_far hh, cell_far hh, cell_far hh]
 exact H
/-- What the two boxes hold ahead of the region. -/
def Boxes (W3 : World) (b0 b1 : Nat) (n0 : Bool) (x0 y0 : Value) (n1 : Bool) (x1 y1 : Value) : Prop := b0 < W3.heap.size ∧ W3.heap[b0]? = some (.cells #[.bool n0, x0, y0] 46 (0, 0)) ∧ b1 < W3.heap.size ∧ W3.heap[b1]? = some (.cells #[.bool n1, x1, y1] 46 (0, 0))
set_option maxRecDepth 100000 in
set_option maxHeartbeats 4000000 in
theorem mul_rat (ok : Nat → Prop) (v0 v1 : Value) (p q : Rat) (j k : Nat) (w : World) (hok : ∀ k, w.heap.size ≤ k → ok k) (h0 : IsRaw w ok v0 p j) (h1 : IsRaw w ok v1 q k) (hj : j ≤ 1000000) (hk : k ≤ 1000000) :
  Calls Tryz.prog 48 #[v0, v1] w (RetRat ok (p * q) w) := by
 obtain ⟨n0, A0, m0, c0, A0', m0', c0', e0⟩ := h0.shape
 obtain ⟨n1, A1, m1, c1, A1', m1', c1', e1⟩ := h1.shape
 obtain ⟨V0, hV0⟩ : ∃ V0, V0 = Value.agg #[.bool n0, .slice A0 m0 c0, .slice A0' m0' c0'] := ⟨_, rfl⟩
 obtain ⟨V1, hV1⟩ : ∃ V1, V1 = Value.agg #[.bool n1, .slice A1 m1 c1, .slice A1' m1' c1'] := ⟨_, rfl⟩
 have HV0 := As hV0
 have HV1 := As hV1
 obtain ⟨W3, hW3⟩ : ∃ W3, ((w.alloc (.cells #[.bool n0, .slice A0 m0 c0, .slice A0' m0' c0'] 46)).alloc (.cells #[.bool n1, .slice A1 m1 c1, .slice A1' m1' c1'] 46)).alloc (.cells #[.bool false, .slice none 0 0, .slice none 0 0] 46) = W3 := ⟨_, rfl⟩
 have hsz : W3.heap.size = w.heap.size + 3 := by rw [← hW3]; simp only [size_alloc]
 have hb3 : Below w.heap.size w W3 := by rw [← hW3]; exact below_alloc (below_alloc (below_alloc (Below.refl _ _) _) _) _
 obtain ⟨ok', hok'⟩ : ∃ ok' : Nat → Prop, ok' = fun k => ok k ∧ k ≠ w.heap.size + 2 := ⟨_, rfl⟩
 have HOK' := As hok'
 have HOK := As (show ∀ k, W3.heap.size ≤ k → ok' k from fun k hk => by rw [hok']; exact ⟨hok k (by omega), by omega⟩)
 have HR0 := As (show IsRaw W3 ok' V0 p j by rw [hV0, ← e0]; exact (h0.old hb3).mono (fun k hk => by rw [hok']; exact ⟨hk.1, by have := hk.2; omega⟩))
 have HR1 := As (show IsRaw W3 ok' V1 q k by rw [hV1, ← e1]; exact (h1.old hb3).mono (fun k hk => by rw [hok']; exact ⟨hk.1, by have := hk.2; omega⟩))
 have HX := As (show Boxes W3 w.heap.size (w.heap.size + 1) n0 (.slice A0 m0 c0) (.slice A0' m0' c0') n1 (.slice A1 m1 c1) (.slice A1' m1' c1') from ⟨by omega, by
  rw [← hW3, heap_old _ (by simp only [size_alloc]; omega), heap_old _ (by simp only [size_alloc]; omega), heap_new], by omega, by
  rw [← hW3, heap_old _ (by simp only [size_alloc]; omega)]
  have := heap_new (w.alloc (.cells #[.bool n0, .slice A0 m0 c0, .slice A0' m0' c0'] 46)) (.cells #[.bool n1, .slice A1 m1 c1, .slice A1' m1' c1'] 46)
  rwa [size_alloc] at this⟩)
 have HC := As (show W3.heap[w.heap.size + 2]? = some (.cells #[.bool false, .slice none 0 0, .slice none 0 0] 46 (0, 0)) by
  rw [← hW3]
  have := heap_new ((w.alloc (.cells #[.bool n0, .slice A0 m0 c0, .slice A0' m0' c0'] 46)).alloc (.cells #[.bool n1, .slice A1 m1 c1, .slice A1' m1' c1'] 46)) (.cells #[.bool false, .slice none 0 0, .slice none 0 0] 46)
  rwa [size_alloc, size_alloc] at this)
 have HW3 := As hW3
 have HSZ := As hsz
 have HB3 := As hb3
 have HJK := As (And.intro hj hk)
 have HRS0 := As h0.rs
 have HRS1 := As h1.rs
 have HOKW := As hok
 have HK0 := As (show j ≤ 5000000 by omega)
 have HK1 := As (show k ≤ 5000000 by omega)
 subst e0 e1
 clear hV0 hV1 hW3 hsz hb3 hok' hok h0 h1 hj hk
 go_enter Tryz.func48, Tryz.ntmps48
 go_upto_region 1 with fail
 rw [HW3.out]
 go_cut [5, 6] (fun s5 s6 wx => ∃ g h : Nat, s5 = ptr g ∧ s6 = ptr h ∧ Aside0 (TwoEnd W3 ok' p q g h wx))
 case first =>
  refine region_inv (by kernel_rfl) (by kernel_rfl) (fun L a w' => ∃ (y0 y1 y2 y3 y4 y5 : Value) (g h : Nat), a = { tmps := List.toArray [.agg #[.bool n0, .slice A0 m0 c0, .slice A0' m0' c0'], .agg #[.bool n1, .slice A1 m1 c1, .slice A1' m1' c1'], ptr w.heap.size, ptr (w.heap.size + 1), ptr (w.heap.size + 2), y4, y5, y0, y1, y2, y3, undef, undef, undef, undef, undef, undef, undef, undef, undef, undef, undef, undef, undef, undef, undef, undef], defers := [] } ∧ (L 0 = true → y0 = V0) ∧ (L 2 = true → y2 = V1) ∧ TwoCan W3 ok' p q (L 1) (L 3) (L 4) (L 5) (L 6) (L 7) y1 y3 y4 y5 g h w') ?_ ?_ ?_
  ·exact ⟨undef, undef, undef, undef, undef, undef, 0, 0, rfl, by simp, by simp, TwoCan.start _ _ _ _ _ _ _ _⟩
  ·intro L a w' i hi hI h0 hdep
   obtain ⟨y0, y1, y2, y3, y4, y5, g, h, rfl, e0, e2, T⟩ := hI
   have hi' : i < 8 := hi
   have hcase : i = 0 ∨ i = 1 ∨ i = 2 ∨ i = 3 ∨ i = 4 ∨ i = 5 ∨ i = 6 ∨ i = 7 := by omega
   have HT := As T
   have k0 := cells3 ((T.below.block _ HX.out.1).trans HX.out.2.1)
   have k1 := cells3 ((T.below.block _ HX.out.2.2.1).trans HX.out.2.2.2)
   clear T hi
   rcases hcase with rfl | rfl | rfl | rfl | rfl | rfl | rfl | rfl
   ·refine op_on rfl ?_
    refine value_ (w1 := w') (v := V0) (by rfl) rfl ?_ ?_
    ·rw [HV0.out]
     go_simp
    ·exact ⟨V0, y1, y2, y3, y4, y5, g, h, rfl, fun _ => rfl, e2, HT.out⟩
   ·have d0 : L 0 = true := hdep _ rfl { on := 0, ground := .data } (by simp) rfl
    have hy0 := e0 d0
    subst hy0
    rw [h0] at HT
    refine op_on rfl ?_
    refine goes_ Tryz.func77 (by kernel_rfl) rfl #[y0] (by rfl) rfl rfl (by simp only [List.map_toArray, List.map_cons, List.map_nil]; rfl) ?_
    refine (canonical_rat _ _ p _ _ (HT.out.fresh HOK.out) (HT.out.arg HR0.out) HK0.out).mono ?_
    rintro e w1 ⟨v, rfl, hv, hb⟩
    exact ⟨v, rfl, y0, v, y2, y3, y4, y5, g, h, rfl, e0, e2, HT.out.call1 hb hv⟩
   ·refine op_on rfl ?_
    refine value_ (w1 := w') (v := V1) (by rfl) rfl ?_ ?_
    ·rw [HV1.out]
     go_simp
    ·exact ⟨y0, y1, V1, y3, y4, y5, g, h, rfl, e0, fun _ => rfl, HT.out⟩
   ·have d0 : L 2 = true := hdep _ rfl { on := 2, ground := .data } (by simp) rfl
    have hy2 := e2 d0
    subst hy2
    rw [h0] at HT
    refine op_on rfl ?_
    refine goes_ Tryz.func77 (by kernel_rfl) rfl #[y2] (by rfl) rfl rfl (by simp only [List.map_toArray, List.map_cons, List.map_nil]; rfl) ?_
    refine (canonical_rat _ _ q _ _ (HT.out.fresh HOK.out) (HT.out.arg HR1.out) HK1.out).mono ?_
    rintro e w1 ⟨v, rfl, hv, hb⟩
    exact ⟨v, rfl, y0, y1, y2, v, y4, y5, g, h, rfl, e0, e2, HT.out.call3 hb hv⟩
   ·rw [h0] at HT
    refine op_on rfl ?_
    refine value_ (w1 := w'.alloc (.cells #[.bool false, .slice none 0 0, .slice none 0 0] 46)) (v := ptr w'.heap.size) (by rfl) rfl ?_ ?_
    ·go_simp
    ·exact ⟨y0, y1, y2, y3, _, y5, w'.heap.size, h, rfl, e0, e2, HT.out.alloc4 _ _ _⟩
   ·rw [h0] at HT
    refine op_on rfl ?_
    refine value_ (w1 := w'.alloc (.cells #[.bool false, .slice none 0 0, .slice none 0 0] 46)) (v := ptr w'.heap.size) (by rfl) rfl ?_ ?_
    ·go_simp
    ·exact ⟨y0, y1, y2, y3, y4, _, g, w'.heap.size, rfl, e0, e2, HT.out.alloc5 _ _ _⟩
   ·have d1 : L 1 = true := hdep _ rfl { on := 1, ground := .data } (by simp) rfl
    have d4 : L 4 = true := hdep _ rfl { on := 4, ground := .data } (by simp) rfl
    rw [h0, d1, d4] at HT
    obtain ⟨A_, n_, c_, A2_, n2_, c2_, hsh⟩ := (HT.out.cy rfl).shape
    subst hsh
    obtain ⟨rfl, _, b0, b1, b2, hc, _⟩ := HT.out.bs rfl
    have kk := cells3 hc
    have HT2 := As (show TwoCan W3 ok' p q (L 1) (L 3) (L 4) (L 5) true (L 7) _ y3 _ y5 g h _ by rw [d1, d4]; exact HT.out.store6)
    refine op_on rfl ?_
    refine skip_ (w1 := put3 w' g (.bool (decide (p.num < 0))) (.slice A_ n_ c_) (.slice A2_ n2_ c2_)) (by rfl) rfl ?_ ?_
    rotate_left
    ·exact ⟨y0, _, y2, y3, _, y5, g, h, rfl, e0, e2, HT2.out⟩
    ·go_simp
     rfl
   ·have d1 : L 3 = true := hdep _ rfl { on := 3, ground := .data } (by simp) rfl
    have d4 : L 5 = true := hdep _ rfl { on := 5, ground := .data } (by simp) rfl
    rw [h0, d1, d4] at HT
    obtain ⟨A_, n_, c_, A2_, n2_, c2_, hsh⟩ := (HT.out.cz rfl).shape
    subst hsh
    obtain ⟨rfl, _, b0, b1, b2, hc, _⟩ := HT.out.bt rfl
    have kk := cells3 hc
    have HT2 := As (show TwoCan W3 ok' p q (L 1) (L 3) (L 4) (L 5) (L 6) true y1 _ y4 _ g h _ by rw [d1, d4]; exact HT.out.store7)
    refine op_on rfl ?_
    refine skip_ (w1 := put3 w' h (.bool (decide (q.num < 0))) (.slice A_ n_ c_) (.slice A2_ n2_ c2_)) (by rfl) rfl ?_ ?_
    rotate_left
    ·exact ⟨y0, y1, y2, _, y4, _, g, h, rfl, e0, e2, HT2.out⟩
    ·go_simp
     rfl
  ·intro L a w' hI hall
   obtain ⟨y0, y1, y2, y3, y4, y5, g, h, rfl, e0, e2, T⟩ := hI
   rw [hall 1 (by decide), hall 3 (by decide), hall 4 (by decide), hall 5 (by decide), hall 6 (by decide), hall 7 (by decide)] at T
   obtain ⟨rfl, rfl, hE⟩ := T.done
   go_wp2_with fail
   go_meet
   case rel => exact ⟨g, h, rfl, rfl, ⟨hE⟩⟩
 case rest =>
  obtain ⟨g, h, rfl, rfl, HE⟩ := hcut
  obtain ⟨hbel, hne, hgb, hhb, ⟨y, ⟨a0, a1, a2, rfl, hgc⟩, ⟨x1, x2, ey, hy1, hy2⟩⟩, ⟨z, ⟨b0, b1, b2, rfl, hhc⟩, ⟨z1, z2, ez, hz1, hz2⟩⟩⟩ := HE.out
  obtain ⟨rfl, rfl, rfl⟩ : a0 = .bool (decide (p.num < 0)) ∧ a1 = x1 ∧ a2 = x2 := by simpa using ey
  obtain ⟨rfl, rfl, rfl⟩ : b0 = .bool (decide (q.num < 0)) ∧ b1 = z1 ∧ b2 = z2 := by simpa using ez
  obtain ⟨bp, hbp⟩ : ∃ b, decide (p.num < 0) = b := ⟨_, rfl⟩
  obtain ⟨bq, hbq⟩ : ∃ b, decide (q.num < 0) = b := ⟨_, rfl⟩
  obtain ⟨sg, hsg⟩ : ∃ b, (bp != bq) = b := ⟨_, rfl⟩
  have hsg2 : (!bp == bq) = sg := by rw [← hsg]; cases bp <;> cases bq <;> rfl
  rw [hbp] at hgc
  rw [hbq] at hhc
  have HSG := As (show rq sg (p.num.natAbs * q.num.natAbs) (p.den * q.den) = p * q by rw [← hsg, ← hbp, ← hbq, ← rq_mul, rq_self, rq_self])
  clear hbp hbq
  obtain ⟨okk, hokk⟩ : ∃ okk : Nat → Prop, okk = fun k => ok' k ∧ k ≠ g ∧ k ≠ h := ⟨_, rfl⟩
  rw [← hokk] at hy1 hy2 hz1 hz2
  have HOKK := As hokk
  have HBX := As (below_weaken HB3.out HB3.out.size hbel)
  have HRC := As ((hbel.block _ (heap_lt_ HC.out)).trans HC.out)
  have hgs := heap_lt_ hgc
  have hhs := heap_lt_ hhc
  have HOK2 := As (show ∀ k, wc.drew.heap.size ≤ k → okk k from fun k hk => by
   have h2 : wc.drew.heap.size = wc.heap.size := rfl
   rw [hokk]
   exact ⟨HOK.out k (by have := hbel.size; omega), by omega, by omega⟩)
  obtain ⟨s0, s1, s2, _, _, _⟩ := cells3 hgc
  obtain ⟨t0, t1, t2, _, _, _⟩ := cells3 hhc
  have HCELLS := As (And.intro s0 (And.intro s1 (And.intro s2 (And.intro t0 (And.intro t1 t2)))))
  have HX1 := As (hy1.below (below_drew1 (Below.refl wc.heap.size wc)))
  have HX2 := As (hy2.below (below_drew1 (Below.refl wc.heap.size wc)))
  have HZ1 := As (hz1.below (below_drew1 (Below.refl wc.heap.size wc)))
  have HZ2 := As (hz2.below (below_drew1 (Below.refl wc.heap.size wc)))
  have HBXd := As (below_drew1 HBX.out)
  have hj1 := pw_le (show j + 1 ≤ 10000000 by have := HJK.out; omega)
  have hk1 := pw_le (show k + 1 ≤ 10000000 by have := HJK.out; omega)
  have hn1 := As (show (p.num.natAbs : Int) < pw 10000000 by have := HRS0.out.1; omega)
  have hd1 := As (show (p.den : Int) < pw 10000000 by have := HRS0.out.2; omega)
  have hn2 := As (show (q.num.natAbs : Int) < pw 10000000 by have := HRS1.out.1; omega)
  have hd2 := As (show (q.den : Int) < pw 10000000 by have := HRS1.out.2; omega)
  have hjk := pw_le (show j + 1 + (k + 1) ≤ 10000000 by have := HJK.out; omega)
  have hnn := As (show ((p.num.natAbs * q.num.natAbs : Nat) : Int) < pw 10000000 by have := mul_lt_pw HRS0.out.1 HRS1.out.1; omega)
  have hdd := As (show ((p.den * q.den : Nat) : Int) < pw 10000000 by have := mul_lt_pw HRS0.out.2 HRS1.out.2; omega)
  have hdz := As (Nat.mul_ne_zero p.den_nz q.den_nz)
  have HGB := As (show g ≠ w.heap.size + 1 + 1 by have := HSZ.out; omega)
  have HHB := As (show h ≠ w.heap.size + 1 + 1 by have := HSZ.out; omega)
  clear hy1 hy2 hz1 hz2 hbel hne hgb hhb hgc hhc ey ez hj1 hk1 hjk hokk
  go_wp2_with fail
  go_region_held3 (fun W' => W'.cell? ⟨g, 0, none⟩ = some (.bool bp) ∧ W'.cell? ⟨g, 1, none⟩ = some a1 ∧ W'.cell? ⟨g, 2, none⟩ = some a2 ∧ W'.cell? ⟨h, 0, none⟩ = some (.bool bq) ∧ W'.cell? ⟨h, 1, none⟩ = some b1 ∧ W'.cell? ⟨h, 2, none⟩ = some b2) (first | exact kc4.out | exact kc5.out | exact kc6.out | exact six_far HGB.out HHB.out kc6.out | go_keep)
   (first
    | (go_at_call_of 78 (a1); (with_reducible refine (mul_nat okk _ _ _ _ _ HOK2.out HX1.out HZ1.out hn1.out hn2.out).mono ?_); rintro e w4 ⟨vm, rfl, hm, hb⟩; have HM1 := As hm; have HB4 := As (below_step HBXd.out hb); have HX24 := As (HX2.out.below hb); have HZ24 := As (HZ2.out.below hb); have hs4 := hb.size; have kc4 := As (six_below hb HCELLS.out); have HRC4 := As ((hb.block _ (heap_lt_ HRC.out)).trans HRC.out); have HOK4 := As (show ∀ k, w4.heap.size ≤ k → okk k from fun k hk => HOK2.out k (by omega)); clear hm hb hs4)
    | (go_at_call_of 78 (a2); (with_reducible refine (mul_nat okk _ _ _ _ _ HOK4.out HX24.out HZ24.out hd1.out hd2.out).mono ?_); rintro e w5 ⟨vd, rfl, hm, hb⟩; have HM2 := As hm; have HB5 := As (below_step HB4.out hb); have HM15 := As (HM1.out.below hb); have hs5 := hb.size; have kc5 := As (six_below hb kc4.out); have HRC5 := As ((hb.block _ (heap_lt_ HRC4.out)).trans HRC4.out); have HOK5 := As (show ∀ k, w5.heap.size ≤ k → okk k from fun k hk => HOK4.out k (by omega)); clear hm hb hs5)
    | (go_at_call 75; (with_reducible refine (made_any okk _ _ _ _ _ _ HOK5.out HM15.out HM2.out hdz.out hnn.out hdd.out).mono ?_); rintro e w6 ⟨vr, rfl, hr, hb⟩; have HR := As hr; have HB6 := As (below_step HB5.out hb); have kc6 := As (six_below hb kc5.out); have HRC6 := As ((hb.block _ (heap_lt_ HRC5.out)).trans HRC5.out); (obtain ⟨Ar, nr, cr, Ar', nr', cr', rfl⟩ := hr.shape); (obtain ⟨u0, u1, u2, u3, u4, u5⟩ := cells3 HRC6.out); clear hr hb))
  go_wp2
  refine bodyPost_ret (v := .agg #[.bool (decide ((rq sg (p.num.natAbs * q.num.natAbs) (p.den * q.den)).num < 0)), .slice Ar nr cr, .slice Ar' nr' cr']) (by simp [results, Tryz.results48, go_sem, u0, u1, u2]) rfl ⟨_, rfl, ?_, ?_⟩
  ·have hne : ∀ k, okk k → k ≠ w.heap.size + 2 := fun k hk => by rw [HOKK.out, HOK'.out] at hk; exact hk.1.2
   have hmo : ∀ k, okk k → ok k := fun k hk => by rw [HOKK.out, HOK'.out] at hk; exact hk.1.1
   rw [← HSG.out]
   exact (((HR.out.set hne 0 _).set hne 1 _).set hne 2 _).mono hmo
  ·exact below_set (below_set (below_set HB6.out (by omega)) (by omega)) (by omega)
/-
  The contract of Div (package rational), the divisor not 0.
-/
def RetRatB (ok : Nat → Prop) (q : Rat) (b : Bool) (w0 : World) (e : Ending) (w' : World) : Prop := ∃ v, e = .returned (.tuple #[v, .bool b]) ∧ IsCan w' ok v q ∧ Below w0.heap.size w0 w'
set_option maxRecDepth 100000 in
set_option maxHeartbeats 4000000 in
theorem div_rat (ok : Nat → Prop) (v0 v1 : Value) (p q : Rat) (j k : Nat) (w : World) (hok : ∀ k, w.heap.size ≤ k → ok k) (h0 : IsRaw w ok v0 p j) (h1 : IsRaw w ok v1 q k) (hj : j ≤ 1000000) (hk : k ≤ 1000000) (hq0 : q ≠ 0) :
  Calls Tryz.prog 82 #[v0, v1] w (RetRatB ok (p / q) true w) := by
 have HQ0 := As hq0
 clear hq0
 obtain ⟨n0, A0, m0, c0, A0', m0', c0', e0⟩ := h0.shape
 obtain ⟨n1, A1, m1, c1, A1', m1', c1', e1⟩ := h1.shape
 obtain ⟨V0, hV0⟩ : ∃ V0, V0 = Value.agg #[.bool n0, .slice A0 m0 c0, .slice A0' m0' c0'] := ⟨_, rfl⟩
 obtain ⟨V1, hV1⟩ : ∃ V1, V1 = Value.agg #[.bool n1, .slice A1 m1 c1, .slice A1' m1' c1'] := ⟨_, rfl⟩
 have HV0 := As hV0
 have HV1 := As hV1
 obtain ⟨W3, hW3⟩ : ∃ W3, ((w.alloc (.cells #[.bool n0, .slice A0 m0 c0, .slice A0' m0' c0'] 46)).alloc (.cells #[.bool n1, .slice A1 m1 c1, .slice A1' m1' c1'] 46)).alloc (.cells #[.bool false, .slice none 0 0, .slice none 0 0] 46) = W3 := ⟨_, rfl⟩
 have hsz : W3.heap.size = w.heap.size + 3 := by rw [← hW3]; simp only [size_alloc]
 have hb3 : Below w.heap.size w W3 := by rw [← hW3]; exact below_alloc (below_alloc (below_alloc (Below.refl _ _) _) _) _
 obtain ⟨ok', hok'⟩ : ∃ ok' : Nat → Prop, ok' = fun k => ok k ∧ k ≠ w.heap.size + 2 := ⟨_, rfl⟩
 have HOK' := As hok'
 have HOK := As (show ∀ k, W3.heap.size ≤ k → ok' k from fun k hk => by rw [hok']; exact ⟨hok k (by omega), by omega⟩)
 have HR0 := As (show IsRaw W3 ok' V0 p j by rw [hV0, ← e0]; exact (h0.old hb3).mono (fun k hk => by rw [hok']; exact ⟨hk.1, by have := hk.2; omega⟩))
 have HR1 := As (show IsRaw W3 ok' V1 q k by rw [hV1, ← e1]; exact (h1.old hb3).mono (fun k hk => by rw [hok']; exact ⟨hk.1, by have := hk.2; omega⟩))
 have HX := As (show Boxes W3 w.heap.size (w.heap.size + 1) n0 (.slice A0 m0 c0) (.slice A0' m0' c0') n1 (.slice A1 m1 c1) (.slice A1' m1' c1') from ⟨by omega, by
  rw [← hW3, heap_old _ (by simp only [size_alloc]; omega), heap_old _ (by simp only [size_alloc]; omega), heap_new], by omega, by
  rw [← hW3, heap_old _ (by simp only [size_alloc]; omega)]
  have := heap_new (w.alloc (.cells #[.bool n0, .slice A0 m0 c0, .slice A0' m0' c0'] 46)) (.cells #[.bool n1, .slice A1 m1 c1, .slice A1' m1' c1'] 46)
  rwa [size_alloc] at this⟩)
 have HC := As (show W3.heap[w.heap.size + 2]? = some (.cells #[.bool false, .slice none 0 0, .slice none 0 0] 46 (0, 0)) by
  rw [← hW3]
  have := heap_new ((w.alloc (.cells #[.bool n0, .slice A0 m0 c0, .slice A0' m0' c0'] 46)).alloc (.cells #[.bool n1, .slice A1 m1 c1, .slice A1' m1' c1'] 46)) (.cells #[.bool false, .slice none 0 0, .slice none 0 0] 46)
  rwa [size_alloc, size_alloc] at this)
 have HW3 := As hW3
 have HSZ := As hsz
 have HB3 := As hb3
 have HJK := As (And.intro hj hk)
 have HRS0 := As h0.rs
 have HRS1 := As h1.rs
 have HOKW := As hok
 have HK0 := As (show j ≤ 5000000 by omega)
 have HK1 := As (show k ≤ 5000000 by omega)
 subst e0 e1
 clear hV0 hV1 hW3 hsz hb3 hok' hok h0 h1 hj hk
 go_enter Tryz.func82, Tryz.ntmps82
 go_upto_region 1 with fail
 rw [HW3.out]
 go_cut [6, 7] (fun s5 s6 wx => ∃ g h : Nat, s5 = ptr g ∧ s6 = ptr h ∧ Aside0 (TwoEnd W3 ok' p q g h wx))
 case first =>
  refine region_inv (by kernel_rfl) (by kernel_rfl) (fun L a w' => ∃ (y0 y1 y2 y3 y4 y5 : Value) (g h : Nat), a = { tmps := List.toArray [.agg #[.bool n0, .slice A0 m0 c0, .slice A0' m0' c0'], .agg #[.bool n1, .slice A1 m1 c1, .slice A1' m1' c1'], ptr w.heap.size, ptr (w.heap.size + 1), ptr (w.heap.size + 2), .bool false, y4, y5, y0, y1, y2, y3, undef, undef, undef, undef, undef, undef, undef, undef, undef, undef, undef, undef, undef, undef, undef, undef, undef, undef, undef, undef, undef], defers := [] } ∧ (L 0 = true → y0 = V0) ∧ (L 2 = true → y2 = V1) ∧ TwoCan W3 ok' p q (L 1) (L 3) (L 4) (L 5) (L 6) (L 7) y1 y3 y4 y5 g h w') ?_ ?_ ?_
  ·exact ⟨undef, undef, undef, undef, undef, undef, 0, 0, rfl, by simp, by simp, TwoCan.start _ _ _ _ _ _ _ _⟩
  ·intro L a w' i hi hI h0 hdep
   obtain ⟨y0, y1, y2, y3, y4, y5, g, h, rfl, e0, e2, T⟩ := hI
   have hi' : i < 8 := hi
   have hcase : i = 0 ∨ i = 1 ∨ i = 2 ∨ i = 3 ∨ i = 4 ∨ i = 5 ∨ i = 6 ∨ i = 7 := by omega
   have HT := As T
   have k0 := cells3 ((T.below.block _ HX.out.1).trans HX.out.2.1)
   have k1 := cells3 ((T.below.block _ HX.out.2.2.1).trans HX.out.2.2.2)
   clear T hi
   rcases hcase with rfl | rfl | rfl | rfl | rfl | rfl | rfl | rfl
   ·refine op_on rfl ?_
    refine value_ (w1 := w') (v := V0) (by rfl) rfl ?_ ?_
    ·rw [HV0.out]
     go_simp
    ·exact ⟨V0, y1, y2, y3, y4, y5, g, h, rfl, fun _ => rfl, e2, HT.out⟩
   ·have d0 : L 0 = true := hdep _ rfl { on := 0, ground := .data } (by simp) rfl
    have hy0 := e0 d0
    subst hy0
    rw [h0] at HT
    refine op_on rfl ?_
    refine goes_ Tryz.func77 (by kernel_rfl) rfl #[y0] (by rfl) rfl rfl (by simp only [List.map_toArray, List.map_cons, List.map_nil]; rfl) ?_
    refine (canonical_rat _ _ p _ _ (HT.out.fresh HOK.out) (HT.out.arg HR0.out) HK0.out).mono ?_
    rintro e w1 ⟨v, rfl, hv, hb⟩
    exact ⟨v, rfl, y0, v, y2, y3, y4, y5, g, h, rfl, e0, e2, HT.out.call1 hb hv⟩
   ·refine op_on rfl ?_
    refine value_ (w1 := w') (v := V1) (by rfl) rfl ?_ ?_
    ·rw [HV1.out]
     go_simp
    ·exact ⟨y0, y1, V1, y3, y4, y5, g, h, rfl, e0, fun _ => rfl, HT.out⟩
   ·have d0 : L 2 = true := hdep _ rfl { on := 2, ground := .data } (by simp) rfl
    have hy2 := e2 d0
    subst hy2
    rw [h0] at HT
    refine op_on rfl ?_
    refine goes_ Tryz.func77 (by kernel_rfl) rfl #[y2] (by rfl) rfl rfl (by simp only [List.map_toArray, List.map_cons, List.map_nil]; rfl) ?_
    refine (canonical_rat _ _ q _ _ (HT.out.fresh HOK.out) (HT.out.arg HR1.out) HK1.out).mono ?_
    rintro e w1 ⟨v, rfl, hv, hb⟩
    exact ⟨v, rfl, y0, y1, y2, v, y4, y5, g, h, rfl, e0, e2, HT.out.call3 hb hv⟩
   ·rw [h0] at HT
    refine op_on rfl ?_
    refine value_ (w1 := w'.alloc (.cells #[.bool false, .slice none 0 0, .slice none 0 0] 46)) (v := ptr w'.heap.size) (by rfl) rfl ?_ ?_
    ·go_simp
    ·exact ⟨y0, y1, y2, y3, _, y5, w'.heap.size, h, rfl, e0, e2, HT.out.alloc4 _ _ _⟩
   ·rw [h0] at HT
    refine op_on rfl ?_
    refine value_ (w1 := w'.alloc (.cells #[.bool false, .slice none 0 0, .slice none 0 0] 46)) (v := ptr w'.heap.size) (by rfl) rfl ?_ ?_
    ·go_simp
    ·exact ⟨y0, y1, y2, y3, y4, _, g, w'.heap.size, rfl, e0, e2, HT.out.alloc5 _ _ _⟩
   ·have d1 : L 1 = true := hdep _ rfl { on := 1, ground := .data } (by simp) rfl
    have d4 : L 4 = true := hdep _ rfl { on := 4, ground := .data } (by simp) rfl
    rw [h0, d1, d4] at HT
    obtain ⟨A_, n_, c_, A2_, n2_, c2_, hsh⟩ := (HT.out.cy rfl).shape
    subst hsh
    obtain ⟨rfl, _, b0, b1, b2, hc, _⟩ := HT.out.bs rfl
    have kk := cells3 hc
    have HT2 := As (show TwoCan W3 ok' p q (L 1) (L 3) (L 4) (L 5) true (L 7) _ y3 _ y5 g h _ by rw [d1, d4]; exact HT.out.store6)
    refine op_on rfl ?_
    refine skip_ (w1 := put3 w' g (.bool (decide (p.num < 0))) (.slice A_ n_ c_) (.slice A2_ n2_ c2_)) (by rfl) rfl ?_ ?_
    rotate_left
    ·exact ⟨y0, _, y2, y3, _, y5, g, h, rfl, e0, e2, HT2.out⟩
    ·go_simp
     rfl
   ·have d1 : L 3 = true := hdep _ rfl { on := 3, ground := .data } (by simp) rfl
    have d4 : L 5 = true := hdep _ rfl { on := 5, ground := .data } (by simp) rfl
    rw [h0, d1, d4] at HT
    obtain ⟨A_, n_, c_, A2_, n2_, c2_, hsh⟩ := (HT.out.cz rfl).shape
    subst hsh
    obtain ⟨rfl, _, b0, b1, b2, hc, _⟩ := HT.out.bt rfl
    have kk := cells3 hc
    have HT2 := As (show TwoCan W3 ok' p q (L 1) (L 3) (L 4) (L 5) (L 6) true y1 _ y4 _ g h _ by rw [d1, d4]; exact HT.out.store7)
    refine op_on rfl ?_
    refine skip_ (w1 := put3 w' h (.bool (decide (q.num < 0))) (.slice A_ n_ c_) (.slice A2_ n2_ c2_)) (by rfl) rfl ?_ ?_
    rotate_left
    ·exact ⟨y0, y1, y2, _, y4, _, g, h, rfl, e0, e2, HT2.out⟩
    ·go_simp
     rfl
  ·intro L a w' hI hall
   obtain ⟨y0, y1, y2, y3, y4, y5, g, h, rfl, e0, e2, T⟩ := hI
   rw [hall 1 (by decide), hall 3 (by decide), hall 4 (by decide), hall 5 (by decide), hall 6 (by decide), hall 7 (by decide)] at T
   obtain ⟨rfl, rfl, hE⟩ := T.done
   go_wp2_with fail
   go_meet
   case rel => exact ⟨g, h, rfl, rfl, ⟨hE⟩⟩
 case rest =>
  obtain ⟨g, h, rfl, rfl, HE⟩ := hcut
  obtain ⟨hbel, hne, hgb, hhb, ⟨y, ⟨a0, a1, a2, rfl, hgc⟩, ⟨x1, x2, ey, hy1, hy2⟩⟩, ⟨z, ⟨b0, b1, b2, rfl, hhc⟩, ⟨z1, z2, ez, hz1, hz2⟩⟩⟩ := HE.out
  obtain ⟨rfl, rfl, rfl⟩ : a0 = .bool (decide (p.num < 0)) ∧ a1 = x1 ∧ a2 = x2 := by simpa using ey
  obtain ⟨rfl, rfl, rfl⟩ : b0 = .bool (decide (q.num < 0)) ∧ b1 = z1 ∧ b2 = z2 := by simpa using ez
  obtain ⟨bp, hbp⟩ : ∃ b, decide (p.num < 0) = b := ⟨_, rfl⟩
  obtain ⟨bq, hbq⟩ : ∃ b, decide (q.num < 0) = b := ⟨_, rfl⟩
  obtain ⟨sg, hsg⟩ : ∃ b, (bp != bq) = b := ⟨_, rfl⟩
  have hsg2 : (!bp == bq) = sg := by rw [← hsg]; cases bp <;> cases bq <;> rfl
  rw [hbp] at hgc
  rw [hbq] at hhc
  have HSG := As (show rq sg (p.num.natAbs * q.num.natAbs) (p.den * q.den) = p * q by rw [← hsg, ← hbp, ← hbq, ← rq_mul, rq_self, rq_self])
  have HBP := As hbp
  have HBQ := As hbq
  have HSGE := As hsg
  clear hbp hbq
  obtain ⟨okk, hokk⟩ : ∃ okk : Nat → Prop, okk = fun k => ok' k ∧ k ≠ g ∧ k ≠ h := ⟨_, rfl⟩
  rw [← hokk] at hy1 hy2 hz1 hz2
  have HOKK := As hokk
  have HBX := As (below_weaken HB3.out HB3.out.size hbel)
  have HRC := As ((hbel.block _ (heap_lt_ HC.out)).trans HC.out)
  have hgs := heap_lt_ hgc
  have hhs := heap_lt_ hhc
  have HOK2 := As (show ∀ k, wc.drew.heap.size ≤ k → okk k from fun k hk => by
   have h2 : wc.drew.heap.size = wc.heap.size := rfl
   rw [hokk]
   exact ⟨HOK.out k (by have := hbel.size; omega), by omega, by omega⟩)
  obtain ⟨s0, s1, s2, _, _, _⟩ := cells3 hgc
  obtain ⟨t0, t1, t2, _, _, _⟩ := cells3 hhc
  have HCELLS := As (And.intro s0 (And.intro s1 (And.intro s2 (And.intro t0 (And.intro t1 t2)))))
  have HX1 := As (hy1.below (below_drew1 (Below.refl wc.heap.size wc)))
  have HX2 := As (hy2.below (below_drew1 (Below.refl wc.heap.size wc)))
  have HZ1 := As (hz1.below (below_drew1 (Below.refl wc.heap.size wc)))
  have HZ2 := As (hz2.below (below_drew1 (Below.refl wc.heap.size wc)))
  have HBXd := As (below_drew1 HBX.out)
  have hj1 := pw_le (show j + 1 ≤ 10000000 by have := HJK.out; omega)
  have hk1 := pw_le (show k + 1 ≤ 10000000 by have := HJK.out; omega)
  have hn1 := As (show (p.num.natAbs : Int) < pw 10000000 by have := HRS0.out.1; omega)
  have hd1 := As (show (p.den : Int) < pw 10000000 by have := HRS0.out.2; omega)
  have hn2 := As (show (q.num.natAbs : Int) < pw 10000000 by have := HRS1.out.1; omega)
  have hd2 := As (show (q.den : Int) < pw 10000000 by have := HRS1.out.2; omega)
  have hjk := pw_le (show j + 1 + (k + 1) ≤ 10000000 by have := HJK.out; omega)
  have hnn := As (show ((p.num.natAbs * q.num.natAbs : Nat) : Int) < pw 10000000 by have := mul_lt_pw HRS0.out.1 HRS1.out.1; omega)
  have hdd := As (show ((p.den * q.den : Nat) : Int) < pw 10000000 by have := mul_lt_pw HRS0.out.2 HRS1.out.2; omega)
  have hdz := As (Nat.mul_ne_zero p.den_nz q.den_nz)
  have HGB := As (show g ≠ w.heap.size + 1 + 1 by have := HSZ.out; omega)
  have HHB := As (show h ≠ w.heap.size + 1 + 1 by have := HSZ.out; omega)
  have hnz : q.num.natAbs ≠ 0 := fun e => HQ0.out (rat_num_zero e)
  have HNZ := As hnz
  obtain ⟨lb, ⟨Ab, cb, eb, _, _⟩, hlb, hvb⟩ := hz1
  have hlbz : (lb.length == 0) = false := by
   have : lb.length ≠ 0 := fun e => hnz (by rw [nil_zero e] at hvb; omega)
   simpa using this
  subst eb
  have HDV := As (show rq sg (p.num.natAbs * q.den) (p.den * q.num.natAbs) = p / q by
   rw [← HSGE.out, ← HBP.out, ← HBQ.out, ← rq_div _ _ _ hnz p.den_nz q.den_nz, rq_self, rq_self])
  have hnn' := As (show ((p.num.natAbs * q.den : Nat) : Int) < pw 10000000 by have := mul_lt_pw HRS0.out.1 HRS1.out.2; omega)
  have hdd' := As (show ((p.den * q.num.natAbs : Nat) : Int) < pw 10000000 by have := mul_lt_pw HRS0.out.2 HRS1.out.1; omega)
  have hdz' := As (Nat.mul_ne_zero p.den_nz hnz)
  clear hy1 hy2 hz2 hbel hne hgb hhb hgc hhc ey ez hj1 hk1 hjk hokk hlb hvb hnz
  go_wp2_with fail
  go_region_held3 (fun W' => W'.cell? ⟨g, 0, none⟩ = some (.bool bp) ∧ W'.cell? ⟨g, 1, none⟩ = some a1 ∧ W'.cell? ⟨g, 2, none⟩ = some a2 ∧ W'.cell? ⟨h, 0, none⟩ = some (.bool bq) ∧ W'.cell? ⟨h, 1, none⟩ = some (.slice Ab lb.length cb) ∧ W'.cell? ⟨h, 2, none⟩ = some b2) (first | exact kc4.out | exact kc5.out | exact kc6.out | exact six_far HGB.out HHB.out kc6.out | go_keep)
   (first
    | (go_at_call_of 78 (a1); (with_reducible refine (mul_nat okk _ _ _ _ _ HOK2.out HX1.out HZ2.out hn1.out hd2.out).mono ?_); rintro e w4 ⟨vm, rfl, hm, hb⟩; have HM1 := As hm; have HB4 := As (below_step HBXd.out hb); have HX24 := As (HX2.out.below hb); have HZ14 := As (HZ1.out.below hb); have hs4 := hb.size; have kc4 := As (six_below hb HCELLS.out); have HRC4 := As ((hb.block _ (heap_lt_ HRC.out)).trans HRC.out); have HOK4 := As (show ∀ k, w4.heap.size ≤ k → okk k from fun k hk => HOK2.out k (by omega)); clear hm hb hs4)
    | (go_at_call_of 78 (a2); (with_reducible refine (mul_nat okk _ _ _ _ _ HOK4.out HX24.out HZ14.out hd1.out hn2.out).mono ?_); rintro e w5 ⟨vd, rfl, hm, hb⟩; have HM2 := As hm; have HB5 := As (below_step HB4.out hb); have HM15 := As (HM1.out.below hb); have hs5 := hb.size; have kc5 := As (six_below hb kc4.out); have HRC5 := As ((hb.block _ (heap_lt_ HRC4.out)).trans HRC4.out); have HOK5 := As (show ∀ k, w5.heap.size ≤ k → okk k from fun k hk => HOK4.out k (by omega)); clear hm hb hs5)
    | (go_at_call 75; (with_reducible refine (made_any okk _ _ _ _ _ _ HOK5.out HM15.out HM2.out hdz'.out hnn'.out hdd'.out).mono ?_); rintro e w6 ⟨vr, rfl, hr, hb⟩; have HR := As hr; have HB6 := As (below_step HB5.out hb); have kc6 := As (six_below hb kc5.out); have HRC6 := As ((hb.block _ (heap_lt_ HRC5.out)).trans HRC5.out); (obtain ⟨Ar, nr, cr, Ar', nr', cr', rfl⟩ := hr.shape); (obtain ⟨u0, u1, u2, u3, u4, u5⟩ := cells3 HRC6.out); clear hr hb))
  go_wp2
  refine bodyPost_ret (v := .tuple #[.agg #[.bool (decide ((rq sg (p.num.natAbs * q.den) (p.den * q.num.natAbs)).num < 0)), .slice Ar nr cr, .slice Ar' nr' cr'], .bool true]) (by simp [results, Tryz.results82, go_sem, u0, u1, u2]) rfl ⟨_, rfl, ?_, ?_⟩
  ·have hne : ∀ k, okk k → k ≠ w.heap.size + 2 := fun k hk => by rw [HOKK.out, HOK'.out] at hk; exact hk.1.2
   have hmo : ∀ k, okk k → ok k := fun k hk => by rw [HOKK.out, HOK'.out] at hk; exact hk.1.1
   rw [← HDV.out]
   exact (((HR.out.set hne 0 _).set hne 1 _).set hne 2 _).mono hmo
  ·exact below_set (below_set (below_set HB6.out (by omega)) (by omega)) (by omega)
/-
  The contract of Add (package rational).
-/
set_option maxRecDepth 100000 in
set_option maxHeartbeats 4000000 in
theorem add_rat (ok : Nat → Prop) (v0 v1 : Value) (p q : Rat) (j k : Nat) (w : World) (hok : ∀ k, w.heap.size ≤ k → ok k) (h0 : IsRaw w ok v0 p j) (h1 : IsRaw w ok v1 q k) (hj : j ≤ 1000000) (hk : k ≤ 1000000) :
  Calls Tryz.prog 47 #[v0, v1] w (RetRat ok (p + q) w) := by
 obtain ⟨n0, A0, m0, c0, A0', m0', c0', e0⟩ := h0.shape
 obtain ⟨n1, A1, m1, c1, A1', m1', c1', e1⟩ := h1.shape
 obtain ⟨V0, hV0⟩ : ∃ V0, V0 = Value.agg #[.bool n0, .slice A0 m0 c0, .slice A0' m0' c0'] := ⟨_, rfl⟩
 obtain ⟨V1, hV1⟩ : ∃ V1, V1 = Value.agg #[.bool n1, .slice A1 m1 c1, .slice A1' m1' c1'] := ⟨_, rfl⟩
 have HV0 := As hV0
 have HV1 := As hV1
 obtain ⟨W3, hW3⟩ : ∃ W3, ((w.alloc (.cells #[.bool n0, .slice A0 m0 c0, .slice A0' m0' c0'] 46)).alloc (.cells #[.bool n1, .slice A1 m1 c1, .slice A1' m1' c1'] 46)).alloc (.cells #[.bool false, .slice none 0 0, .slice none 0 0] 46) = W3 := ⟨_, rfl⟩
 have hsz : W3.heap.size = w.heap.size + 3 := by rw [← hW3]; simp only [size_alloc]
 have hb3 : Below w.heap.size w W3 := by rw [← hW3]; exact below_alloc (below_alloc (below_alloc (Below.refl _ _) _) _) _
 obtain ⟨ok', hok'⟩ : ∃ ok' : Nat → Prop, ok' = fun k => ok k ∧ k ≠ w.heap.size + 2 := ⟨_, rfl⟩
 have HOK' := As hok'
 have HOK := As (show ∀ k, W3.heap.size ≤ k → ok' k from fun k hk => by rw [hok']; exact ⟨hok k (by omega), by omega⟩)
 have HR0 := As (show IsRaw W3 ok' V0 p j by rw [hV0, ← e0]; exact (h0.old hb3).mono (fun k hk => by rw [hok']; exact ⟨hk.1, by have := hk.2; omega⟩))
 have HR1 := As (show IsRaw W3 ok' V1 q k by rw [hV1, ← e1]; exact (h1.old hb3).mono (fun k hk => by rw [hok']; exact ⟨hk.1, by have := hk.2; omega⟩))
 have HX := As (show Boxes W3 w.heap.size (w.heap.size + 1) n0 (.slice A0 m0 c0) (.slice A0' m0' c0') n1 (.slice A1 m1 c1) (.slice A1' m1' c1') from ⟨by omega, by
  rw [← hW3, heap_old _ (by simp only [size_alloc]; omega), heap_old _ (by simp only [size_alloc]; omega), heap_new], by omega, by
  rw [← hW3, heap_old _ (by simp only [size_alloc]; omega)]
  have := heap_new (w.alloc (.cells #[.bool n0, .slice A0 m0 c0, .slice A0' m0' c0'] 46)) (.cells #[.bool n1, .slice A1 m1 c1, .slice A1' m1' c1'] 46)
  rwa [size_alloc] at this⟩)
 have HC := As (show W3.heap[w.heap.size + 2]? = some (.cells #[.bool false, .slice none 0 0, .slice none 0 0] 46 (0, 0)) by
  rw [← hW3]
  have := heap_new ((w.alloc (.cells #[.bool n0, .slice A0 m0 c0, .slice A0' m0' c0'] 46)).alloc (.cells #[.bool n1, .slice A1 m1 c1, .slice A1' m1' c1'] 46)) (.cells #[.bool false, .slice none 0 0, .slice none 0 0] 46)
  rwa [size_alloc, size_alloc] at this)
 have HW3 := As hW3
 have HSZ := As hsz
 have HB3 := As hb3
 have HJK := As (And.intro hj hk)
 have HRS0 := As h0.rs
 have HRS1 := As h1.rs
 have HOKW := As hok
 have HK0 := As (show j ≤ 5000000 by omega)
 have HK1 := As (show k ≤ 5000000 by omega)
 subst e0 e1
 clear hV0 hV1 hW3 hsz hb3 hok' hok h0 h1 hj hk
 go_enter Tryz.func47, Tryz.ntmps47
 go_upto_region 1 with fail
 rw [HW3.out]
 go_cut [5, 6] (fun s5 s6 wx => ∃ g h : Nat, s5 = ptr g ∧ s6 = ptr h ∧ Aside0 (TwoEnd W3 ok' p q g h wx))
 case first =>
  refine region_inv (by kernel_rfl) (by kernel_rfl) (fun L a w' => ∃ (y0 y1 y2 y3 y4 y5 : Value) (g h : Nat), a = { tmps := List.toArray [.agg #[.bool n0, .slice A0 m0 c0, .slice A0' m0' c0'], .agg #[.bool n1, .slice A1 m1 c1, .slice A1' m1' c1'], ptr w.heap.size, ptr (w.heap.size + 1), ptr (w.heap.size + 2), y4, y5, undef, undef, undef, y0, y1, y2, y3, undef, undef, undef, undef, undef, undef, undef, undef, undef, undef, undef, undef, undef, undef, undef, undef, undef, undef, undef, undef, undef, undef, undef, undef, undef, undef, undef, undef, undef, undef, undef, undef, undef, undef, undef, undef, undef, undef, undef, undef, undef, undef, undef, undef, undef], defers := [] } ∧ (L 0 = true → y0 = V0) ∧ (L 2 = true → y2 = V1) ∧ TwoCan W3 ok' p q (L 1) (L 3) (L 4) (L 5) (L 6) (L 7) y1 y3 y4 y5 g h w') ?_ ?_ ?_
  ·exact ⟨undef, undef, undef, undef, undef, undef, 0, 0, rfl, by simp, by simp, TwoCan.start _ _ _ _ _ _ _ _⟩
  ·intro L a w' i hi hI h0 hdep
   obtain ⟨y0, y1, y2, y3, y4, y5, g, h, rfl, e0, e2, T⟩ := hI
   have hi' : i < 8 := hi
   have hcase : i = 0 ∨ i = 1 ∨ i = 2 ∨ i = 3 ∨ i = 4 ∨ i = 5 ∨ i = 6 ∨ i = 7 := by omega
   have HT := As T
   have k0 := cells3 ((T.below.block _ HX.out.1).trans HX.out.2.1)
   have k1 := cells3 ((T.below.block _ HX.out.2.2.1).trans HX.out.2.2.2)
   clear T hi
   rcases hcase with rfl | rfl | rfl | rfl | rfl | rfl | rfl | rfl
   ·refine op_on rfl ?_
    refine value_ (w1 := w') (v := V0) (by rfl) rfl ?_ ?_
    ·rw [HV0.out]
     go_simp
    ·exact ⟨V0, y1, y2, y3, y4, y5, g, h, rfl, fun _ => rfl, e2, HT.out⟩
   ·have d0 : L 0 = true := hdep _ rfl { on := 0, ground := .data } (by simp) rfl
    have hy0 := e0 d0
    subst hy0
    rw [h0] at HT
    refine op_on rfl ?_
    refine goes_ Tryz.func77 (by kernel_rfl) rfl #[y0] (by rfl) rfl rfl (by simp only [List.map_toArray, List.map_cons, List.map_nil]; rfl) ?_
    refine (canonical_rat _ _ p _ _ (HT.out.fresh HOK.out) (HT.out.arg HR0.out) HK0.out).mono ?_
    rintro e w1 ⟨v, rfl, hv, hb⟩
    exact ⟨v, rfl, y0, v, y2, y3, y4, y5, g, h, rfl, e0, e2, HT.out.call1 hb hv⟩
   ·refine op_on rfl ?_
    refine value_ (w1 := w') (v := V1) (by rfl) rfl ?_ ?_
    ·rw [HV1.out]
     go_simp
    ·exact ⟨y0, y1, V1, y3, y4, y5, g, h, rfl, e0, fun _ => rfl, HT.out⟩
   ·have d0 : L 2 = true := hdep _ rfl { on := 2, ground := .data } (by simp) rfl
    have hy2 := e2 d0
    subst hy2
    rw [h0] at HT
    refine op_on rfl ?_
    refine goes_ Tryz.func77 (by kernel_rfl) rfl #[y2] (by rfl) rfl rfl (by simp only [List.map_toArray, List.map_cons, List.map_nil]; rfl) ?_
    refine (canonical_rat _ _ q _ _ (HT.out.fresh HOK.out) (HT.out.arg HR1.out) HK1.out).mono ?_
    rintro e w1 ⟨v, rfl, hv, hb⟩
    exact ⟨v, rfl, y0, y1, y2, v, y4, y5, g, h, rfl, e0, e2, HT.out.call3 hb hv⟩
   ·rw [h0] at HT
    refine op_on rfl ?_
    refine value_ (w1 := w'.alloc (.cells #[.bool false, .slice none 0 0, .slice none 0 0] 46)) (v := ptr w'.heap.size) (by rfl) rfl ?_ ?_
    ·go_simp
    ·exact ⟨y0, y1, y2, y3, _, y5, w'.heap.size, h, rfl, e0, e2, HT.out.alloc4 _ _ _⟩
   ·rw [h0] at HT
    refine op_on rfl ?_
    refine value_ (w1 := w'.alloc (.cells #[.bool false, .slice none 0 0, .slice none 0 0] 46)) (v := ptr w'.heap.size) (by rfl) rfl ?_ ?_
    ·go_simp
    ·exact ⟨y0, y1, y2, y3, y4, _, g, w'.heap.size, rfl, e0, e2, HT.out.alloc5 _ _ _⟩
   ·have d1 : L 1 = true := hdep _ rfl { on := 1, ground := .data } (by simp) rfl
    have d4 : L 4 = true := hdep _ rfl { on := 4, ground := .data } (by simp) rfl
    rw [h0, d1, d4] at HT
    obtain ⟨A_, n_, c_, A2_, n2_, c2_, hsh⟩ := (HT.out.cy rfl).shape
    subst hsh
    obtain ⟨rfl, _, b0, b1, b2, hc, _⟩ := HT.out.bs rfl
    have kk := cells3 hc
    have HT2 := As (show TwoCan W3 ok' p q (L 1) (L 3) (L 4) (L 5) true (L 7) _ y3 _ y5 g h _ by rw [d1, d4]; exact HT.out.store6)
    refine op_on rfl ?_
    refine skip_ (w1 := put3 w' g (.bool (decide (p.num < 0))) (.slice A_ n_ c_) (.slice A2_ n2_ c2_)) (by rfl) rfl ?_ ?_
    rotate_left
    ·exact ⟨y0, _, y2, y3, _, y5, g, h, rfl, e0, e2, HT2.out⟩
    ·go_simp
     rfl
   ·have d1 : L 3 = true := hdep _ rfl { on := 3, ground := .data } (by simp) rfl
    have d4 : L 5 = true := hdep _ rfl { on := 5, ground := .data } (by simp) rfl
    rw [h0, d1, d4] at HT
    obtain ⟨A_, n_, c_, A2_, n2_, c2_, hsh⟩ := (HT.out.cz rfl).shape
    subst hsh
    obtain ⟨rfl, _, b0, b1, b2, hc, _⟩ := HT.out.bt rfl
    have kk := cells3 hc
    have HT2 := As (show TwoCan W3 ok' p q (L 1) (L 3) (L 4) (L 5) (L 6) true y1 _ y4 _ g h _ by rw [d1, d4]; exact HT.out.store7)
    refine op_on rfl ?_
    refine skip_ (w1 := put3 w' h (.bool (decide (q.num < 0))) (.slice A_ n_ c_) (.slice A2_ n2_ c2_)) (by rfl) rfl ?_ ?_
    rotate_left
    ·exact ⟨y0, y1, y2, _, y4, _, g, h, rfl, e0, e2, HT2.out⟩
    ·go_simp
     rfl
  ·intro L a w' hI hall
   obtain ⟨y0, y1, y2, y3, y4, y5, g, h, rfl, e0, e2, T⟩ := hI
   rw [hall 1 (by decide), hall 3 (by decide), hall 4 (by decide), hall 5 (by decide), hall 6 (by decide), hall 7 (by decide)] at T
   obtain ⟨rfl, rfl, hE⟩ := T.done
   go_wp2_with fail
   go_meet
   case rel => exact ⟨g, h, rfl, rfl, ⟨hE⟩⟩
 case rest =>
  obtain ⟨g, h, rfl, rfl, HE⟩ := hcut
  obtain ⟨hbel, hne, hgb, hhb, ⟨y, ⟨a0, a1, a2, rfl, hgc⟩, ⟨x1, x2, ey, hy1, hy2⟩⟩, ⟨z, ⟨b0, b1, b2, rfl, hhc⟩, ⟨z1, z2, ez, hz1, hz2⟩⟩⟩ := HE.out
  obtain ⟨rfl, rfl, rfl⟩ : a0 = .bool (decide (p.num < 0)) ∧ a1 = x1 ∧ a2 = x2 := by simpa using ey
  obtain ⟨rfl, rfl, rfl⟩ : b0 = .bool (decide (q.num < 0)) ∧ b1 = z1 ∧ b2 = z2 := by simpa using ez
  obtain ⟨bp, hbp⟩ : ∃ b, decide (p.num < 0) = b := ⟨_, rfl⟩
  obtain ⟨bq, hbq⟩ : ∃ b, decide (q.num < 0) = b := ⟨_, rfl⟩
  obtain ⟨sg, hsg⟩ : ∃ b, (bp != bq) = b := ⟨_, rfl⟩
  have hsg2 : (!bp == bq) = sg := by rw [← hsg]; cases bp <;> cases bq <;> rfl
  rw [hbp] at hgc
  rw [hbq] at hhc
  have HSG := As (show rq sg (p.num.natAbs * q.num.natAbs) (p.den * q.den) = p * q by rw [← hsg, ← hbp, ← hbq, ← rq_mul, rq_self, rq_self])
  have HBP := As hbp
  have HBQ := As hbq
  have HSGE := As hsg
  clear hbp hbq
  obtain ⟨okk, hokk⟩ : ∃ okk : Nat → Prop, okk = fun k => ok' k ∧ k ≠ g ∧ k ≠ h := ⟨_, rfl⟩
  rw [← hokk] at hy1 hy2 hz1 hz2
  have HOKK := As hokk
  have HBX := As (below_weaken HB3.out HB3.out.size hbel)
  have HRC := As ((hbel.block _ (heap_lt_ HC.out)).trans HC.out)
  have hgs := heap_lt_ hgc
  have hhs := heap_lt_ hhc
  have HOK2 := As (show ∀ k, wc.drew.heap.size ≤ k → okk k from fun k hk => by
   have h2 : wc.drew.heap.size = wc.heap.size := rfl
   rw [hokk]
   exact ⟨HOK.out k (by have := hbel.size; omega), by omega, by omega⟩)
  obtain ⟨s0, s1, s2, _, _, _⟩ := cells3 hgc
  obtain ⟨t0, t1, t2, _, _, _⟩ := cells3 hhc
  have HCELLS := As (And.intro s0 (And.intro s1 (And.intro s2 (And.intro t0 (And.intro t1 t2)))))
  have HX1 := As (hy1.below (below_drew1 (Below.refl wc.heap.size wc)))
  have HX2 := As (hy2.below (below_drew1 (Below.refl wc.heap.size wc)))
  have HZ1 := As (hz1.below (below_drew1 (Below.refl wc.heap.size wc)))
  have HZ2 := As (hz2.below (below_drew1 (Below.refl wc.heap.size wc)))
  have HBXd := As (below_drew1 HBX.out)
  have hj1 := pw_le (show j + 1 ≤ 10000000 by have := HJK.out; omega)
  have hk1 := pw_le (show k + 1 ≤ 10000000 by have := HJK.out; omega)
  have hn1 := As (show (p.num.natAbs : Int) < pw 10000000 by have := HRS0.out.1; omega)
  have hd1 := As (show (p.den : Int) < pw 10000000 by have := HRS0.out.2; omega)
  have hn2 := As (show (q.num.natAbs : Int) < pw 10000000 by have := HRS1.out.1; omega)
  have hd2 := As (show (q.den : Int) < pw 10000000 by have := HRS1.out.2; omega)
  have hjk := pw_le (show j + 1 + (k + 1) ≤ 10000000 by have := HJK.out; omega)
  have hnn := As (show ((p.num.natAbs * q.num.natAbs : Nat) : Int) < pw 10000000 by have := mul_lt_pw HRS0.out.1 HRS1.out.1; omega)
  have hdd := As (show ((p.den * q.den : Nat) : Int) < pw 10000000 by have := mul_lt_pw HRS0.out.2 HRS1.out.2; omega)
  have hdz := As (Nat.mul_ne_zero p.den_nz q.den_nz)
  have HGB := As (show g ≠ w.heap.size + 1 + 1 by have := HSZ.out; omega)
  have HHB := As (show h ≠ w.heap.size + 1 + 1 by have := HSZ.out; omega)
  have hp1 := As (show ((p.num.natAbs * q.den : Nat) : Int) < pw 10000000 by have := mul_lt_pw HRS0.out.1 HRS1.out.2; omega)
  have hp2 := As (show ((q.num.natAbs * p.den : Nat) : Int) < pw 10000000 by have := mul_lt_pw HRS1.out.1 HRS0.out.2; rw [Nat.add_comm] at this; omega)
  have hsum := As (show ((p.num.natAbs * q.den + q.num.natAbs * p.den : Nat) : Int) < pw 10000000 by
   have h1 := mul_lt_pw HRS0.out.1 HRS1.out.2
   have h2 := mul_lt_pw HRS1.out.1 HRS0.out.2
   rw [Nat.add_comm] at h2
   have h3 := add_lt_pw h1 h2
   have h4 := pw_le (show j + 1 + (k + 1) + 1 ≤ 10000000 by have := HJK.out; omega)
   omega)
  clear hy1 hy2 hz1 hz2 hbel hne hgb hhb hgc hhc ey ez hj1 hk1 hjk hokk
  go_wp2_with fail
  go_region_held3 (fun W' => W'.cell? ⟨g, 0, none⟩ = some (.bool bp) ∧ W'.cell? ⟨g, 1, none⟩ = some a1 ∧ W'.cell? ⟨g, 2, none⟩ = some a2 ∧ W'.cell? ⟨h, 0, none⟩ = some (.bool bq) ∧ W'.cell? ⟨h, 1, none⟩ = some b1 ∧ W'.cell? ⟨h, 2, none⟩ = some b2) (first | exact kc4.out | exact kc5.out | exact kc6.out | go_keep)
   (first
    | (go_at_call_of 78 (a1); (with_reducible refine (mul_nat okk _ _ _ _ _ HOK2.out HX1.out HZ2.out hn1.out hd2.out).mono ?_); rintro e w4 ⟨vm, rfl, hm, hb⟩; have HM1 := As hm; have HB4 := As (below_step HBXd.out hb); have HX24 := As (HX2.out.below hb); have HZ14 := As (HZ1.out.below hb); have HZ24 := As (HZ2.out.below hb); have kc4 := As (six_below hb HCELLS.out); have HRC4 := As ((hb.block _ (heap_lt_ HRC.out)).trans HRC.out); have HOK4 := As (show ∀ k, w4.heap.size ≤ k → okk k from fun k hk => HOK2.out k (Nat.le_trans hb.size hk)); clear hm hb)
    | (go_at_call_of 78 (b1); (with_reducible refine (mul_nat okk _ _ _ _ _ HOK4.out HZ14.out HX24.out hn2.out hd1.out).mono ?_); rintro e w5 ⟨vn, rfl, hm, hb⟩; have HM2 := As hm; have HB5 := As (below_step HB4.out hb); have HM15 := As (HM1.out.below hb); have HX25 := As (HX24.out.below hb); have HZ25 := As (HZ24.out.below hb); have kc5 := As (six_below hb kc4.out); have HRC5 := As ((hb.block _ (heap_lt_ HRC4.out)).trans HRC4.out); have HOK5 := As (show ∀ k, w5.heap.size ≤ k → okk k from fun k hk => HOK4.out k (Nat.le_trans hb.size hk)); clear hm hb)
    | (go_at_call_of 78 (a2); (with_reducible refine (mul_nat okk _ _ _ _ _ HOK5.out HX25.out HZ25.out hd1.out hd2.out).mono ?_); rintro e w6 ⟨vd, rfl, hm, hb⟩; have HM3 := As hm; have HB6 := As (below_step HB5.out hb); have HM16 := As (HM15.out.below hb); have HM26 := As (HM2.out.below hb); have kc6 := As (six_below hb kc5.out); have HRC6 := As ((hb.block _ (heap_lt_ HRC5.out)).trans HRC5.out); have HOK6 := As (show ∀ k, w6.heap.size ≤ k → okk k from fun k hk => HOK5.out k (Nat.le_trans hb.size hk)); clear hm hb))
  have k60 := kc6.out.1
  have k63 := kc6.out.2.2.2.1
  by_cases hbb : bp = bq
  ·have hbe : (bp == bq) = true := by simpa using hbb
   have HEQ := As (show rq bp (p.num.natAbs * q.den + q.num.natAbs * p.den) (p.den * q.den) = p + q by
    have h1 := rq_self p
    have h2 := rq_self q
    rw [HBP.out] at h1
    rw [HBQ.out, ← hbb] at h2
    rw [← rq_add_same bp _ _ p.den_nz q.den_nz, h1, h2])
   have HM1dd := As (HM16.out.below (below_drew1 (Below.refl w6.heap.size w6)))
   have HM2dd := As (HM26.out.below (below_drew1 (Below.refl w6.heap.size w6)))
   have HDdd := As (HM3.out.below (below_drew1 (Below.refl w6.heap.size w6)))
   have HBdd := As (below_drew1 HB6.out)
   have kcdd := As (six_below (below_drew1 (Below.refl w6.heap.size w6)) kc6.out)
   have HRCdd := As (show w6.drew.heap[w.heap.size + 2]? = _ from HRC6.out)
   have HOKdd := As (show ∀ k, w6.drew.heap.size ≤ k → okk k from HOK6.out)
   have hnsm := hsum
   clear hbb
   go_wp2_with fail
   go_region_held3 (fun W' => W'.cell? ⟨g, 0, none⟩ = some (.bool bp) ∧ W'.cell? ⟨g, 1, none⟩ = some a1 ∧ W'.cell? ⟨g, 2, none⟩ = some a2 ∧ W'.cell? ⟨h, 0, none⟩ = some (.bool bq) ∧ W'.cell? ⟨h, 1, none⟩ = some b1 ∧ W'.cell? ⟨h, 2, none⟩ = some b2) (first | exact kcdd.out | exact kc8.out | exact kc9.out | exact six_far HGB.out HHB.out kc9.out | go_keep)
    (first
     | (go_at_call 79; (with_reducible refine (add_nat okk _ _ _ _ _ HOKdd.out HM1dd.out HM2dd.out hp1.out hp2.out).mono ?_); rintro e w8 ⟨vs, rfl, hm, hb⟩; have HS8 := As hm; have HB8 := As (below_step HBdd.out hb); have HD8 := As (HDdd.out.below hb); have hs8 := hb.size; have kc8 := As (six_below hb kcdd.out); have HRC8 := As ((hb.block _ (heap_lt_ HRCdd.out)).trans HRCdd.out); have HOK8 := As (show ∀ k, w8.heap.size ≤ k → okk k from fun k hk => HOKdd.out k (by omega)); clear hm hb hs8)
     | (go_at_call 75; (with_reducible refine (made_any okk _ _ _ _ _ _ HOK8.out HS8.out HD8.out hdz.out hnsm.out hdd.out).mono ?_); rintro e w9 ⟨vr, rfl, hr, hb⟩; have HR := As hr; have HB9 := As (below_step HB8.out hb); have kc9 := As (six_below hb kc8.out); have HRC9 := As ((hb.block _ (heap_lt_ HRC8.out)).trans HRC8.out); (obtain ⟨Ar, nr, cr, Ar', nr', cr', rfl⟩ := hr.shape); (obtain ⟨u0, u1, u2, u3, u4, u5⟩ := cells3 HRC9.out); clear hr hb))
   go_wp2
   refine bodyPost_ret (v := .agg #[.bool (decide ((rq bp (p.num.natAbs * q.den + q.num.natAbs * p.den) (p.den * q.den)).num < 0)), .slice Ar nr cr, .slice Ar' nr' cr']) (by simp [results, Tryz.results47, go_sem, u0, u1, u2]) rfl ⟨_, rfl, ?_, ?_⟩
   ·have hne : ∀ k, okk k → k ≠ w.heap.size + 2 := fun k hk => by rw [HOKK.out, HOK'.out] at hk; exact hk.1.2
    have hmo : ∀ k, okk k → ok k := fun k hk => by rw [HOKK.out, HOK'.out] at hk; exact hk.1.1
    rw [← HEQ.out]
    exact (((HR.out.set hne 0 _).set hne 1 _).set hne 2 _).mono hmo
   ·exact below_set (below_set (below_set HB9.out (by omega)) (by omega)) (by omega)
  ·have hbe : (bp == bq) = false := by simpa using hbb
   have HBB := As hbb
   clear hbb
   by_cases hcm : q.num.natAbs * p.den ≤ p.num.natAbs * q.den
   ·have hcc : decide (0 ≤ cmpI (p.num.natAbs * q.den) (q.num.natAbs * p.den)) = true := by
     rcases Nat.lt_or_ge (q.num.natAbs * p.den) (p.num.natAbs * q.den) with h | h
     ·rw [cmpI_gt h]; rfl
     ·rw [cmpI_eq (by omega)]; rfl
    have HEQ := As (show rq bp (p.num.natAbs * q.den - q.num.natAbs * p.den) (p.den * q.den) = p + q by
     have h1 := rq_self p
     have h2 := rq_self q
     rw [HBP.out] at h1
     rw [HBQ.out] at h2
     rw [← rq_add_ge bp bq _ _ p.den_nz q.den_nz HBB.out hcm, h1, h2])
    have hnsm := As (show ((p.num.natAbs * q.den - q.num.natAbs * p.den : Nat) : Int) < pw 10000000 by have := hp1.out; omega)
    have HCM := As hcm
    clear hcm
    go_wp2_with fail
    with_reducible refine (cmp_nat okk _ _ _ _ _ HM16.out HM26.out).mono ?_
    rintro e w7 ⟨rfl, hb⟩
    have hk60 := pw_cell_below hb k60
    have hk63 := pw_cell_below hb k63
    have HM1dd := As ((HM16.out.below hb).below (below_drew1 (Below.refl w7.heap.size w7)))
    have HM2dd := As ((HM26.out.below hb).below (below_drew1 (Below.refl w7.heap.size w7)))
    have HDdd := As ((HM3.out.below hb).below (below_drew1 (Below.refl w7.heap.size w7)))
    have HBdd := As (below_drew1 (below_step HB6.out hb))
    have kcdd := As (six_below (below_drew1 (Below.refl w7.heap.size w7)) (six_below hb kc6.out))
    have HRCdd := As (show w7.drew.heap[w.heap.size + 2]? = _ from (hb.block _ (heap_lt_ HRC6.out)).trans HRC6.out)
    have HOKdd := As (show ∀ k, w7.drew.heap.size ≤ k → okk k from fun k hk => HOK6.out k (Nat.le_trans hb.size hk))
    clear hb
    go_wp2_with fail
    go_region_held3 (fun W' => W'.cell? ⟨g, 0, none⟩ = some (.bool bp) ∧ W'.cell? ⟨g, 1, none⟩ = some a1 ∧ W'.cell? ⟨g, 2, none⟩ = some a2 ∧ W'.cell? ⟨h, 0, none⟩ = some (.bool bq) ∧ W'.cell? ⟨h, 1, none⟩ = some b1 ∧ W'.cell? ⟨h, 2, none⟩ = some b2) (first | exact kcdd.out | exact kc8.out | exact kc9.out | exact six_far HGB.out HHB.out kc9.out | go_keep)
     (first
      | (go_at_call 81; (with_reducible refine (sub_nat okk _ _ _ _ _ HOKdd.out HM1dd.out HM2dd.out HCM.out hp1.out).mono ?_); rintro e w8 ⟨vs, rfl, hm, hb⟩; have HS8 := As hm; have HB8 := As (below_step HBdd.out hb); have HD8 := As (HDdd.out.below hb); have hs8 := hb.size; have kc8 := As (six_below hb kcdd.out); have HRC8 := As ((hb.block _ (heap_lt_ HRCdd.out)).trans HRCdd.out); have HOK8 := As (show ∀ k, w8.heap.size ≤ k → okk k from fun k hk => HOKdd.out k (by omega)); clear hm hb hs8)
      | (go_at_call 75; (with_reducible refine (made_any okk _ _ _ _ _ _ HOK8.out HS8.out HD8.out hdz.out hnsm.out hdd.out).mono ?_); rintro e w9 ⟨vr, rfl, hr, hb⟩; have HR := As hr; have HB9 := As (below_step HB8.out hb); have kc9 := As (six_below hb kc8.out); have HRC9 := As ((hb.block _ (heap_lt_ HRC8.out)).trans HRC8.out); (obtain ⟨Ar, nr, cr, Ar', nr', cr', rfl⟩ := hr.shape); (obtain ⟨u0, u1, u2, u3, u4, u5⟩ := cells3 HRC9.out); clear hr hb))
    go_wp2
    refine bodyPost_ret (v := .agg #[.bool (decide ((rq bp (p.num.natAbs * q.den - q.num.natAbs * p.den) (p.den * q.den)).num < 0)), .slice Ar nr cr, .slice Ar' nr' cr']) (by simp [results, Tryz.results47, go_sem, u0, u1, u2]) rfl ⟨_, rfl, ?_, ?_⟩
    ·have hne : ∀ k, okk k → k ≠ w.heap.size + 2 := fun k hk => by rw [HOKK.out, HOK'.out] at hk; exact hk.1.2
     have hmo : ∀ k, okk k → ok k := fun k hk => by rw [HOKK.out, HOK'.out] at hk; exact hk.1.1
     rw [← HEQ.out]
     exact (((HR.out.set hne 0 _).set hne 1 _).set hne 2 _).mono hmo
    ·exact below_set (below_set (below_set HB9.out (by omega)) (by omega)) (by omega)
   ·have hcc : decide (0 ≤ cmpI (p.num.natAbs * q.den) (q.num.natAbs * p.den)) = false := by
     rw [cmpI_lt (by omega)]; rfl
    have HEQ := As (show rq bq (q.num.natAbs * p.den - p.num.natAbs * q.den) (p.den * q.den) = p + q by
     have h1 := rq_self p
     have h2 := rq_self q
     rw [HBP.out] at h1
     rw [HBQ.out] at h2
     rw [← rq_add_lt bp bq _ _ p.den_nz q.den_nz HBB.out (by omega), h1, h2])
    have hnsm := As (show ((q.num.natAbs * p.den - p.num.natAbs * q.den : Nat) : Int) < pw 10000000 by have := hp2.out; omega)
    have HCM := As (show p.num.natAbs * q.den ≤ q.num.natAbs * p.den by omega)
    clear hcm
    go_wp2_with fail
    with_reducible refine (cmp_nat okk _ _ _ _ _ HM16.out HM26.out).mono ?_
    rintro e w7 ⟨rfl, hb⟩
    have hk60 := pw_cell_below hb k60
    have hk63 := pw_cell_below hb k63
    have HM1dd := As ((HM16.out.below hb).below (below_drew1 (Below.refl w7.heap.size w7)))
    have HM2dd := As ((HM26.out.below hb).below (below_drew1 (Below.refl w7.heap.size w7)))
    have HDdd := As ((HM3.out.below hb).below (below_drew1 (Below.refl w7.heap.size w7)))
    have HBdd := As (below_drew1 (below_step HB6.out hb))
    have kcdd := As (six_below (below_drew1 (Below.refl w7.heap.size w7)) (six_below hb kc6.out))
    have HRCdd := As (show w7.drew.heap[w.heap.size + 2]? = _ from (hb.block _ (heap_lt_ HRC6.out)).trans HRC6.out)
    have HOKdd := As (show ∀ k, w7.drew.heap.size ≤ k → okk k from fun k hk => HOK6.out k (Nat.le_trans hb.size hk))
    clear hb
    go_wp2_with fail
    go_region_held3 (fun W' => W'.cell? ⟨g, 0, none⟩ = some (.bool bp) ∧ W'.cell? ⟨g, 1, none⟩ = some a1 ∧ W'.cell? ⟨g, 2, none⟩ = some a2 ∧ W'.cell? ⟨h, 0, none⟩ = some (.bool bq) ∧ W'.cell? ⟨h, 1, none⟩ = some b1 ∧ W'.cell? ⟨h, 2, none⟩ = some b2) (first | exact kcdd.out | exact kc8.out | exact kc9.out | exact six_far HGB.out HHB.out kc9.out | go_keep)
     (first
      | (go_at_call 81; (with_reducible refine (sub_nat okk _ _ _ _ _ HOKdd.out HM2dd.out HM1dd.out HCM.out hp2.out).mono ?_); rintro e w8 ⟨vs, rfl, hm, hb⟩; have HS8 := As hm; have HB8 := As (below_step HBdd.out hb); have HD8 := As (HDdd.out.below hb); have hs8 := hb.size; have kc8 := As (six_below hb kcdd.out); have HRC8 := As ((hb.block _ (heap_lt_ HRCdd.out)).trans HRCdd.out); have HOK8 := As (show ∀ k, w8.heap.size ≤ k → okk k from fun k hk => HOKdd.out k (by omega)); clear hm hb hs8)
      | (go_at_call 75; (with_reducible refine (made_any okk _ _ _ _ _ _ HOK8.out HS8.out HD8.out hdz.out hnsm.out hdd.out).mono ?_); rintro e w9 ⟨vr, rfl, hr, hb⟩; have HR := As hr; have HB9 := As (below_step HB8.out hb); have kc9 := As (six_below hb kc8.out); have HRC9 := As ((hb.block _ (heap_lt_ HRC8.out)).trans HRC8.out); (obtain ⟨Ar, nr, cr, Ar', nr', cr', rfl⟩ := hr.shape); (obtain ⟨u0, u1, u2, u3, u4, u5⟩ := cells3 HRC9.out); clear hr hb))
    go_wp2
    refine bodyPost_ret (v := .agg #[.bool (decide ((rq bq (q.num.natAbs * p.den - p.num.natAbs * q.den) (p.den * q.den)).num < 0)), .slice Ar nr cr, .slice Ar' nr' cr']) (by simp [results, Tryz.results47, go_sem, u0, u1, u2]) rfl ⟨_, rfl, ?_, ?_⟩
    ·have hne : ∀ k, okk k → k ≠ w.heap.size + 2 := fun k hk => by rw [HOKK.out, HOK'.out] at hk; exact hk.1.2
     have hmo : ∀ k, okk k → ok k := fun k hk => by rw [HOKK.out, HOK'.out] at hk; exact hk.1.1
     rw [← HEQ.out]
     exact (((HR.out.set hne 0 _).set hne 1 _).set hne 2 _).mono hmo
    ·exact below_set (below_set (below_set HB9.out (by omega)) (by omega)) (by omega)
/-
  The contracts of Neg and Sub (package rational).
-/
theorem IsNat.shape {w : World} {ok : Nat → Prop} {v : Value} {n : Nat} (h : IsNat w ok v n) : ∃ A m c, v = .slice A m c ∧ (m = 0 ↔ n = 0) := by
 obtain ⟨l, ⟨A, c, rfl, _, _⟩, hl, hv⟩ := h
 exact ⟨A, l.length, c, rfl, fun e => by rw [nil_zero e] at hv; omega, fun e => nrm_zero hl (by rw [hv, e]; rfl)⟩
set_option maxHeartbeats 4000000 in
theorem neg_rat (ok : Nat → Prop) (v0 : Value) (p : Rat) (k : Nat) (w : World) (hok : ∀ k, w.heap.size ≤ k → ok k) (h0 : IsRaw w ok v0 p k) (hk : k ≤ 5000000) :
  Calls Tryz.prog 73 #[v0] w (RetRat ok (-p) w) := by
 obtain ⟨n0, A0, m0, c0, A0', m0', c0', e0⟩ := h0.shape
 obtain ⟨W2, hW2⟩ : ∃ W2, (w.alloc (.cells #[.bool n0, .slice A0 m0 c0, .slice A0' m0' c0'] 46)).alloc (.cells #[.bool false, .slice none 0 0, .slice none 0 0] 46) = W2 := ⟨_, rfl⟩
 have hsz : W2.heap.size = w.heap.size + 2 := by rw [← hW2]; simp only [size_alloc]
 have hb2 : Below w.heap.size w W2 := by rw [← hW2]; exact below_alloc (below_alloc (Below.refl _ _) _) _
 obtain ⟨ok', hok'⟩ : ∃ ok' : Nat → Prop, ok' = fun k => ok k ∧ k ≠ w.heap.size + 1 := ⟨_, rfl⟩
 have HOK' := As hok'
 have HOK := As (show ∀ k, W2.heap.size ≤ k → ok' k from fun k hk => by rw [hok']; exact ⟨hok k (by omega), by omega⟩)
 have HR0 := As ((h0.old hb2).mono (ok' := ok') (fun k hk => by rw [hok']; exact ⟨hk.1, by have := hk.2; omega⟩))
 have HC := As (show W2.heap[w.heap.size + 1]? = some (.cells #[.bool false, .slice none 0 0, .slice none 0 0] 46 (0, 0)) by
  rw [← hW2]
  have := heap_new (w.alloc (.cells #[.bool n0, .slice A0 m0 c0, .slice A0' m0' c0'] 46)) (.cells #[.bool false, .slice none 0 0, .slice none 0 0] 46)
  rwa [size_alloc] at this)
 have HW2 := As hW2
 have HSZ := As hsz
 have HB2 := As hb2
 have HK := As hk
 subst e0
 clear hW2 hsz hb2 hok' hok h0 hk
 go_enter Tryz.func73, Tryz.ntmps73
 go_wp2_with fail
 rw [HW2.out]
 with_reducible refine (canonical_rat ok' _ _ _ _ HOK.out HR0.out HK.out).mono ?_
 rintro e w3 ⟨vc, rfl, hc, hb⟩
 have HB3 := As (below_weaken HB2.out HB2.out.size hb)
 have HC3 := As ((hb.block _ (heap_lt_ HC.out)).trans HC.out)
 have hs3 : w.heap.size + 1 < w3.heap.size := by have := hb.size; have := HSZ.out; omega
 obtain ⟨x1, x2, rfl, hx1, hx2⟩ := hc
 obtain ⟨Ax, mx, cx, rfl, hxz⟩ := hx1.shape
 obtain ⟨Ay, my, cy, rfl, _⟩ := hx2.shape
 have HX1 := As hx1
 have HX2 := As hx2
 obtain ⟨bp, hbp⟩ : ∃ b, decide (p.num < 0) = b := ⟨_, rfl⟩
 rw [hbp]
 obtain ⟨u0, u1, u2, u3, u4, u5⟩ := cells3 HC3.out
 have hm : decide (0 < mx) = decide (p.num.natAbs ≠ 0) := by
  by_cases h : p.num.natAbs = 0
  ·have := hxz.2 h; simp [h, this]
  ·have : mx ≠ 0 := fun e => h (hxz.1 e)
   simp [h]; omega
 have HM := As hm
 have HBP := As hbp
 clear hb hx1 hx2 hxz hbp hm
 cases bp with
 | true =>
  go_wp2
  have hne : ∀ k, ok' k → k ≠ w.heap.size + 1 := fun k hk => by rw [HOK'.out] at hk; exact hk.2
  have hmo : ∀ k, ok' k → ok k := fun k hk => by rw [HOK'.out] at hk; exact hk.1
  refine bodyPost_ret (v := .agg #[.bool false, .slice Ax mx cx, .slice Ay my cy]) (by simp [results, Tryz.results73, go_sem, u0, u1, u2, hs3]) rfl ⟨_, rfl, ⟨.slice Ax mx cx, .slice Ay my cy, ?_, ?_, ?_⟩, ?_⟩
  ·rw [show decide ((-p).num < 0) = false by rw [Rat.neg_num]; have := of_decide_eq_true HBP.out; exact decide_eq_false (by omega)]
  ·rw [Rat.neg_num, Int.natAbs_neg]
   exact ((((HX1.out.set hne 0 _).set hne 1 _).set hne 2 _).below (below_alloc (Below.refl _ _) _)).mono hmo
  ·rw [Rat.neg_den]
   exact ((((HX2.out.set hne 0 _).set hne 1 _).set hne 2 _).below (below_alloc (Below.refl _ _) _)).mono hmo
  ·exact below_alloc (below_set (below_set (below_set HB3.out (by omega)) (by omega)) (by omega)) _
 | false =>
  by_cases hz : 0 < mx
  ·have hzb : decide (0 < mx) = true := decide_eq_true hz
   have hnz := HM.out
   rw [hzb] at hnz
   have HNZ := As (of_decide_eq_true hnz.symm)
   clear hnz hz
   go_wp2
   have hne : ∀ k, ok' k → k ≠ w.heap.size + 1 := fun k hk => by rw [HOK'.out] at hk; exact hk.2
   have hmo : ∀ k, ok' k → ok k := fun k hk => by rw [HOK'.out] at hk; exact hk.1
   refine bodyPost_ret (v := .agg #[.bool true, .slice Ax mx cx, .slice Ay my cy]) (by simp [results, Tryz.results73, go_sem, u0, u1, u2, hs3]) rfl ⟨_, rfl, ⟨.slice Ax mx cx, .slice Ay my cy, ?_, ?_, ?_⟩, ?_⟩
   ·rw [show decide ((-p).num < 0) = true by rw [Rat.neg_num]; have := of_decide_eq_false HBP.out; have := HNZ.out; exact decide_eq_true (by omega)]
   ·rw [Rat.neg_num, Int.natAbs_neg]
    exact ((((HX1.out.set hne 0 _).set hne 1 _).set hne 2 _).below (below_alloc (Below.refl _ _) _)).mono hmo
   ·rw [Rat.neg_den]
    exact ((((HX2.out.set hne 0 _).set hne 1 _).set hne 2 _).below (below_alloc (Below.refl _ _) _)).mono hmo
   ·exact below_alloc (below_set (below_set (below_set HB3.out (by omega)) (by omega)) (by omega)) _
  ·have hzb : decide (0 < mx) = false := decide_eq_false hz
   have hnz := HM.out
   rw [hzb] at hnz
   have HNZ := As (of_decide_eq_false hnz.symm)
   clear hnz hz
   go_wp2
   have hne : ∀ k, ok' k → k ≠ w.heap.size + 1 := fun k hk => by rw [HOK'.out] at hk; exact hk.2
   have hmo : ∀ k, ok' k → ok k := fun k hk => by rw [HOK'.out] at hk; exact hk.1
   refine bodyPost_ret (v := .agg #[.bool false, .slice Ax mx cx, .slice Ay my cy]) (by simp [results, Tryz.results73, go_sem, u0, u1, u2, hs3]) rfl ⟨_, rfl, ⟨.slice Ax mx cx, .slice Ay my cy, ?_, ?_, ?_⟩, ?_⟩
   ·rw [show decide ((-p).num < 0) = false by rw [Rat.neg_num]; have := HNZ.out; exact decide_eq_false (by omega)]
   ·rw [Rat.neg_num, Int.natAbs_neg]
    exact ((((HX1.out.set hne 0 _).set hne 1 _).set hne 2 _).below (below_alloc (Below.refl _ _) _)).mono hmo
   ·rw [Rat.neg_den]
    exact ((((HX2.out.set hne 0 _).set hne 1 _).set hne 2 _).below (below_alloc (Below.refl _ _) _)).mono hmo
   ·exact below_alloc (below_set (below_set (below_set HB3.out (by omega)) (by omega)) (by omega)) _
set_option maxHeartbeats 4000000 in
theorem sub_rat (ok : Nat → Prop) (v0 v1 : Value) (p q : Rat) (j k : Nat) (w : World) (hok : ∀ k, w.heap.size ≤ k → ok k) (h0 : IsRaw w ok v0 p j) (h1 : IsRaw w ok v1 q k) (hj : j ≤ 900000) (hk : k ≤ 900000) :
  Calls Tryz.prog 43 #[v0, v1] w (RetRat ok (p - q) w) := by
 obtain ⟨n0, A0, m0, c0, A0', m0', c0', e0⟩ := h0.shape
 obtain ⟨n1, A1, m1, c1, A1', m1', c1', e1⟩ := h1.shape
 obtain ⟨W3, hW3⟩ : ∃ W3, ((w.alloc (.cells #[.bool n0, .slice A0 m0 c0, .slice A0' m0' c0'] 46)).alloc (.cells #[.bool n1, .slice A1 m1 c1, .slice A1' m1' c1'] 46)).alloc (.cells #[.bool false, .slice none 0 0, .slice none 0 0] 46) = W3 := ⟨_, rfl⟩
 have hsz : W3.heap.size = w.heap.size + 3 := by rw [← hW3]; simp only [size_alloc]
 have hb3 : Below w.heap.size w W3 := by rw [← hW3]; exact below_alloc (below_alloc (below_alloc (Below.refl _ _) _) _) _
 obtain ⟨ok', hok'⟩ : ∃ ok' : Nat → Prop, ok' = fun k => ok k ∧ k ≠ w.heap.size + 2 := ⟨_, rfl⟩
 have HOK' := As hok'
 have HOK := As (show ∀ k, W3.drew.heap.size ≤ k → ok' k from fun k hk => by
  have h2 : W3.drew.heap.size = W3.heap.size := rfl
  rw [hok']; exact ⟨hok k (by omega), by omega⟩)
 have HR0 := As (((h0.old hb3).mono (ok' := ok') (fun k hk => by rw [hok']; exact ⟨hk.1, by have := hk.2; omega⟩)).below (below_drew1 (Below.refl W3.heap.size W3)))
 have HR1 := As (((h1.old hb3).mono (ok' := ok') (fun k hk => by rw [hok']; exact ⟨hk.1, by have := hk.2; omega⟩)).below (below_drew1 (Below.refl W3.heap.size W3)))
 have hx : W3.heap[w.heap.size]? = some (.cells #[.bool n0, .slice A0 m0 c0, .slice A0' m0' c0'] 46 (0, 0)) := by
  rw [← hW3, heap_old _ (by simp only [size_alloc]; omega), heap_old _ (by simp only [size_alloc]; omega), heap_new]
 have hy : W3.heap[w.heap.size + 1]? = some (.cells #[.bool n1, .slice A1 m1 c1, .slice A1' m1' c1'] 46 (0, 0)) := by
  rw [← hW3, heap_old _ (by simp only [size_alloc]; omega)]
  have := heap_new (w.alloc (.cells #[.bool n0, .slice A0 m0 c0, .slice A0' m0' c0'] 46)) (.cells #[.bool n1, .slice A1 m1 c1, .slice A1' m1' c1'] 46)
  rwa [size_alloc] at this
 have HC := As (show W3.heap[w.heap.size + 2]? = some (.cells #[.bool false, .slice none 0 0, .slice none 0 0] 46 (0, 0)) by
  rw [← hW3]
  have := heap_new ((w.alloc (.cells #[.bool n0, .slice A0 m0 c0, .slice A0' m0' c0'] 46)).alloc (.cells #[.bool n1, .slice A1 m1 c1, .slice A1' m1' c1'] 46)) (.cells #[.bool false, .slice none 0 0, .slice none 0 0] 46)
  rwa [size_alloc, size_alloc] at this)
 obtain ⟨x0, x1, x2, _, _, _⟩ := cells3 hx
 obtain ⟨y0, y1, y2, _, _, _⟩ := cells3 hy
 have HSIX := As (And.intro x0 (And.intro x1 (And.intro x2 (And.intro y0 (And.intro y1 y2)))))
 have HW3 := As hW3
 have HB3d := As (below_drew1 hb3)
 have HK0 := As (show k ≤ 5000000 by omega)
 have HK1 := As (show k + 1 ≤ 1000000 by omega)
 have HJ1 := As (show j ≤ 1000000 by omega)
 have HRS := As h1.rs.neg
 subst e0 e1
 clear hW3 hb3 hok' hok h0 h1 hj hk hx hy x0 x1 x2 y0 y1 y2 hsz
 go_enter Tryz.func43, Tryz.ntmps43
 go_upto_region 1 with fail
 rw [HW3.out]
 go_region_held3 (fun W' => W'.cell? ⟨w.heap.size, 0, none⟩ = some (.bool n0) ∧ W'.cell? ⟨w.heap.size, 1, none⟩ = some (.slice A0 m0 c0) ∧ W'.cell? ⟨w.heap.size, 2, none⟩ = some (.slice A0' m0' c0') ∧ W'.cell? ⟨w.heap.size + 1, 0, none⟩ = some (.bool n1) ∧ W'.cell? ⟨w.heap.size + 1, 1, none⟩ = some (.slice A1 m1 c1) ∧ W'.cell? ⟨w.heap.size + 1, 2, none⟩ = some (.slice A1' m1' c1')) (first | exact HSIX.out | exact kc4.out | exact kc5.out | exact six_far (by omega) (by omega) kc5.out | go_keep)
  (first
   | (go_at_call 73; (with_reducible refine (neg_rat ok' _ _ _ _ HOK.out HR1.out HK0.out).mono ?_); rintro e w4 ⟨vn, rfl, hn, hb⟩; have HN := As (hn.raw HRS.out); have HB4 := As (below_step HB3d.out hb); have HR04 := As (HR0.out.below hb); have kc4 := As (six_below hb HSIX.out); have HC4 := As ((hb.block _ (heap_lt_ HC.out)).trans HC.out); have HOK4 := As (show ∀ k, w4.heap.size ≤ k → ok' k from fun k hk => HOK.out k (Nat.le_trans hb.size hk)); clear hn hb)
   | (go_at_call 47; (with_reducible refine (add_rat ok' _ _ _ _ _ _ _ HOK4.out HR04.out HN.out HJ1.out HK1.out).mono ?_); rintro e w5 ⟨vr, rfl, hr, hb⟩; have HR := As hr; have HB5 := As (below_step HB4.out hb); have kc5 := As (six_below hb kc4.out); have HC5 := As ((hb.block _ (heap_lt_ HC4.out)).trans HC4.out); (obtain ⟨Ar, nr, cr, Ar', nr', cr', rfl⟩ := hr.shape); (obtain ⟨u0, u1, u2, u3, u4, u5⟩ := cells3 HC5.out); clear hr hb))
 go_wp2
 refine bodyPost_ret (v := .agg #[.bool (decide ((p + -q).num < 0)), .slice Ar nr cr, .slice Ar' nr' cr']) (by simp [results, Tryz.results43, go_sem, u0, u1, u2]) rfl ⟨_, rfl, ?_, ?_⟩
 ·have hne : ∀ k, ok' k → k ≠ w.heap.size + 2 := fun k hk => by rw [HOK'.out] at hk; exact hk.2
  have hmo : ∀ k, ok' k → ok k := fun k hk => by rw [HOK'.out] at hk; exact hk.1
  rw [Rat.sub_eq_add_neg]
  exact (((HR.out.set hne 0 _).set hne 1 _).set hne 2 _).mono hmo
 ·exact below_set (below_set (below_set HB5.out (by omega)) (by omega)) (by omega)
/-
  The contracts of Sign, Cmp and FromInt (package rational).
-/
def sgnR (q : Rat) : Int := if q.num = 0 then 0 else if q.num < 0 then -1 else 1
def RetInt (n : Int) (w0 : World) (e : Ending) (w' : World) : Prop := e = .returned (.int .i64 n) ∧ Below w0.heap.size w0 w'
theorem RetInt.mk {n m : Int} {w0 w' : World} (h : m = n) (hb : Below w0.heap.size w0 w') : RetInt m w0 (.returned (.int .i64 n)) w' := by rw [h]; exact ⟨rfl, hb⟩
set_option maxHeartbeats 4000000 in
theorem sign_rat (ok : Nat → Prop) (v0 : Value) (p : Rat) (k : Nat) (w : World) (hok : ∀ k, w.heap.size ≤ k → ok k) (h0 : IsRaw w ok v0 p k) (hk : k ≤ 5000000) :
  Calls Tryz.prog 46 #[v0] w (RetInt (sgnR p) w) := by
 obtain ⟨n0, A0, m0, c0, A0', m0', c0', e0⟩ := h0.shape
 obtain ⟨W2, hW2⟩ : ∃ W2, w.alloc (.cells #[.bool n0, .slice A0 m0 c0, .slice A0' m0' c0'] 46) = W2 := ⟨_, rfl⟩
 have hsz : W2.heap.size = w.heap.size + 1 := by rw [← hW2]; simp only [size_alloc]
 have hb2 : Below w.heap.size w W2 := by rw [← hW2]; exact below_alloc (Below.refl _ _) _
 have HOK := As (show ∀ k, W2.heap.size ≤ k → ok k from fun k hk => hok k (by omega))
 have HR0 := As (h0.below hb2)
 have HW2 := As hW2
 have HB2 := As hb2
 have HK := As hk
 subst e0
 clear hW2 hsz hb2 hok h0 hk
 go_enter Tryz.func46, Tryz.ntmps46
 go_wp2_with fail
 rw [HW2.out]
 with_reducible refine (canonical_rat ok _ _ _ _ HOK.out HR0.out HK.out).mono ?_
 rintro e w3 ⟨vc, rfl, hc, hb⟩
 have HB3 := As (below_weaken HB2.out HB2.out.size hb)
 obtain ⟨x1, x2, rfl, hx1, hx2⟩ := hc
 obtain ⟨Ax, mx, cx, rfl, hxz⟩ := hx1.shape
 obtain ⟨Ay, my, cy, rfl, _⟩ := hx2.shape
 obtain ⟨bp, hbp⟩ : ∃ b, decide (p.num < 0) = b := ⟨_, rfl⟩
 rw [hbp]
 have HBP := As hbp
 have HXZ := As hxz
 clear hb hx1 hx2 hbp hxz
 by_cases hm : mx = 0
 ·have hmb : (mx == 0) = true := by simp [hm]
  have HM := As hm
  clear hm
  go_wp2
  go_ret
  exact RetInt.mk (by unfold sgnR; rw [if_pos (by have := HXZ.out.1 HM.out; omega)]) (below_alloc HB3.out _)
 ·have hmb : (mx == 0) = false := by simp [hm]
  have HM := As (show p.num ≠ 0 from fun e => hm (HXZ.out.2 (by rw [e]; rfl)))
  clear hm
  cases bp with
  | true =>
   go_wp2
   go_ret
   exact RetInt.mk (by unfold sgnR; rw [if_neg HM.out, if_pos (of_decide_eq_true HBP.out)]) (below_alloc HB3.out _)
  | false =>
   go_wp2
   go_ret
   exact RetInt.mk (by unfold sgnR; rw [if_neg HM.out, if_neg (of_decide_eq_false HBP.out)]) (below_alloc HB3.out _)
set_option maxHeartbeats 4000000 in
theorem cmp_rat (ok : Nat → Prop) (v0 v1 : Value) (p q : Rat) (j k : Nat) (w : World) (hok : ∀ k, w.heap.size ≤ k → ok k) (h0 : IsRaw w ok v0 p j) (h1 : IsRaw w ok v1 q k) (hj : j ≤ 900000) (hk : k ≤ 900000) :
  Calls Tryz.prog 25 #[v0, v1] w (RetInt (sgnR (p - q)) w) := by
 have HOK := As hok
 have H0 := As h0
 have H1 := As h1
 have HJ := As hj
 have HK := As hk
 have HRS := As (RS.sub h0.rs h1.rs)
 have HJK := As (show j + 1 + (k + 1) + 1 ≤ 5000000 by omega)
 clear hok h0 h1 hj hk
 obtain ⟨n0, A0, m0, c0, A0', m0', c0', rfl⟩ := H0.out.shape
 obtain ⟨n1, A1, m1, c1, A1', m1', c1', rfl⟩ := H1.out.shape
 obtain ⟨W2, hW2⟩ : ∃ W2, (w.alloc (.cells #[.bool n0, .slice A0 m0 c0, .slice A0' m0' c0'] 46)).alloc (.cells #[.bool n1, .slice A1 m1 c1, .slice A1' m1' c1'] 46) = W2 := ⟨_, rfl⟩
 have hb2 : Below w.heap.size w W2 := by rw [← hW2]; exact below_alloc (below_alloc (Below.refl _ _) _) _
 have HOK2 := As (show ∀ k, W2.heap.size ≤ k → ok k from fun k hk => HOK.out k (Nat.le_trans hb2.size hk))
 have H02 := As (H0.out.below hb2)
 have H12 := As (H1.out.below hb2)
 have HB2 := As hb2
 have HW2 := As hW2
 clear hb2 hW2
 go_enter Tryz.func25, Tryz.ntmps25
 go_wp2_with fail
 rw [HW2.out]
 with_reducible refine (sub_rat ok _ _ _ _ _ _ _ HOK2.out H02.out H12.out HJ.out HK.out).mono ?_
 rintro e w3 ⟨vs, rfl, hs, hb⟩
 have HS := As (hs.raw HRS.out)
 have HB3 := As (below_weaken HB2.out HB2.out.size hb)
 have HOK3 := As (show ∀ k, w3.heap.size ≤ k → ok k from fun k hk => HOK2.out k (Nat.le_trans hb.size hk))
 clear hs hb
 go_wp2_with fail
 with_reducible refine (sign_rat ok _ _ _ _ HOK3.out HS.out HJK.out).mono ?_
 rintro e w4 ⟨rfl, hb⟩
 have HB4 := As (below_step HB3.out hb)
 clear hb
 go_wp2
 go_ret
 exact ⟨rfl, HB4.out⟩
theorem u_lit3 (w : World) (ok : Nat → Prop) (hok : ∀ k, w.heap.size ≤ k → ok k) (x y z : Int) : U (w.alloc (.cells #[.int .u32 x, .int .u32 y, .int .u32 z] 65)) ok (.slice (some ⟨w.heap.size, 0, none⟩) 3 3) [x, y, z] := by
 refine ⟨some ⟨w.heap.size, 0, none⟩, 3, rfl, Nat.le_refl _, fun W' hW => ⟨rfl, by simp, fun _ => ⟨_, rfl, fun j p hj => ?_⟩⟩⟩
 have h1 := hW w.heap.size (hok _ (Nat.le_refl _)) (by rw [size_alloc]; omega)
 rw [heap_new] at h1
 have hc := cells3 h1
 have hj3 : j = 0 ∨ j = 1 ∨ j = 2 := by
  have := (List.getElem?_eq_some_iff.1 hj).1
  simp at this
  omega
 refine ⟨[.int .u32 p], rfl, rfl, fun i u hu => ?_⟩
 have hi0 : i = 0 := by
  have := (List.getElem?_eq_some_iff.1 hu).1
  simp at this
  omega
 subst hi0
 have hu' : Value.int .u32 p = u := by simpa using hu
 subst hu'
 have e : ∀ m, (⟨w.heap.size, 0, none⟩ : Addr).add (m * (Kd.int .u32).sz + 0) = ⟨w.heap.size, m, none⟩ := fun m => by
  show (⟨w.heap.size, 0, none⟩ : Addr).add (m * 1 + 0) = _
  rw [addr_add]; simp
 rw [e]
 rcases hj3 with rfl | rfl | rfl
 ·have : x = p := by simpa using hj
  rw [← this]; exact hc.1
 ·have : y = p := by simpa using hj
  rw [← this]; exact hc.2.1
 ·have : z = p := by simpa using hj
  rw [← this]; exact hc.2.2.1
theorem rq_int (n : Int) : rq (decide (n < 0)) n.natAbs 1 = (n : Rat) := by
 have h := rq_self (n : Rat)
 rwa [Rat.num_intCast, Rat.den_intCast] at h
theorem three_limbs (u : Int) (h0 : 0 ≤ u) (h1 : u < 18446744073709551616) : val [u % 1000000000, u / 1000000000 % 1000000000, u / 1000000000 / 1000000000] = u ∧ U32 [u % 1000000000, u / 1000000000 % 1000000000, u / 1000000000 / 1000000000] := by
 refine ⟨by simp only [val]; omega, fun x hx => ?_⟩
 simp at hx
 omega
set_option maxHeartbeats 4000000 in
theorem fromInt_rat (ok : Nat → Prop) (n : Int) (w : World) (hok : ∀ k, w.heap.size ≤ k → ok k) (hn0 : -9223372036854775808 ≤ n) (hn1 : n ≤ 9223372036854775807) :
  Calls Tryz.prog 45 #[.int .i64 n] w (RetRat ok (n : Rat) w) := by
 obtain ⟨ok', hok'⟩ : ∃ ok' : Nat → Prop, ok' = fun k => ok k ∧ k ≠ w.heap.size := ⟨_, rfl⟩
 have HOK' := As hok'
 have hone : (1 : Nat) ≠ 0 := by decide
 have HONE := As hone
 have hp1 : pw 1 = 1000000000 := rfl
 have hp3 : pw 3 = 1000000000000000000000000000 := rfl
 have HOS := As (show ((1 : Nat) : Int) < pw 10000000 by have := pw_le (show 1 ≤ 10000000 by omega); omega)
 rcases Int.lt_or_le n 0 with hneg | hpos
 ·obtain ⟨u, rfl⟩ : ∃ u, n = -u := ⟨-n, by omega⟩
  have hd : decide (-u < 0) = true := decide_eq_true hneg
  have hw1 : IntKind.u64.wrap (-u) = -u + 18446744073709551616 := by show (-u) % 18446744073709551616 = _; omega
  have hw2 : IntKind.u64.wrap (-(-u + 18446744073709551616)) = u := by show (-(-u + 18446744073709551616)) % 18446744073709551616 = _; omega
  have hu0 : 0 ≤ u := by omega
  have HEQ := As (show rq true u.toNat 1 = ((-u : Int) : Rat) by rw [← rq_int, hd, Int.natAbs_neg, show u.toNat = u.natAbs by omega])
  obtain ⟨W2, hW2⟩ : ∃ W2, (w.alloc (.cells #[.bool false, .slice none 0 0, .slice none 0 0] 46)).alloc (.cells #[.int .u32 (u % 1000000000), .int .u32 (u / 1000000000 % 1000000000), .int .u32 (u / 1000000000 / 1000000000)] 65) = W2 := ⟨_, rfl⟩
  obtain ⟨hval, hlim⟩ := three_limbs u (by omega) (by omega)
  have HLIM := As hlim
  have HVAL := As (show (val [u % 1000000000, u / 1000000000 % 1000000000, u / 1000000000 / 1000000000]).toNat = u.toNat by rw [hval])
  have HLEN := As (show [u % 1000000000, u / 1000000000 % 1000000000, u / 1000000000 / 1000000000].length ≤ 10000000 from by show 3 ≤ 10000000; omega)
  have HUS := As (show ((u.toNat : Nat) : Int) < pw 10000000 by have := pw_le (show 3 ≤ 10000000 by omega); omega)
  have hb2 : Below w.heap.size w W2 := by rw [← hW2]; exact below_alloc (below_alloc (Below.refl _ _) _) _
  have hsz : W2.heap.size = w.heap.size + 2 := by rw [← hW2]; simp only [size_alloc]
  have HOK2 := As (show ∀ k, W2.heap.size ≤ k → ok' k from fun k hk => by rw [hok']; exact ⟨hok k (by omega), by omega⟩)
  have hu3 := u_lit3 (w.alloc (.cells #[.bool false, .slice none 0 0, .slice none 0 0] 46)) ok' (fun k hk => by rw [size_alloc] at hk; rw [hok']; exact ⟨hok k (by omega), by omega⟩) (u % 1000000000) (u / 1000000000 % 1000000000) (u / 1000000000 / 1000000000)
  rw [hW2, size_alloc] at hu3
  have HU := As hu3
  have HC := As (show W2.heap[w.heap.size]? = some (.cells #[.bool false, .slice none 0 0, .slice none 0 0] 46 (0, 0)) by rw [← hW2, heap_old _ (by rw [size_alloc]; omega), heap_new])
  have HB2 := As hb2
  have HW2 := As hW2
  clear hval hlim hW2 hb2 hsz hu3 hok hok' hone hp1 hp3
  go_enter Tryz.func45, Tryz.ntmps45
  go_wp2_with fail
  rw [HW2.out]
  with_reducible refine (norm_nat ok' _ _ _ HOK2.out HU.out HLIM.out HLEN.out).mono ?_
  rintro e w3 ⟨vn, rfl, hn, hb⟩
  have HB3 := As (below_weaken HB2.out HB2.out.size hb)
  have HC3 := As ((hb.block _ (heap_lt_ HC.out)).trans HC.out)
  have HOK3 := As (show ∀ k, w3.heap.size ≤ k → ok' k from fun k hk => HOK2.out k (Nat.le_trans hb.size hk))
  have hn' := hn.below (below_alloc (Below.refl w3.heap.size w3) (.cells #[.int .u32 1] 65))
  rw [HVAL.out] at hn'
  have HN := As hn'
  have HO1 := As (isNat_one w3 ok' HOK3.out)
  have HOK4 := As (show ∀ k, (w3.alloc (.cells #[.int .u32 1] 65)).heap.size ≤ k → ok' k from fun k hk => HOK3.out k (by rw [size_alloc] at hk; omega))
  have HC4 := As ((heap_old (.cells #[.int .u32 1] 65) (heap_lt_ HC3.out)).trans HC3.out)
  have HB4 := As (below_alloc HB3.out (.cells #[.int .u32 1] 65))
  clear hn hn' hb
  go_wp2_with fail
  with_reducible refine (made_any ok' true _ _ _ _ _ HOK4.out HN.out HO1.out HONE.out HUS.out HOS.out).mono ?_
  rintro e w5 ⟨vr, rfl, hr, hb⟩
  have HR := As hr
  have HB5 := As (below_step HB4.out hb)
  have HC5 := As ((hb.block _ (heap_lt_ HC4.out)).trans HC4.out)
  obtain ⟨Ar, nr, cr, Ar', nr', cr', rfl⟩ := hr.shape
  obtain ⟨u0, u1, u2, u3, u4, u5⟩ := cells3 HC5.out
  clear hr hb
  go_wp2
  refine bodyPost_ret (v := .agg #[.bool (decide ((rq true u.toNat 1).num < 0)), .slice Ar nr cr, .slice Ar' nr' cr']) (by simp [results, Tryz.results45, go_sem, u0, u1, u2]) rfl ⟨_, rfl, ?_, ?_⟩
  ·have hne : ∀ k, ok' k → k ≠ w.heap.size := fun k hk => by rw [HOK'.out] at hk; exact hk.2
   have hmo : ∀ k, ok' k → ok k := fun k hk => by rw [HOK'.out] at hk; exact hk.1
   rw [← HEQ.out]
   exact (((HR.out.set hne 0 _).set hne 1 _).set hne 2 _).mono hmo
  ·exact below_set (below_set (below_set HB5.out (by omega)) (by omega)) (by omega)
 ·obtain ⟨u, rfl⟩ : ∃ u, n = u := ⟨n, rfl⟩
  have hd : decide (n < 0) = false := decide_eq_false (by omega)
  have HEQ := As (show rq false n.toNat 1 = ((n : Int) : Rat) by rw [← rq_int, hd, show n.toNat = n.natAbs by omega])
  obtain ⟨W2, hW2⟩ : ∃ W2, (w.alloc (.cells #[.bool false, .slice none 0 0, .slice none 0 0] 46)).alloc (.cells #[.int .u32 (n % 1000000000), .int .u32 (n / 1000000000 % 1000000000), .int .u32 (n / 1000000000 / 1000000000)] 65) = W2 := ⟨_, rfl⟩
  obtain ⟨hval, hlim⟩ := three_limbs n (by omega) (by omega)
  have HLIM := As hlim
  have HVAL := As (show (val [n % 1000000000, n / 1000000000 % 1000000000, n / 1000000000 / 1000000000]).toNat = n.toNat by rw [hval])
  have HLEN := As (show [n % 1000000000, n / 1000000000 % 1000000000, n / 1000000000 / 1000000000].length ≤ 10000000 from by show 3 ≤ 10000000; omega)
  have HUS := As (show ((n.toNat : Nat) : Int) < pw 10000000 by have := pw_le (show 3 ≤ 10000000 by omega); omega)
  have hb2 : Below w.heap.size w W2 := by rw [← hW2]; exact below_alloc (below_alloc (Below.refl _ _) _) _
  have hsz : W2.heap.size = w.heap.size + 2 := by rw [← hW2]; simp only [size_alloc]
  have HOK2 := As (show ∀ k, W2.heap.size ≤ k → ok' k from fun k hk => by rw [hok']; exact ⟨hok k (by omega), by omega⟩)
  have hu3 := u_lit3 (w.alloc (.cells #[.bool false, .slice none 0 0, .slice none 0 0] 46)) ok' (fun k hk => by rw [size_alloc] at hk; rw [hok']; exact ⟨hok k (by omega), by omega⟩) (n % 1000000000) (n / 1000000000 % 1000000000) (n / 1000000000 / 1000000000)
  rw [hW2, size_alloc] at hu3
  have HU := As hu3
  have HC := As (show W2.heap[w.heap.size]? = some (.cells #[.bool false, .slice none 0 0, .slice none 0 0] 46 (0, 0)) by rw [← hW2, heap_old _ (by rw [size_alloc]; omega), heap_new])
  have HB2 := As hb2
  have HW2 := As hW2
  clear hval hlim hW2 hb2 hsz hu3 hok hok' hone hp1 hp3
  go_enter Tryz.func45, Tryz.ntmps45
  go_wp2_with fail
  rw [HW2.out]
  with_reducible refine (norm_nat ok' _ _ _ HOK2.out HU.out HLIM.out HLEN.out).mono ?_
  rintro e w3 ⟨vn, rfl, hn, hb⟩
  have HB3 := As (below_weaken HB2.out HB2.out.size hb)
  have HC3 := As ((hb.block _ (heap_lt_ HC.out)).trans HC.out)
  have HOK3 := As (show ∀ k, w3.heap.size ≤ k → ok' k from fun k hk => HOK2.out k (Nat.le_trans hb.size hk))
  have hn' := hn.below (below_alloc (Below.refl w3.heap.size w3) (.cells #[.int .u32 1] 65))
  rw [HVAL.out] at hn'
  have HN := As hn'
  have HO1 := As (isNat_one w3 ok' HOK3.out)
  have HOK4 := As (show ∀ k, (w3.alloc (.cells #[.int .u32 1] 65)).heap.size ≤ k → ok' k from fun k hk => HOK3.out k (by rw [size_alloc] at hk; omega))
  have HC4 := As ((heap_old (.cells #[.int .u32 1] 65) (heap_lt_ HC3.out)).trans HC3.out)
  have HB4 := As (below_alloc HB3.out (.cells #[.int .u32 1] 65))
  clear hn hn' hb
  go_wp2_with fail
  with_reducible refine (made_any ok' false _ _ _ _ _ HOK4.out HN.out HO1.out HONE.out HUS.out HOS.out).mono ?_
  rintro e w5 ⟨vr, rfl, hr, hb⟩
  have HR := As hr
  have HB5 := As (below_step HB4.out hb)
  have HC5 := As ((hb.block _ (heap_lt_ HC4.out)).trans HC4.out)
  obtain ⟨Ar, nr, cr, Ar', nr', cr', rfl⟩ := hr.shape
  obtain ⟨u0, u1, u2, u3, u4, u5⟩ := cells3 HC5.out
  clear hr hb
  go_wp2
  refine bodyPost_ret (v := .agg #[.bool (decide ((rq false n.toNat 1).num < 0)), .slice Ar nr cr, .slice Ar' nr' cr']) (by simp [results, Tryz.results45, go_sem, u0, u1, u2]) rfl ⟨_, rfl, ?_, ?_⟩
  ·have hne : ∀ k, ok' k → k ≠ w.heap.size := fun k hk => by rw [HOK'.out] at hk; exact hk.2
   have hmo : ∀ k, ok' k → ok k := fun k hk => by rw [HOK'.out] at hk; exact hk.1
   rw [← HEQ.out]
   exact (((HR.out.set hne 0 _).set hne 1 _).set hne 2 _).mono hmo
  ·exact below_set (below_set (below_set HB5.out (by omega)) (by omega)) (by omega)
end Go.Proofs.YtldkcpgnccknpaaGreat
