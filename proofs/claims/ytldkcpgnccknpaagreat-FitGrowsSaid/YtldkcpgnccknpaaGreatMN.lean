/-
  The parts Num, NumD, NumE, NumF: the contracts of the program's functions and the plain laws below them; each part's own remark says which.
-/
set_option linter.unusedVariables false
set_option linter.unusedSimpArgs false
/-
  Plain arithmetic of lists of limbs to the base 10^9: no program in sight.
-/
namespace Go.Proofs.YtldkcpgnccknpaaGreat
namespace Num
def nth (l : List Int) (i : Nat) : Int := l.getD i 0
def val : List Int → Int
 | [] => 0
 | x :: l => x + 1000000000 * val l
def Lim (l : List Int) : Prop := ∀ x ∈ l, 0 ≤ x ∧ x < 1000000000
def U32 (l : List Int) : Prop := ∀ x ∈ l, 0 ≤ x ∧ x < 4294967296
def Nrm (l : List Int) : Prop := Lim l ∧ (l.length = 0 ∨ nth l (l.length - 1) ≠ 0)
def pw (k : Nat) : Int := (1000000000 : Int) ^ k
theorem pw_zero : pw 0 = 1 := rfl
theorem pw_succ (k : Nat) : pw (k + 1) = 1000000000 * pw k := by unfold pw; rw [Int.pow_succ]; omega
theorem pw_pos (k : Nat) : 0 < pw k := Int.pow_pos (by decide)
theorem pw_add (a b : Nat) : pw (a + b) = pw a * pw b := by unfold pw; exact Int.pow_add ..
theorem pw_le {a b : Nat} (h : a ≤ b) : pw a ≤ pw b := by
 obtain ⟨c, rfl⟩ := Nat.le.dest h
 rw [pw_add]
 have h1 := pw_pos a
 have h2 := pw_pos c
 have : pw a * 1 ≤ pw a * pw c := Int.mul_le_mul_of_nonneg_left (by omega) (by omega)
 omega
theorem nth_cons_zero (x : Int) (l : List Int) : nth (x :: l) 0 = x := rfl
theorem nth_cons_succ (x : Int) (l : List Int) (i : Nat) : nth (x :: l) (i + 1) = nth l i := rfl
theorem nth_of_ge {l : List Int} {i : Nat} (h : l.length ≤ i) : nth l i = 0 := by
 unfold nth; rw [List.getD_eq_getElem?_getD, List.getElem?_eq_none h]; rfl
theorem nth_mem {l : List Int} {i : Nat} (h : i < l.length) : nth l i ∈ l := by
 unfold nth; rw [List.getD_eq_getElem?_getD, List.getElem?_eq_getElem h]; exact List.getElem_mem h
theorem Lim.nth {l : List Int} (h : Lim l) (i : Nat) : 0 ≤ nth l i ∧ nth l i < 1000000000 := by
 rcases Nat.lt_or_ge i l.length with hi | hi
 ·exact h _ (nth_mem hi)
 ·rw [nth_of_ge hi]; omega
theorem U32.nth {l : List Int} (h : U32 l) (i : Nat) : 0 ≤ nth l i ∧ nth l i < 4294967296 := by
 rcases Nat.lt_or_ge i l.length with hi | hi
 ·exact h _ (nth_mem hi)
 ·rw [nth_of_ge hi]; omega
theorem Lim.u32 {l : List Int} (h : Lim l) : U32 l := fun x hx => by have := h x hx; omega
theorem Lim.nil : Lim [] := fun x hx => by simp at hx
theorem Nrm.nil : Nrm [] := ⟨Lim.nil, .inl rfl⟩
theorem Lim.append {l m : List Int} (h : Lim l) (h' : Lim m) : Lim (l ++ m) := fun x hx => by
 rcases List.mem_append.1 hx with hx | hx
 ·exact h x hx
 ·exact h' x hx
theorem Lim.single {x : Int} (h0 : 0 ≤ x) (h1 : x < 1000000000) : Lim [x] := fun y hy => by
 rw [List.mem_singleton.1 hy]; exact ⟨h0, h1⟩
theorem Lim.take {l : List Int} (h : Lim l) (n : Nat) : Lim (l.take n) := fun x hx => h x (List.mem_of_mem_take hx)
theorem Lim.drop {l : List Int} (h : Lim l) (n : Nat) : Lim (l.drop n) := fun x hx => h x (List.mem_of_mem_drop hx)
theorem Lim.set {l : List Int} (h : Lim l) (i : Nat) {x : Int} (h0 : 0 ≤ x) (h1 : x < 1000000000) : Lim (l.set i x) := fun y hy => by
 rcases List.mem_or_eq_of_mem_set hy with hy | hy
 ·exact h y hy
 ·rw [hy]; exact ⟨h0, h1⟩
theorem Lim.zeros (n : Nat) : Lim (List.replicate n 0) := fun x hx => by
 rw [(List.mem_replicate.1 hx).2]; omega
theorem val_nil : val [] = 0 := rfl
theorem val_cons (x : Int) (l : List Int) : val (x :: l) = x + 1000000000 * val l := rfl
theorem val_append (l m : List Int) : val (l ++ m) = val l + pw l.length * val m := by
 induction l with
 | nil => simp [val, pw]
 | cons x l ih => rw [List.cons_append, val_cons, ih, val_cons, List.length_cons, pw_succ]; grind
theorem val_single (x : Int) : val [x] = x := by simp [val]
theorem val_snoc (l : List Int) (x : Int) : val (l ++ [x]) = val l + pw l.length * x := by rw [val_append, val_single]
theorem val_zeros (n : Nat) : val (List.replicate n 0) = 0 := by
 induction n with
 | zero => rfl
 | succ n ih => rw [List.replicate_succ, val_cons, ih]; rfl
theorem val_bound {l : List Int} (h : Lim l) : 0 ≤ val l ∧ val l < pw l.length := by
 induction l with
 | nil => exact ⟨by simp [val], by simp [val, pw]⟩
 | cons x l ih =>
  have hx := h x List.mem_cons_self
  have := ih (fun y hy => h y (List.mem_cons_of_mem _ hy))
  rw [val_cons, List.length_cons, pw_succ]
  omega
theorem val_nonneg_u {l : List Int} (h : U32 l) : 0 ≤ val l := by
 induction l with
 | nil => simp [val]
 | cons x l ih =>
  have hx := h x List.mem_cons_self
  have := ih (fun y hy => h y (List.mem_cons_of_mem _ hy))
  rw [val_cons]
  omega
theorem take_succ_nth {l : List Int} {i : Nat} (h : i < l.length) : l.take (i + 1) = l.take i ++ [nth l i] := by
 rw [List.take_succ_eq_append_getElem h]; unfold nth; rw [List.getD_eq_getElem?_getD, List.getElem?_eq_getElem h]; rfl
theorem val_take_succ {l : List Int} {i : Nat} (h : i < l.length) : val (l.take (i + 1)) = val (l.take i) + pw i * nth l i := by
 rw [take_succ_nth h, val_snoc, List.length_take, Nat.min_eq_left (by omega)]
theorem drop_nth {l : List Int} {i : Nat} (h : i < l.length) : l.drop i = nth l i :: l.drop (i + 1) := by
 rw [List.drop_eq_getElem_cons h]; unfold nth; rw [List.getD_eq_getElem?_getD, List.getElem?_eq_getElem h]; rfl
theorem val_drop {l : List Int} {i : Nat} (h : i < l.length) : val (l.drop i) = nth l i + 1000000000 * val (l.drop (i + 1)) := by
 rw [drop_nth h, val_cons]
theorem val_split (l : List Int) {i : Nat} (h : i ≤ l.length) : val l = val (l.take i) + pw i * val (l.drop i) := by
 conv => lhs; rw [← List.take_append_drop i l]
 rw [val_append, List.length_take, Nat.min_eq_left h]
theorem val_take_all {l : List Int} {n : Nat} (h : l.length ≤ n) : val (l.take n) = val l := by rw [List.take_of_length_le h]
theorem drop_zeros {l : List Int} {n : Nat} (h : ∀ j, n ≤ j → j < l.length → nth l j = 0) : val (l.drop n) = 0 := by
 by_cases hn : n < l.length
 ·rw [val_drop hn, h n (Nat.le_refl _) hn, drop_zeros (n := n + 1) (fun j h1 h2 => h j (by omega) h2)]; omega
 ·rw [List.drop_eq_nil_of_le (by omega)]; rfl
termination_by l.length - n
/-- Trimmed: the zeros at the end fall away. -/
theorem trimmed {l : List Int} {n : Nat} (hn : n ≤ l.length) (h : ∀ j, n ≤ j → j < l.length → nth l j = 0) : val (l.take n) = val l := by
 rw [val_split l hn, drop_zeros h]; omega
theorem nth_take {l : List Int} {n i : Nat} (h : i < n) : nth (l.take n) i = nth l i := by
 unfold nth; rw [List.getD_eq_getElem?_getD, List.getD_eq_getElem?_getD, List.getElem?_take, if_pos h]
theorem nrm_take {l : List Int} {n : Nat} (hl : Lim l) (hn : n ≤ l.length) (h : 0 < n → nth l (n - 1) ≠ 0) : Nrm (l.take n) := by
 refine ⟨hl.take n, ?_⟩
 rw [List.length_take, Nat.min_eq_left hn]
 rcases Nat.eq_zero_or_pos n with h0 | h0
 ·exact .inl h0
 ·exact .inr (by rw [nth_take (by omega)]; exact h h0)
theorem nrm_low {l : List Int} (h : Nrm l) (hp : 0 < l.length) : pw (l.length - 1) ≤ val l := by
 have hz : nth l (l.length - 1) ≠ 0 := h.2.resolve_left (by omega)
 have hb := h.1.nth (l.length - 1)
 have h1 := val_split l (i := l.length - 1) (by omega)
 have h2 := val_drop (l := l) (i := l.length - 1) (by omega)
 rw [List.drop_eq_nil_of_le (as := l) (i := l.length - 1 + 1) (by omega), val_nil] at h2
 have h3 := (val_bound (h.1.take (l.length - 1))).1
 rw [h1, h2]
 have h4 : pw (l.length - 1) * 1 ≤ pw (l.length - 1) * (nth l (l.length - 1) + 1000000000 * 0) := Int.mul_le_mul_of_nonneg_left (by omega) (by have := pw_pos (l.length - 1); omega)
 omega
theorem nrm_pos {l : List Int} (h : Nrm l) (hp : 0 < l.length) : 0 < val l := by
 have := nrm_low h hp; have := pw_pos (l.length - 1); omega
theorem nrm_zero {l : List Int} (h : Nrm l) (hv : val l = 0) : l.length = 0 := by
 rcases Nat.eq_zero_or_pos l.length with h0 | h0
 ·exact h0
 ·have := nrm_pos h h0; omega
theorem nil_zero {l : List Int} (h : l.length = 0) : val l = 0 := by
 rw [List.eq_nil_of_length_eq_zero h]; rfl
/-- Fewer limbs: less. -/
theorem len_lt {l m : List Int} (hl : Lim l) (hm : Nrm m) (h : l.length < m.length) : val l < val m := by
 have h1 := (val_bound hl).2
 have h2 := nrm_low hm (by omega)
 have h3 : pw l.length ≤ pw (m.length - 1) := pw_le (by omega)
 omega
/-- Of equal length, equal above place i, less there: less. -/
theorem top_lt {l m : List Int} {i : Nat} (hl : Lim l) (hm : Lim m) (hlen : l.length = m.length) (hi : i < l.length) (hab : val (l.drop (i + 1)) = val (m.drop (i + 1))) (h : nth l i < nth m i) : val l < val m := by
 have h1 := val_split l (i := i) (by omega)
 have h2 := val_split m (i := i) (by omega)
 rw [val_drop hi] at h1
 rw [val_drop (l := m) (by omega)] at h2
 have h3 := (val_bound (hl.take i)).2
 have h4 := (val_bound (hm.take i)).1
 rw [List.length_take, Nat.min_eq_left (by omega)] at h3
 rw [← hab] at h2
 have h5 : pw i * (nth l i + 1000000000 * val (l.drop (i + 1))) + pw i * 1 ≤ pw i * (nth m i + 1000000000 * val (l.drop (i + 1))) := by
  rw [← Int.mul_add]; exact Int.mul_le_mul_of_nonneg_left (by omega) (by have := pw_pos i; omega)
 omega
theorem nrm_unique {l m : List Int} (hl : Nrm l) (hm : Nrm m) (h : val l = val m) : l = m := by
 have hlen : l.length = m.length := by
  rcases Nat.lt_trichotomy l.length m.length with h1 | h1 | h1
  ·have := len_lt hl.1 hm h1; omega
  ·exact h1
  ·have := len_lt hm.1 hl h1; omega
 have key : ∀ (l m : List Int), Lim l → Lim m → l.length = m.length → val l = val m → l = m := by
  intro l
  induction l with
  | nil => intro m _ _ hlen _; exact (List.eq_nil_of_length_eq_zero hlen.symm).symm
  | cons x l ih =>
   intro m hl hm hlen h
   cases m with
   | nil => simp at hlen
   | cons y m =>
    have hx := hl x List.mem_cons_self
    have hy := hm y List.mem_cons_self
    rw [val_cons, val_cons] at h
    have h1 : x = y := by omega
    have h2 : val l = val m := by omega
    rw [h1, ih m (fun z hz => hl z (List.mem_cons_of_mem _ hz)) (fun z hz => hm z (List.mem_cons_of_mem _ hz)) (by simpa using hlen) h2]
 exact key l m hl.1 hm.1 hlen h
theorem nth_set_eq {l : List Int} {i : Nat} (h : i < l.length) (x : Int) : nth (l.set i x) i = x := by
 unfold nth; rw [List.getD_eq_getElem?_getD, List.getElem?_set_self h]; rfl
theorem nth_set_ne {l : List Int} {i j : Nat} (h : i ≠ j) (x : Int) : nth (l.set i x) j = nth l j := by
 unfold nth; rw [List.getD_eq_getElem?_getD, List.getD_eq_getElem?_getD, List.getElem?_set_ne h]
theorem take_set_le {l : List Int} {i n : Nat} (h : n ≤ i) (x : Int) : (l.set i x).take n = l.take n := by
 rw [List.take_set_of_le h]
theorem drop_set_lt {l : List Int} {i n : Nat} (h : i < n) (x : Int) : (l.set i x).drop n = l.drop n := by
 rw [List.drop_set_of_lt h]
theorem val_set {l : List Int} {i : Nat} (h : i < l.length) (x : Int) : val (l.set i x) = val l + pw i * (x - nth l i) := by
 have h1 := val_split l (i := i) (by omega)
 have h2 := val_split (l.set i x) (i := i) (by rw [List.length_set]; omega)
 rw [take_set_le (Nat.le_refl _), val_drop (by rw [List.length_set]; exact h), nth_set_eq h, drop_set_lt (by omega)] at h2
 rw [val_drop h] at h1
 rw [h1, h2]
 grind
theorem nth_zeros (n i : Nat) : nth (List.replicate n 0) i = 0 := by
 unfold nth; rw [List.getD_eq_getElem?_getD, List.getElem?_replicate]; split <;> rfl
theorem rd_nth (l : List Int) (i : Nat) : l.getD ((i : Int)).toNat 0 = nth l i := by simp [nth]
/-- -1, 0 or 1. -/
def cmpI (a b : Nat) : Int := if a < b then -1 else if b < a then 1 else 0
theorem cmpI_lt {a b : Nat} (h : a < b) : cmpI a b = -1 := by unfold cmpI; rw [if_pos h]
theorem cmpI_gt {a b : Nat} (h : b < a) : cmpI a b = 1 := by unfold cmpI; rw [if_neg (by omega), if_pos h]
theorem cmpI_eq {a b : Nat} (h : a = b) : cmpI a b = 0 := by unfold cmpI; rw [if_neg (by omega), if_neg (by omega)]
/-- What add's loop knows at place k: z so far, the carry. -/
def AddRel (x y z : List Int) (k : Nat) (cr : Int) : Prop := Lim z ∧ z.length = x.length + 1 ∧ val (z.take k) + pw k * cr = val (x.take k) + val (y.take k)
theorem AddRel.start (x y : List Int) : AddRel x y (List.replicate (x.length + 1) 0) 0 0 := ⟨Lim.zeros _, by simp, by simp [val]⟩
theorem val_take_step (y : List Int) (k : Nat) : val (y.take (k + 1)) = val (y.take k) + pw k * nth y k := by
 rcases Nat.lt_or_ge k y.length with h | h
 ·exact val_take_succ h
 ·rw [nth_of_ge h, List.take_of_length_le (by omega), List.take_of_length_le h]; omega
theorem val_take_set {z : List Int} {k : Nat} (h : k < z.length) (x : Int) : val ((z.set k x).take (k + 1)) = val (z.take k) + pw k * x := by
 rw [val_take_succ (by simpa using h), take_set_le (Nat.le_refl _), nth_set_eq h]
theorem AddRel.next {x y z : List Int} {k : Nat} {cr t cr' : Int} (h : AddRel x y z k cr) (hk : k < x.length) (ht0 : 0 ≤ t) (ht1 : t < 1000000000) (e : t + 1000000000 * cr' = nth x k + nth y k + cr) :
  AddRel x y (z.set k t) (k + 1) cr' := by
 obtain ⟨h1, h2, h3⟩ := h
 refine ⟨h1.set k ht0 ht1, by simp [h2], ?_⟩
 rw [val_take_set (by omega), val_take_step x, val_take_step y, pw_succ]
 grind
theorem AddRel.done {x y z : List Int} {cr : Int} (h : AddRel x y z x.length cr) (hy : y.length ≤ x.length) (h0 : 0 ≤ cr) (h1 : cr ≤ 1) : Lim (z.set x.length cr) ∧ val (z.set x.length cr) = val x + val y := by
 obtain ⟨g1, g2, g3⟩ := h
 refine ⟨g1.set _ h0 (by omega), ?_⟩
 have := val_take_set (z := z) (k := x.length) (by omega) cr
 rw [List.take_of_length_le (by simp; omega)] at this
 rw [this]
 rw [List.take_length, List.take_of_length_le hy] at g3
 omega
/-- What sub's loop knows. -/
def SubRel (x y z : List Int) (k : Nat) (br : Int) : Prop := Lim z ∧ z.length = x.length ∧ val (z.take k) + val (y.take k) = val (x.take k) + pw k * br
theorem SubRel.start (x y : List Int) : SubRel x y (List.replicate x.length 0) 0 0 := ⟨Lim.zeros _, by simp, by simp [val]⟩
theorem SubRel.next {x y z : List Int} {k : Nat} {br t br' : Int} (h : SubRel x y z k br) (hk : k < x.length) (ht0 : 0 ≤ t) (ht1 : t < 1000000000) (e : t + nth y k + br = nth x k + 1000000000 * br') :
  SubRel x y (z.set k t) (k + 1) br' := by
 obtain ⟨h1, h2, h3⟩ := h
 refine ⟨h1.set k ht0 ht1, by simp [h2], ?_⟩
 rw [val_take_set (by omega), val_take_step x, val_take_step y, pw_succ]
 grind
theorem SubRel.done {x y z : List Int} {br : Int} (h : SubRel x y z x.length br) (hx : Lim x) (hy : y.length ≤ x.length) (hle : val y ≤ val x) (h0 : 0 ≤ br) : Lim z ∧ val z = val x - val y := by
 obtain ⟨g1, g2, g3⟩ := h
 rw [List.take_length, List.take_of_length_le hy, List.take_of_length_le (by omega)] at g3
 have hz := val_bound g1
 have hp := pw_pos x.length
 rw [g2] at hz
 have hy0 : val x < pw x.length := (val_bound hx).2
 have hb : br = 0 := by
  rcases Int.lt_or_le 0 br with hb | hb
  ·have : pw x.length * 1 ≤ pw x.length * br := Int.mul_le_mul_of_nonneg_left (by omega) (by omega)
   omega
  ·omega
 rw [hb] at g3
 exact ⟨g1, by omega⟩
theorem pw_lt {a b : Nat} (h : pw a < pw b) : a < b := by
 rcases Nat.lt_or_ge a b with h1 | h1
 ·exact h1
 ·have := pw_le h1; omega
theorem len_le {l : List Int} {K : Nat} (h : Nrm l) (hv : val l < pw K) : l.length ≤ K := by
 rcases Nat.eq_zero_or_pos l.length with h0 | h0
 ·omega
 ·have := nrm_low h h0
  have := pw_lt (a := l.length - 1) (b := K) (by omega)
  omega
theorem len_mono {l m : List Int} (h : Nrm l) (hm : Nrm m) (hv : val l ≤ val m) : l.length ≤ m.length := by
 rcases Nat.lt_or_ge m.length l.length with h1 | h1
 ·have := len_lt hm.1 h h1; omega
 ·exact h1
/-- What mul's outer loop knows at place i. -/
def MulRel (x y z : List Int) (i : Nat) : Prop := Lim z ∧ z.length = x.length + y.length ∧ val z = val (x.take i) * val y ∧ ∀ j, i + y.length ≤ j → nth z j = 0
def MulIn (x y z : List Int) (i j : Nat) (cr : Int) : Prop := Lim z ∧ z.length = x.length + y.length ∧ val z + pw (i + j) * cr = val (x.take i) * val y + pw i * (nth x i * val (y.take j)) ∧ ∀ j, i + y.length ≤ j → nth z j = 0
theorem MulRel.start (x y : List Int) : MulRel x y (List.replicate (x.length + y.length) 0) 0 := ⟨Lim.zeros _, by simp, by rw [val_zeros]; simp [val], fun j _ => nth_zeros _ _⟩
theorem MulRel.enter {x y z : List Int} {i : Nat} (h : MulRel x y z i) : MulIn x y z i 0 0 := by
 obtain ⟨h1, h2, h3, h4⟩ := h
 exact ⟨h1, h2, by simp [val, h3], h4⟩
theorem MulIn.next {x y z : List Int} {i j : Nat} {cr : Int} (h : MulIn x y z i j cr) (hi : i < x.length) (hj : j < y.length) (h0 : 0 ≤ nth x i * nth y j + nth z (i + j) + cr) :
  MulIn x y (z.set (i + j) ((nth x i * nth y j + nth z (i + j) + cr) % 1000000000)) i (j + 1) ((nth x i * nth y j + nth z (i + j) + cr) / 1000000000) := by
 obtain ⟨h1, h2, h3, h4⟩ := h
 refine ⟨h1.set _ (by omega) (by omega), by simp [h2], ?_, fun k hk => by rw [nth_set_ne (by omega)]; exact h4 k hk⟩
 rw [val_set (by omega), val_take_step y, ← Nat.add_assoc, pw_succ]
 have e := Int.emod_add_mul_ediv (nth x i * nth y j + nth z (i + j) + cr) 1000000000
 have e2 := pw_add i j
 grind
theorem MulIn.done {x y z : List Int} {i : Nat} {cr : Int} (h : MulIn x y z i y.length cr) (hi : i < x.length) (h0 : 0 ≤ cr) (h9 : cr < 1000000000) : MulRel x y (z.set (i + y.length) cr) (i + 1) := by
 obtain ⟨h1, h2, h3, h4⟩ := h
 refine ⟨h1.set _ h0 h9, by simp [h2], ?_, fun k hk => by rw [nth_set_ne (by omega)]; exact h4 k (by omega)⟩
 rw [val_set (by omega), h4 _ (Nat.le_refl _), val_take_step x]
 rw [List.take_length] at h3
 grind
theorem MulRel.done {x y z : List Int} (h : MulRel x y z x.length) : Lim z ∧ val z = val x * val y := by
 obtain ⟨h1, h2, h3, h4⟩ := h
 rw [List.take_length] at h3
 exact ⟨h1, h3⟩
theorem prod_bd {a b : Int} (h0 : 0 ≤ a) (h1 : a < 1000000000) (h2 : 0 ≤ b) (h3 : b < 1000000000) : 0 ≤ a * b ∧ a * b ≤ 999999998000000001 := by
 refine ⟨Int.mul_nonneg h0 h2, ?_⟩
 have h4 : a * b ≤ 999999999 * b := Int.mul_le_mul_of_nonneg_right (by omega) h2
 omega
/-- What mulSmall's loop knows. -/
def SmRel (x z : List Int) (d : Int) (k : Nat) (cr : Int) : Prop := Lim z ∧ z.length = x.length + 1 ∧ val (z.take k) + pw k * cr = val (x.take k) * d
theorem SmRel.start (x : List Int) (d : Int) : SmRel x (List.replicate (x.length + 1) 0) d 0 0 := ⟨Lim.zeros _, by simp, by simp [val]⟩
theorem SmRel.next {x z : List Int} {d : Int} {k : Nat} {cr : Int} (h : SmRel x z d k cr) (hk : k < x.length) (h0 : 0 ≤ nth x k * d + cr) :
  SmRel x (z.set k ((nth x k * d + cr) % 1000000000)) d (k + 1) ((nth x k * d + cr) / 1000000000) := by
 obtain ⟨h1, h2, h3⟩ := h
 refine ⟨h1.set _ (by omega) (by omega), by simp [h2], ?_⟩
 rw [val_take_set (by omega), val_take_step x, pw_succ]
 have e := Int.emod_add_mul_ediv (nth x k * d + cr) 1000000000
 grind
theorem SmRel.done {x z : List Int} {d cr : Int} (h : SmRel x z d x.length cr) (h0 : 0 ≤ cr) (h9 : cr < 1000000000) : Lim (z.set x.length cr) ∧ (z.set x.length cr).length = x.length + 1 ∧ val (z.set x.length cr) = val x * d := by
 obtain ⟨g1, g2, g3⟩ := h
 refine ⟨g1.set _ h0 h9, by simp [g2], ?_⟩
 have := val_take_set (z := z) (k := x.length) (by omega) cr
 rw [List.take_of_length_le (by simp; omega)] at this
 rw [this]
 rw [List.take_length] at g3
 omega
/-- What divSmall's loop knows behind k places from the top. -/
def DsRel (x z : List Int) (d : Int) (k : Nat) (rs : Int) : Prop := Lim z ∧ z.length = x.length ∧ val (x.drop (x.length - k)) = d * val (z.drop (x.length - k)) + rs
theorem DsRel.start (x : List Int) (d : Int) : DsRel x (List.replicate x.length 0) d 0 0 := ⟨Lim.zeros _, by simp, by simp [val]⟩
theorem DsRel.next {x z : List Int} {d : Int} {k i : Nat} {rs : Int} (h : DsRel x z d k rs) (hi : i + 1 + k = x.length) (hx : Lim x) (hd : 0 < d) (h0 : 0 ≤ rs) (h1 : rs < d) :
  DsRel x (z.set i ((rs * 1000000000 + nth x i) / d)) d (k + 1) ((rs * 1000000000 + nth x i) % d) := by
 obtain ⟨g1, g2, g3⟩ := h
 have hxi := hx.nth i
 refine ⟨g1.set _ (Int.ediv_nonneg (by omega) (by omega)) ?_, by simp [g2], ?_⟩
 ·apply Int.ediv_lt_of_lt_mul hd
  have : rs + 1 ≤ d := by omega
  omega
 ·have e1 : x.length - (k + 1) = i := by omega
  have e2 : x.length - k = i + 1 := by omega
  rw [e2] at g3
  rw [e1, val_drop (l := x) (by omega), val_drop (l := z.set i _) (by rw [List.length_set]; omega), nth_set_eq (by omega), drop_set_lt (by omega), g3]
  have := Int.emod_add_mul_ediv (rs * 1000000000 + nth x i) d
  grind
theorem DsRel.done {x z : List Int} {d rs : Int} (h : DsRel x z d x.length rs) (hd : 0 < d) (h0 : 0 ≤ rs) (h1 : rs < d) : Lim z ∧ val z = val x / d ∧ rs = val x % d := by
 obtain ⟨g1, g2, g3⟩ := h
 rw [Nat.sub_self, List.drop_zero, List.drop_zero] at g3
 refine ⟨g1, ?_, ?_⟩
 ·rw [g3, Int.add_comm, Int.add_mul_ediv_left _ _ (by omega), Int.ediv_eq_zero_of_lt h0 h1]; omega
 ·rw [g3, Int.add_comm, Int.add_mul_emod_self_left, Int.emod_eq_of_lt h0 h1]
end Num
/-
  Plain arithmetic of long division (one step): no program in sight.
-/
namespace Num
theorem mul_lt_of {a b c : Int} (hc : 0 < c) (h : a < b) : a * c < b * c := Int.mul_lt_mul_of_pos_right h hc
theorem mul_le_of {a b c : Int} (hc : 0 ≤ c) (h : a ≤ b) : a * c ≤ b * c := Int.mul_le_mul_of_nonneg_right h hc
theorem lt_of_mul {a b c : Int} (hc : 0 < c) (h : a * c < b * c) : a < b := by
 rcases Int.lt_or_le a b with h1 | h1
 ·exact h1
 ·have := mul_le_of (c := c) (by omega) h1; omega
/-- The two highest limbs of the divisor, the three highest of the dividend. -/
theorem top2 {y : List Int} {m : Nat} (hl : Lim y) (hm : y.length = m + 2) : ∃ r, val y = (nth y (m + 1) * 1000000000 + nth y m) * pw m + r ∧ 0 ≤ r ∧ r < pw m := by
 refine ⟨val (y.take m), ?_, (val_bound (hl.take m)).1, by have := (val_bound (hl.take m)).2; rwa [List.length_take, Nat.min_eq_left (by omega)] at this⟩
 have h1 := val_split y (i := m) (by omega)
 rw [val_drop (by omega), val_drop (i := m + 1) (by omega), List.drop_eq_nil_of_le (by omega), val_nil] at h1
 grind
theorem top3 {y : List Int} {m : Nat} (hl : Lim y) (hm : y.length = m + 3) : ∃ r, val y = ((nth y (m + 2) * 1000000000 + nth y (m + 1)) * 1000000000 + nth y m) * pw m + r ∧ 0 ≤ r ∧ r < pw m := by
 refine ⟨val (y.take m), ?_, (val_bound (hl.take m)).1, by have := (val_bound (hl.take m)).2; rwa [List.length_take, Nat.min_eq_left (by omega)] at this⟩
 have h1 := val_split y (i := m) (by omega)
 rw [val_drop (by omega), val_drop (i := m + 1) (by omega), val_drop (i := m + 2) (by omega), List.drop_eq_nil_of_le (by omega), val_nil] at h1
 grind
/-- What is known of divisor and dividend of one step. -/
structure Step (y W : List Int) (m : Nat) : Prop where
 ly : Lim y
 lW : Lim W
 ny : y.length = m + 2
 nW : W.length = m + 3
 top : 500000000 ≤ nth y (m + 1)
 small : val W < 1000000000 * val y
section
variable {y W : List Int} {m : Nat}
def Q (y W : List Int) : Int := val W / val y
theorem Step.pos (h : Step y W m) : 0 < val y := by
 obtain ⟨r, e, h0, h1⟩ := top2 h.ly h.ny
 have hp := pw_pos m
 have h2 := h.ly.nth m
 have h3 := h.top
 have : 1 * pw m ≤ (nth y (m + 1) * 1000000000 + nth y m) * pw m := mul_le_of (by omega) (by omega)
 omega
theorem Step.q (h : Step y W m) : 0 ≤ Q y W ∧ Q y W < 1000000000 ∧ Q y W * val y ≤ val W ∧ val W < Q y W * val y + val y := by
 have hp := h.pos
 have h0 := (val_bound h.lW).1
 refine ⟨Int.ediv_nonneg h0 (by omega), Int.ediv_lt_of_lt_mul hp h.small, Int.ediv_mul_le _ (by omega), ?_⟩
 have h1 := Int.emod_add_mul_ediv (val W) (val y)
 have h2 := Int.emod_lt_of_pos (val W) hp
 unfold Q
 rw [Int.mul_comm (val W / val y)]
 omega
theorem Step.u2 (h : Step y W m) : nth W (m + 2) ≤ nth y (m + 1) := by
 obtain ⟨r, e, h0, h1⟩ := top2 h.ly h.ny
 obtain ⟨s, e', h0', h1'⟩ := top3 h.lW h.nW
 have hp := pw_pos m
 have hs := h.small
 have a1 := h.lW.nth (m + 1)
 have a0 := h.lW.nth m
 have b0 := h.ly.nth m
 rcases Int.lt_or_le (nth y (m + 1)) (nth W (m + 2)) with hlt | hle
 ·exfalso
  have g1 : ((nth y (m + 1) + 1) * 1000000000 * 1000000000) * pw m ≤ ((nth W (m + 2) * 1000000000 + nth W (m + 1)) * 1000000000 + nth W m) * pw m := mul_le_of (by omega) (by omega)
  have g2 : (nth y (m + 1) * 1000000000 + nth y m + 1) * pw m ≤ ((nth y (m + 1) + 1) * 1000000000) * pw m := mul_le_of (by omega) (by omega)
  rw [Int.add_mul, Int.one_mul] at g2
  rw [show (nth y (m + 1) + 1) * 1000000000 * 1000000000 * pw m = 1000000000 * ((nth y (m + 1) + 1) * 1000000000 * pw m) by grind] at g1
  omega
 ·exact hle
def head (W : List Int) (m : Nat) : Int := nth W (m + 2) * 1000000000 + nth W (m + 1)
/-- What the loop over the guess knows. -/
structure Guess (y W : List Int) (m : Nat) (G R : Int) : Prop where
 eq : G * nth y (m + 1) + R = head W m
 g0 : 0 ≤ G
 g1 : G ≤ 1000000001
 r0 : 0 ≤ R
 qle : Q y W ≤ G
theorem Step.first (h : Step y W m) : Guess y W m (head W m / nth y (m + 1)) (head W m % nth y (m + 1)) := by
 have ht := h.top
 have hu := h.u2
 have a2 := h.lW.nth (m + 2)
 have a1 := h.lW.nth (m + 1)
 have a0 := h.lW.nth m
 have b1 := h.ly.nth (m + 1)
 have b0 := h.ly.nth m
 refine ⟨?_, Int.ediv_nonneg (by unfold head; omega) (by omega), ?_, Int.emod_nonneg _ (by omega), ?_⟩
 ·rw [Int.mul_comm, Int.add_comm]; exact Int.emod_add_mul_ediv _ _
 ·have : head W m / nth y (m + 1) < 1000000002 := by
   apply Int.ediv_lt_of_lt_mul (by omega)
   unfold head
   omega
  omega
 ·rw [Int.le_ediv_iff_mul_le (by omega)]
  obtain ⟨r, e, h0, h1⟩ := top2 h.ly h.ny
  obtain ⟨s, e', h0', h1'⟩ := top3 h.lW h.nW
  obtain ⟨q0, q1, q2, q3⟩ := h.q
  have hp := pw_pos m
  have g1 : Q y W * (nth y (m + 1) * 1000000000 * pw m) ≤ Q y W * val y := Int.mul_le_mul_of_nonneg_left (by
   have : nth y (m + 1) * 1000000000 * pw m ≤ (nth y (m + 1) * 1000000000 + nth y m) * pw m := mul_le_of (by omega) (by omega)
   omega) q0
  have g2 : val W < (head W m + 1) * 1000000000 * pw m := by
   have : ((nth W (m + 2) * 1000000000 + nth W (m + 1)) * 1000000000 + nth W m + 1) * pw m ≤ (head W m + 1) * 1000000000 * pw m := mul_le_of (by omega) (by unfold head; omega)
   rw [Int.add_mul _ 1 (pw m), Int.one_mul] at this
   omega
  have g3 : (Q y W * nth y (m + 1)) * (1000000000 * pw m) < (head W m + 1) * (1000000000 * pw m) := by
   rw [show (Q y W * nth y (m + 1)) * (1000000000 * pw m) = Q y W * (nth y (m + 1) * 1000000000 * pw m) by grind, show (head W m + 1) * (1000000000 * pw m) = (head W m + 1) * 1000000000 * pw m by grind]
   omega
  have := lt_of_mul (by omega) g3
  omega
theorem Guess.big (h : Step y W m) {G R : Int} (g : Guess y W m G R) (hb : 1000000000 ≤ G) : Guess y W m (G - 1) (R + nth y (m + 1)) := by
 obtain ⟨q0, q1, q2, q3⟩ := h.q
 have ht := h.top
 exact ⟨by have := g.eq; rw [Int.sub_mul]; omega, by omega, by have := g.g1; omega, by have := g.r0; omega, by omega⟩
theorem Guess.over (h : Step y W m) {G R : Int} (g : Guess y W m G R) (hb : R * 1000000000 + nth W m < G * nth y m) : Guess y W m (G - 1) (R + nth y (m + 1)) := by
 obtain ⟨q0, q1, q2, q3⟩ := h.q
 have ht := h.top
 have a0 := h.lW.nth m
 have b0 := h.ly.nth m
 have hG : 0 < G := by
  rcases Int.lt_or_le 0 G with h1 | h1
  ·exact h1
  ·have : G = 0 := by have := g.g0; omega
   rw [this] at hb
   have := g.r0
   omega
 refine ⟨by have := g.eq; rw [Int.sub_mul]; omega, by omega, by have := g.g1; omega, by have := g.r0; omega, ?_⟩
 rcases Int.lt_or_le (Q y W) G with h1 | h1
 ·omega
 ·exfalso
  have hq : Q y W = G := by have := g.qle; omega
  rw [hq] at q2
  obtain ⟨r, e, h0, h1⟩ := top2 h.ly h.ny
  obtain ⟨s, e', h0', h1'⟩ := top3 h.lW h.nW
  have hp := pw_pos m
  have g1 : G * ((nth y (m + 1) * 1000000000 + nth y m) * pw m) ≤ G * val y := Int.mul_le_mul_of_nonneg_left (by omega) (by omega)
  have g3 : (G * (nth y (m + 1) * 1000000000 + nth y m)) * pw m < (head W m * 1000000000 + nth W m + 1) * pw m := by
   rw [Int.mul_assoc, Int.add_mul _ 1 (pw m), Int.one_mul]
   unfold head
   omega
  have g4 := lt_of_mul (by omega) g3
  have g5 := g.eq
  rw [show G * (nth y (m + 1) * 1000000000 + nth y m) = 1000000000 * (G * nth y (m + 1)) + G * nth y m by grind] at g4
  omega
/-- At the loop's end the guess is the quotient or one more. -/
theorem Guess.done (h : Step y W m) {G R : Int} (g : Guess y W m G R) (hG : G ≤ 1000000000) (hb : G * nth y m ≤ R * 1000000000 + nth W m) : Q y W ≤ G ∧ G ≤ Q y W + 1 := by
 refine ⟨g.qle, ?_⟩
 obtain ⟨q0, q1, q2, q3⟩ := h.q
 obtain ⟨r, e, h0, h1⟩ := top2 h.ly h.ny
 obtain ⟨s, e', h0', h1'⟩ := top3 h.lW h.nW
 have hp := pw_pos m
 have ht := h.top
 have b0 := h.ly.nth m
 have hg0 := g.g0
 have e2 := g.eq
 have g1 : (G * (nth y (m + 1) * 1000000000 + nth y m)) * pw m ≤ (head W m * 1000000000 + nth W m) * pw m := mul_le_of (by omega) (by
  rw [show G * (nth y (m + 1) * 1000000000 + nth y m) = 1000000000 * (G * nth y (m + 1)) + G * nth y m by grind]
  omega)
 have g2 : G * r ≤ 1000000000 * r := mul_le_of h0 hG
 have g3 : 1000000000 * pw m ≤ (nth y (m + 1) * 1000000000 + nth y m) * pw m := mul_le_of (by omega) (by omega)
 have g4 : G * val y < val W + val y := by
  unfold head at g1
  have k1 : G * val y = G * (nth y (m + 1) * 1000000000 + nth y m) * pw m + G * r := by rw [e, Int.mul_add, Int.mul_assoc]
  omega
 have hpos := h.pos
 have g5 : G * val y < (Q y W + 2) * val y := by
  rw [Int.add_mul]
  omega
 have := lt_of_mul hpos g5
 omega
theorem Guess.brk (h : Step y W m) {G R : Int} (g : Guess y W m G R) (hG : G ≤ 1000000000) (hR : 1000000000 ≤ R) : Q y W ≤ G ∧ G ≤ Q y W + 1 := by
 refine Guess.done h g hG ?_
 have b0 := h.ly.nth m
 have a0 := h.lW.nth m
 have hg0 := g.g0
 have : G * nth y m ≤ 1000000000 * nth y m := mul_le_of b0.1 hG
 omega
/-- The subtraction's loop: Z is the window as it stands. -/
structure SubW (y W Z : List Int) (G : Int) (i : Nat) (c b : Int) : Prop where
 lZ : Lim Z
 nZ : Z.length = W.length
 b0 : 0 ≤ b
 b1 : b ≤ 1
 c0 : 0 ≤ c
 c1 : c < 1000000000
 eq : val (Z.take i) + G * val (y.take i) = val (W.take i) + pw i * (c + b)
 rest : ∀ j, i ≤ j → nth Z j = nth W j
 last : y.length < i → c = 0
theorem SubW.start (hW : Lim W) (G : Int) : SubW y W W G 0 0 0 := ⟨hW, rfl, by omega, by omega, by omega, by omega, by simp [val], fun _ _ => rfl, fun _ => rfl⟩
theorem SubW.next {Z : List Int} {G c b p t x b' : Int} {i : Nat} (h : SubW y W Z G i c b) (hi : i < W.length) (hG0 : 0 ≤ G) (hG : G ≤ 1000000000) (hy : Lim y) (hp : p = c + G * nth y i) (ht : t = p % 1000000000 + b)
  (hx : x + t = nth Z i + 1000000000 * b') (hx0 : 0 ≤ x) (hx1 : x < 1000000000) (hb0 : 0 ≤ b') (hb1 : b' ≤ 1) : SubW y W (Z.set i x) G (i + 1) (p / 1000000000) b' := by
 have hyi := hy.nth i
 have hp0 : 0 ≤ G * nth y i ∧ G * nth y i ≤ 1000000000 * nth y i := ⟨Int.mul_nonneg hG0 hyi.1, mul_le_of hyi.1 hG⟩
 refine ⟨h.lZ.set i hx0 hx1, by rw [List.length_set]; exact h.nZ, hb0, hb1, by have := h.c0; omega, by have := h.c1; omega, ?_, fun j hj => by rw [nth_set_ne (by omega)]; exact h.rest j (by omega), fun hn => ?_⟩
 ·rw [val_take_set (by have := h.nZ; omega), val_take_step y, val_take_step W, pw_succ]
  have e1 := h.eq
  have e2 := h.rest i (Nat.le_refl _)
  have e3 := Int.emod_add_mul_ediv p 1000000000
  grind
 ·have : nth y i = 0 := nth_of_ge (by omega)
  rw [this] at hp
  have := h.c0
  have := h.c1
  omega
/-- No borrow is left: that was the quotient. -/
theorem SubW.fits (h : Step y W m) {Z : List Int} {G c : Int} (s : SubW y W Z G (m + 3) c 0) (hG : Q y W ≤ G) : Q y W = G ∧ val Z = val W % val y := by
 have e := s.eq
 have hc := s.last (by rw [h.ny]; omega)
 rw [List.take_of_length_le (by rw [s.nZ, h.nW]; omega), List.take_of_length_le (by rw [h.ny]; omega), List.take_of_length_le (by rw [h.nW]; omega), hc] at e
 have hz := (val_bound s.lZ).1
 have hpos := h.pos
 obtain ⟨q0, q1, q2, q3⟩ := h.q
 simp only [Int.add_zero, Int.mul_zero] at e
 have h1 : G * val y < (Q y W + 1) * val y := by rw [Int.add_mul]; omega
 have h2 := lt_of_mul hpos h1
 have h3 : Q y W = G := by omega
 refine ⟨h3, ?_⟩
 have h4 := Int.emod_add_mul_ediv (val W) (val y)
 unfold Q at h3
 rw [← h3, Int.mul_comm] at e
 omega
/-- A borrow is left: it was one too many. -/
theorem SubW.over (h : Step y W m) {Z : List Int} {G c : Int} (s : SubW y W Z G (m + 3) c 1) (hG : G ≤ Q y W + 1) : Q y W = G - 1 ∧ val Z + val y = val W % val y + pw (m + 3) := by
 have e := s.eq
 have hc := s.last (by rw [h.ny]; omega)
 rw [List.take_of_length_le (by rw [s.nZ, h.nW]; omega), List.take_of_length_le (by rw [h.ny]; omega), List.take_of_length_le (by rw [h.nW]; omega), hc] at e
 have hz := (val_bound s.lZ).2
 rw [s.nZ, h.nW] at hz
 have hpos := h.pos
 obtain ⟨q0, q1, q2, q3⟩ := h.q
 simp only [Int.zero_add, Int.mul_one] at e
 have h1 : Q y W * val y < G * val y := by omega
 have h2 := lt_of_mul hpos h1
 have h3 : Q y W = G - 1 := by omega
 refine ⟨h3, ?_⟩
 have h4 := Int.emod_add_mul_ediv (val W) (val y)
 unfold Q at h3
 have h5 : G = val W / val y + 1 := by omega
 rw [h5, Int.add_mul, Int.mul_comm] at e
 omega
/-- The addition back. -/
structure BackW (y W Z : List Int) (i : Nat) (c : Int) : Prop where
 lZ : Lim Z
 nZ : Z.length = W.length
 c0 : 0 ≤ c
 c1 : c ≤ 1
 eq : val (Z.take i) + pw i * c = val (W.take i) + val (y.take i)
 rest : ∀ j, i ≤ j → nth Z j = nth W j
theorem BackW.start (hW : Lim W) : BackW y W W 0 0 := ⟨hW, rfl, by omega, by omega, by simp [val], fun _ _ => rfl⟩
theorem BackW.next {Z : List Int} {c x c' : Int} {i : Nat} (h : BackW y W Z i c) (hi : i < W.length) (hx : x + 1000000000 * c' = nth Z i + c + nth y i) (hx0 : 0 ≤ x) (hx1 : x < 1000000000) (hb0 : 0 ≤ c') (hb1 : c' ≤ 1) : BackW y W (Z.set i x) (i + 1) c' := by
 refine ⟨h.lZ.set i hx0 hx1, by rw [List.length_set]; exact h.nZ, hb0, hb1, ?_, fun j hj => by rw [nth_set_ne (by omega)]; exact h.rest j (by omega)⟩
 rw [val_take_set (by have := h.nZ; omega), val_take_step y, val_take_step W, pw_succ]
 have e1 := h.eq
 have e2 := h.rest i (Nat.le_refl _)
 grind
theorem BackW.done {Z : List Int} {c r : Int} {P : Nat} (s : BackW y W Z P c) (hy : y.length ≤ P) (hW : W.length = P) (e : val W + val y = r + pw P) (h0 : 0 ≤ r) (h1 : r < pw P) : val Z = r := by
 have e1 := s.eq
 rw [List.take_of_length_le (by rw [s.nZ]; omega), List.take_of_length_le (by omega), List.take_of_length_le hy] at e1
 have hz := val_bound s.lZ
 rw [s.nZ, hW] at hz
 have hc : c = 1 := by
  rcases Int.lt_or_le c 1 with h2 | h2
  ·have : c = 0 := by have := s.c0; omega
   rw [this] at e1
   omega
  ·have := s.c1; omega
 rw [hc] at e1
 omega
end
/-- The divisor's first limb, scaled, is at least half the base. -/
theorem scaled {t s r : Int} (ht : 1 ≤ t) (ht9 : t < 1000000000) (e : s * (t + 1) + r = 1000000000) (h0 : 0 ≤ r) (h1 : r < t + 1) : 500000000 ≤ s * t := by
 have hs : 0 ≤ s := by
  rcases Int.lt_or_le s 0 with h | h
  ·have : s * (t + 1) ≤ -1 * (t + 1) := mul_le_of (by omega) (by omega)
   omega
  ·exact h
 have e1 : s * (t + 1) = s * t + s := by grind
 rcases Int.lt_or_le s 2 with h2 | h2
 ·have : s = 0 ∨ s = 1 := by omega
  rcases this with h3 | h3
  ·rw [h3] at e1; rw [h3] at e; omega
  ·rw [h3] at e1; rw [h3] at e; rw [h3]; omega
 ·rcases Int.lt_or_le t 2 with h3 | h3
  ·have : t = 1 := by omega
   rw [this] at e ⊢
   omega
  ·have h4 : 0 ≤ (s - 2) * (t - 1) := Int.mul_nonneg (by omega) (by omega)
   have h5 : (s - 2) * (t - 1) = s * t - s - 2 * t + 2 := by grind
   omega
end Num
/-
  Plain arithmetic of long division (all digits): no program in sight.
-/
namespace Num
/-- What div's loop knows: digits from place j on are reckoned. -/
structure DivRel (U0 V : Int) (n L : Nat) (u q : List Int) (j : Nat) : Prop where
 lu : Lim u
 lq : Lim q
 nu : u.length = L
 nq : q.length + n = L
 jq : j ≤ q.length
 eq : val u + V * (pw j * val (q.drop j)) = U0
 lt : val (u.drop j) < V
section
variable {U0 V : Int} {n L j : Nat} {u q y : List Int}
def win (u : List Int) (j n : Nat) : List Int := (u.drop j).take (n + 1)
theorem win_split (u : List Int) (j n : Nat) : u = u.take j ++ (win u j n ++ u.drop (j + (n + 1))) := by
 unfold win
 rw [← List.drop_drop, List.take_append_drop, List.take_append_drop]
theorem DivRel.wlen (h : DivRel U0 V n L u q (j + 1)) : (win u j n).length = n + 1 := by
 unfold win
 rw [List.length_take, List.length_drop]
 have := h.nu; have := h.nq; have := h.jq
 omega
theorem DivRel.post (h : DivRel U0 V n L u q (j + 1)) (hV : V ≤ pw n) : val (u.drop (j + (n + 1))) = 0 := by
 have h1 := h.lt
 have hj : j + (n + 1) ≤ u.length := by have := h.nu; have := h.nq; have := h.jq; omega
 have h2 := val_split (u.drop (j + 1)) (i := n) (by rw [List.length_drop]; omega)
 rw [List.drop_drop, show j + 1 + n = j + (n + 1) by omega] at h2
 have h3 := (val_bound ((h.lu.drop (j + 1)).take n)).1
 have h4 := (val_bound (h.lu.drop (j + (n + 1)))).1
 rcases Int.lt_or_le 0 (val (u.drop (j + (n + 1)))) with h5 | h5
 ·have h6 : pw n * 1 ≤ pw n * val (u.drop (j + (n + 1))) := Int.mul_le_mul_of_nonneg_left (by omega) (by have := pw_pos n; omega)
  omega
 ·omega
theorem DivRel.wval (h : DivRel U0 V n L u q (j + 1)) (hV : V ≤ pw n) : val (win u j n) = val (u.drop j) := by
 have hp := h.post hV
 have h2 := val_split (u.drop j) (i := n + 1) (by rw [List.length_drop]; have := h.nu; have := h.nq; have := h.jq; omega)
 rw [List.drop_drop, hp] at h2
 unfold win
 omega
theorem DivRel.step (h : DivRel U0 V n L u q (j + 1)) (hy : Lim y) (hn : y.length = n) (hyV : val y = V) {m : Nat} (hm : n = m + 2) (ht : 500000000 ≤ nth y (m + 1)) : Step y (win u j n) m := by
 have hV : V ≤ pw n := by have := (val_bound hy).2; rw [hn, hyV] at this; omega
 refine ⟨hy, (h.lu.drop j).take _, by omega, by rw [h.wlen]; omega, ht, ?_⟩
 rw [h.wval hV, val_drop (by have := h.nu; have := h.nq; have := h.jq; omega), hyV]
 have := h.lu.nth j
 have := h.lt
 omega
theorem DivRel.next (h : DivRel U0 V n L u q (j + 1)) (hV : V ≤ pw n) (hV0 : 0 < V) {W' : List Int} (hW : Lim W') (hl : W'.length = (win u j n).length) (hv : val W' = val (win u j n) % V) (hq0 : 0 ≤ val (win u j n) / V) (hq1 : val (win u j n) / V < 1000000000) :
  DivRel U0 V n L (u.take j ++ (W' ++ u.drop (j + (n + 1)))) (q.set j (val (win u j n) / V)) j := by
 have hjq : j < q.length := by have := h.jq; omega
 have hju : j + (n + 1) ≤ u.length := by have := h.nu; have := h.nq; omega
 have hp := h.post hV
 have hw := h.wval hV
 have hlen : (u.take j ++ (W' ++ u.drop (j + (n + 1)))).length = L := by
  rw [List.length_append, List.length_append, List.length_take, List.length_drop, hl, h.wlen]
  have := h.nu
  omega
 have htj : (u.take j).length = j := by rw [List.length_take]; omega
 refine ⟨(h.lu.take j).append (hW.append (h.lu.drop _)), h.lq.set j hq0 hq1, hlen, by rw [List.length_set]; exact h.nq, by rw [List.length_set]; omega, ?_, ?_⟩
 ·have e := h.eq
  have h1 := val_split u (i := j) (by omega)
  rw [val_append, val_append, hp, htj, hv, val_drop (l := q.set j _) (by rw [List.length_set]; exact hjq), nth_set_eq hjq, drop_set_lt (by omega)]
  rw [← hw] at h1
  rw [pw_succ] at e
  have h2 := Int.emod_add_mul_ediv (val (win u j n)) V
  grind
 ·have hd : (u.take j ++ (W' ++ u.drop (j + (n + 1)))).drop j = W' ++ u.drop (j + (n + 1)) := by
   conv => lhs; rw [← htj]
   rw [htj, List.drop_left' htj]
  rw [hd, val_append, hp, hv]
  have := Int.emod_lt_of_pos (val (win u j n)) hV0
  omega
theorem DivRel.done (h : DivRel U0 V n L u q 0) (hV0 : 0 < V) (hV : V ≤ pw n) (hn : n ≤ L) : val q = U0 / V ∧ val u = U0 % V ∧ val (u.take n) = val u := by
 have e := h.eq
 have hl := h.lt
 rw [List.drop_zero] at hl
 rw [List.drop_zero, pw_zero, Int.one_mul] at e
 have h0 := (val_bound h.lu).1
 refine ⟨?_, ?_, ?_⟩
 ·rw [← e, Int.add_mul_ediv_left _ _ (by omega), Int.ediv_eq_zero_of_lt h0 hl]; omega
 ·rw [← e, Int.add_mul_emod_self_left, Int.emod_eq_of_lt h0 hl]
 ·have h2 := val_split u (i := n) (by have := h.nu; omega)
  have h3 := (val_bound (h.lu.take n)).1
  have h4 := (val_bound (h.lu.drop n)).1
  rcases Int.lt_or_le 0 (val (u.drop n)) with h5 | h5
  ·have h6 : pw n * 1 ≤ pw n * val (u.drop n) := Int.mul_le_mul_of_nonneg_left (by omega) (by have := pw_pos n; omega)
   omega
  ·have : val (u.drop n) = 0 := by omega
   rw [this] at h2
   omega
end
/-- How the loop over the digits begins. -/
theorem DivRel.start {x y u v : List Int} {s : Int} {n : Nat} (hx : Nrm x) (hy : Nrm y) (hxy : y.length ≤ x.length) (hn : y.length = n) (h0 : 0 < n) (hs : 1 ≤ s) (hu : Lim u) (hul : u.length = x.length + 1) (huv : val u = val x * s) (hv : v = List.replicate (x.length + 1 - n) 0) :
  DivRel (val x * s) (val y * s) n (x.length + 1) u v (x.length + 1 - n) := by
 subst hv
 refine ⟨hu, Lim.zeros _, hul, by rw [List.length_replicate]; omega, by rw [List.length_replicate]; omega, ?_, ?_⟩
 ·rw [List.drop_eq_nil_of_le (by rw [List.length_replicate]; omega), val_nil, huv]; omega
 ·have h1 := val_split u (i := x.length + 1 - n) (by omega)
  have h2 := (val_bound (hu.take (x.length + 1 - n))).1
  have h3 := (val_bound hx.1).2
  have h4 := nrm_low hy (by omega)
  rw [hn] at h4
  have h5 := pw_add (x.length + 1 - n) (n - 1)
  rw [show x.length + 1 - n + (n - 1) = x.length by omega] at h5
  have hp := pw_pos (x.length + 1 - n)
  have g1 : val x * s < pw x.length * s := mul_lt_of (by omega) h3
  have g2 : pw (n - 1) * s ≤ val y * s := mul_le_of (by omega) h4
  have g3 : val (u.drop (x.length + 1 - n)) * pw (x.length + 1 - n) < (pw (n - 1) * s) * pw (x.length + 1 - n) := by
   rw [huv] at h1
   rw [show (pw (n - 1) * s) * pw (x.length + 1 - n) = pw x.length * s by rw [h5]; grind, Int.mul_comm (val _)]
   omega
  have := lt_of_mul hp g3
  omega
/-- The divisor, scaled, fits into its limbs, and its highest limb is great. -/
theorem scale_fits {y : List Int} {n m : Nat} {s : Int} (hy : Nrm y) (hn : y.length = n) (hm : n = m + 2) (hs : s = 1000000000 / (nth y (n - 1) + 1)) : 1 ≤ s ∧ s < 1000000000 ∧ val y * s < pw n ∧ 0 < val y := by
 have hz : nth y (n - 1) ≠ 0 := by have := hy.2; rw [hn] at this; exact this.resolve_left (by omega)
 have hb := hy.1.nth (n - 1)
 have h1 := Int.emod_add_mul_ediv 1000000000 (nth y (n - 1) + 1)
 have h2 := Int.emod_nonneg 1000000000 (show nth y (n - 1) + 1 ≠ 0 by omega)
 have h3 := Int.emod_lt_of_pos 1000000000 (show 0 < nth y (n - 1) + 1 by omega)
 rw [← hs] at h1
 have hs1 : 1 ≤ s := by
  rw [hs, Int.le_ediv_iff_mul_le (by omega)]
  omega
 have hs2 : s < 1000000000 := by
  rw [hs]
  apply Int.ediv_lt_of_lt_mul (by omega)
  omega
 refine ⟨hs1, hs2, ?_, nrm_pos hy (by omega)⟩
 have h4 := val_split y (i := n - 1) (by omega)
 have h5 := (val_bound (hy.1.take (n - 1))).2
 rw [List.length_take, Nat.min_eq_left (by omega)] at h5
 rw [val_drop (by omega), List.drop_eq_nil_of_le (by omega), val_nil] at h4
 have h6 : val y < pw (n - 1) * (nth y (n - 1) + 1) := by
  rw [show pw (n - 1) * (nth y (n - 1) + 1) = pw (n - 1) * (nth y (n - 1) + 1000000000 * 0) + pw (n - 1) by grind]
  omega
 have h7 : val y * s < pw (n - 1) * (nth y (n - 1) + 1) * s := mul_lt_of (by omega) h6
 have h8 : pw (n - 1) * ((nth y (n - 1) + 1) * s) ≤ pw (n - 1) * 1000000000 := Int.mul_le_mul_of_nonneg_left (by omega) (by have := pw_pos (n - 1); omega)
 have h9 := pw_succ (n - 1)
 rw [show n - 1 + 1 = n by omega] at h9
 rw [Int.mul_assoc] at h7
 omega
theorem scale_top {y v : List Int} {n m : Nat} {s : Int} (hy : Nrm y) (hn : y.length = n) (hm : n = m + 2) (hs : s = 1000000000 / (nth y (n - 1) + 1)) (hv : Lim v) (hvl : v.length = n) (hvv : val v = val y * s) : 500000000 ≤ nth v (m + 1) := by
 have hz : nth y (n - 1) ≠ 0 := by have := hy.2; rw [hn] at this; exact this.resolve_left (by omega)
 have hb := hy.1.nth (n - 1)
 have h1 := Int.emod_add_mul_ediv 1000000000 (nth y (n - 1) + 1)
 have h2 := Int.emod_nonneg 1000000000 (show nth y (n - 1) + 1 ≠ 0 by omega)
 have h3 := Int.emod_lt_of_pos 1000000000 (show 0 < nth y (n - 1) + 1 by omega)
 rw [← hs] at h1
 have h10 := scaled (t := nth y (n - 1)) (s := s) (r := 1000000000 % (nth y (n - 1) + 1)) (by omega) hb.2 (by rw [Int.mul_comm]; omega) h2 h3
 have h4 := val_split y (i := n - 1) (by omega)
 have h5 := (val_bound (hy.1.take (n - 1))).1
 rw [val_drop (by omega), List.drop_eq_nil_of_le (by omega), val_nil] at h4
 have g4 := val_split v (i := n - 1) (by omega)
 have g5 := (val_bound (hv.take (n - 1))).2
 rw [List.length_take, Nat.min_eq_left (by omega)] at g5
 rw [val_drop (by omega), List.drop_eq_nil_of_le (by omega), val_nil] at g4
 have hs1 : 0 ≤ s := by
  rw [hs]
  exact Int.ediv_nonneg (by omega) (by omega)
 have g6 : pw (n - 1) * nth y (n - 1) ≤ val y := by
  rw [show pw (n - 1) * nth y (n - 1) = pw (n - 1) * (nth y (n - 1) + 1000000000 * 0) by grind]
  omega
 have g7 : pw (n - 1) * nth y (n - 1) * s ≤ val y * s := mul_le_of hs1 g6
 have g8 : pw (n - 1) * 500000000 ≤ pw (n - 1) * (s * nth y (n - 1)) := Int.mul_le_mul_of_nonneg_left h10 (by have := pw_pos (n - 1); omega)
 have g9 : 500000000 * pw (n - 1) < (nth v (n - 1) + 1) * pw (n - 1) := by
  rw [Int.add_mul]
  rw [show pw (n - 1) * nth y (n - 1) * s = pw (n - 1) * (s * nth y (n - 1)) by grind] at g7
  rw [show nth v (n - 1) * pw (n - 1) = pw (n - 1) * (nth v (n - 1) + 1000000000 * 0) by grind]
  omega
 have := lt_of_mul (pw_pos (n - 1)) g9
 rw [show m + 1 = n - 1 by omega]
 omega
end Num
/-
  Plain arithmetic of limbs: the loops of the reference of layer 1.
-/
namespace Num
/-- What natAdd's loop knows. -/
def AddW (x y z : List Int) (k : Nat) (cr : Int) : Prop := Lim z ∧ z.length = k ∧ val z + pw k * cr = val (x.take k) + val (y.take k)
theorem AddW.start (x y : List Int) : AddW x y [] 0 0 := ⟨Lim.nil, rfl, by simp [val]⟩
theorem AddW.next {x y z : List Int} {k : Nat} {cr s : Int} (h : AddW x y z k cr) (e : s = cr + nth x k + nth y k) (h0 : 0 ≤ s) : AddW x y (z ++ [s % 1000000000]) (k + 1) (s / 1000000000) := by
 obtain ⟨h1, h2, h3⟩ := h
 refine ⟨h1.append (Lim.single (by omega) (by omega)), by simp [h2], ?_⟩
 rw [val_snoc, h2, val_take_step x, val_take_step y, pw_succ]
 have := Int.emod_add_mul_ediv s 1000000000
 grind
theorem AddW.done {x y z : List Int} {k : Nat} (h : AddW x y z k 0) (hx : x.length ≤ k) (hy : y.length ≤ k) : Lim z ∧ val z = val x + val y := by
 obtain ⟨h1, h2, h3⟩ := h
 rw [List.take_of_length_le hx, List.take_of_length_le hy] at h3
 exact ⟨h1, by omega⟩
/-- What natMul's loops know. -/
def MuW (x y z : List Int) (L i : Nat) : Prop := Lim z ∧ z.length = L ∧ val z = val (x.take i) * val y ∧ ∀ j, i + y.length ≤ j → nth z j = 0
def MuI (x y z : List Int) (L i k : Nat) (cr : Int) : Prop := Lim z ∧ z.length = L ∧ val z + pw (i + k) * cr = val (x.take i) * val y + pw i * (nth x i * val (y.take k)) ∧ (∀ j, i + y.length + 1 ≤ j → nth z j = 0) ∧ (k ≤ y.length → nth z (i + y.length) = 0)
theorem MuW.start (x y : List Int) (L : Nat) : MuW x y (List.replicate L 0) L 0 := ⟨Lim.zeros _, by simp, by rw [val_zeros]; simp [val], fun j _ => nth_zeros _ _⟩
theorem MuW.enter {x y z : List Int} {L i : Nat} (h : MuW x y z L i) : MuI x y z L i 0 0 := by
 obtain ⟨h1, h2, h3, h4⟩ := h
 exact ⟨h1, h2, by simp [val, h3], fun j hj => h4 j (by omega), fun _ => h4 _ (Nat.le_refl _)⟩
theorem MuI.next {x y z : List Int} {L i k : Nat} {cr s : Int} (h : MuI x y z L i k cr) (hk : i + k < L) (hky : k ≤ y.length) (e : s = cr + nth z (i + k) + nth x i * nth y k) (h0 : 0 ≤ s) :
  MuI x y (z.set (i + k) (s % 1000000000)) L i (k + 1) (s / 1000000000) := by
 obtain ⟨h1, h2, h3, h4, h5⟩ := h
 refine ⟨h1.set _ (by omega) (by omega), by simp [h2], ?_, fun j hj => by rw [nth_set_ne (by omega)]; exact h4 j hj, fun hle => by rw [nth_set_ne (by omega)]; exact h5 (by omega)⟩
 rw [val_set (by omega), val_take_step y, ← Nat.add_assoc, pw_succ]
 have e1 := Int.emod_add_mul_ediv s 1000000000
 have e2 := pw_add i k
 grind
theorem MuI.done {x y z : List Int} {L i k : Nat} (h : MuI x y z L i k 0) (hk : y.length ≤ k) : MuW x y z L (i + 1) := by
 obtain ⟨h1, h2, h3, h4, h5⟩ := h
 refine ⟨h1, h2, ?_, fun j hj => h4 j (by omega)⟩
 rw [val_take_step x]
 rw [List.take_of_length_le hk] at h3
 grind
theorem MuW.done {x y z : List Int} {L : Nat} (h : MuW x y z L x.length) : Lim z ∧ val z = val x * val y := by
 obtain ⟨h1, h2, h3, h4⟩ := h
 rw [List.take_length] at h3
 exact ⟨h1, h3⟩
end Num
end Go.Proofs.YtldkcpgnccknpaaGreat
