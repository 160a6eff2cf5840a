/-
  The parts FitA, FitB, FitC: the contracts of the program's functions and the plain laws below them; each part's own remark says which.
-/
import Derived.Test.YtldkcpgnccknpaaGreatMH
import Derived.Test.YtldkcpgnccknpaaGreatMG
import Derived.Deep.RegionWith
import Derived.Deep.RegionHeld3
set_option linter.unusedVariables false
set_option linter.unusedSimpArgs false
/-
  The contracts of Fit (package fit) and of rats (the law's own).
-/
namespace Go.Proofs.YtldkcpgnccknpaaGreat
open Go.RowKit Go.Proofs.YtldkcpgnccknpaaGreatW.PrintWords Go.Proofs.YtldkcpgnccknpaaGreatW.PrintMore Go.Proofs.YtldkcpgnccknpaaGreatW.PrintLast Num
set_option linter.unusedVariables false
theorem dls_zero {qs : List Rat} {i : Nat} (h : qs.length ≤ i) : (dls qs).getD i 0 = 0 := by
 rcases Nat.lt_or_ge i 33 with h1 | h1
 ·unfold dls
  rw [row_get _ h1, if_neg (by omega)]
 ·rw [List.getD_eq_getElem?_getD, List.getElem?_eq_none (by unfold dls; rw [row_length]; exact h1)]
  rfl
theorem dls_get {qs : List Rat} {i : Nat} (h : i < qs.length) (hl : qs.length ≤ 33) : (dls qs).getD i 0 = dl (vl qs) i 0 := by
 unfold dls
 rw [row_get _ (by omega), if_pos h]
theorem dls_tr {qs : List Rat} {m : Nat} (h : IsTr (dls qs) m) : m ≤ qs.length ∧ m ≤ 33 := by
 obtain ⟨h1, h2, h3⟩ := h
 refine ⟨?_, by have : (dls qs).length = 33 := row_length _; omega⟩
 rcases Nat.lt_or_ge qs.length m with h4 | h4
 ·exact absurd (dls_zero (show qs.length ≤ m - 1 by omega)) (h3 (by omega))
 ·exact h4
theorem tr_same {qs rs : List Rat} {m n : Nat} (h : IsTr qs m) (h' : IsTr rs n) (he : ∀ i, qs.getD i 0 = rs.getD i 0) : m = n := by
 obtain ⟨h1, h2, h3⟩ := h
 obtain ⟨g1, g2, g3⟩ := h'
 rcases Nat.lt_trichotomy m n with h | h | h
 ·exact absurd (by rw [← he]; exact h2 (n - 1) (by omega)) (g3 (by omega))
 ·exact h
 ·exact absurd (by rw [he]; exact g2 (m - 1) (by omega)) (h3 (by omega))
/-- Fit's answer. -/
def RetFit (ok : Nat → Prop) (qs : List Rat) (d : Int) (k : Nat) (w0 : World) (e : Ending) (w' : World) : Prop := ∃ m, IsTr (dls qs) m ∧ Below w0.heap.size w0 w' ∧
 ((d < (m : Int) - 1 ∧ e = .returned (.tuple #[.slice none 0 0, .bool false])) ∨ ((m : Int) - 1 ≤ d ∧ ∃ v, e = .returned (.tuple #[v, .bool true]) ∧ RQ w' ok v ((dls qs).take m) k))
set_option maxHeartbeats 1000000 in
theorem fit_rat (ok : Nat → Prop) (v0 : Value) (qs : List Rat) (d : Int) (k : Nat) (w : World) (hok : ∀ k, w.heap.size ≤ k → ok k) (h0 : RQ w ok v0 qs k) (hk : k ≤ 5000) (hl : qs.length ≤ 33) (hd0 : -1000000 ≤ d) (hd1 : d ≤ 1000000) :
  Calls Tryz.prog 9 #[v0, .int .i64 d] w (RetFit ok qs d (dk qs.length k + 1) w) := by
 have H0 := As h0
 have HOK := As hok
 have HK := As hk
 have HL := As hl
 clear h0 hok
 go_enter Tryz.func9, Tryz.ntmps9
 go_wp2_with fail
 with_reducible refine (diff_rat ok _ qs k _ HOK.out H0.out HK.out HL.out).mono ?_
 rintro e w2 ⟨v2, m, rfl, ht, hv, hb⟩
 have HT := As ht
 have HV := As hv
 have HB := As hb
 have hm33 := (dls_tr ht).2
 obtain ⟨A, c, rfl, _, _⟩ := hv.shape
 have hlt : ((dls qs).take m).length = m := by rw [List.length_take]; have := ht.1; omega
 rw [hlt]
 rw [hlt] at HV
 clear ht hv hb hlt
 by_cases h : d < (m : Int) - 1
 ·have hb : decide (d < (m : Int) - 1) = true := decide_eq_true h
  go_wp2
  go_ret2
  exact ⟨m, HT.out, HB.out, .inl ⟨h, rfl⟩⟩
 ·have hb : decide (d < (m : Int) - 1) = false := decide_eq_false h
  go_wp2
  go_ret2
  exact ⟨m, HT.out, HB.out, .inr ⟨by omega, _, rfl, HV.out⟩⟩
/-- The numbers of integers. -/
def ints (l : List Int) : List Rat := l.map (fun (x : Int) => (x : Rat))
def RetQs (ok : Nat → Prop) (qs : List Rat) (k : Nat) (w0 : World) (e : Ending) (w' : World) : Prop := ∃ v, e = .returned v ∧ RQ w' ok v qs k ∧ Below w0.heap.size w0 w'
theorem ints_next (l : List Int) {i : Nat} (h : i < l.length) : ints (l.take i) ++ [((l[i]'h : Int) : Rat)] = ints (l.take (i + 1)) := by
 unfold ints
 rw [List.take_add_one, List.getElem?_eq_getElem h, List.map_append]
 rfl
set_option maxRecDepth 100000 in
set_option maxHeartbeats 4000000 in
theorem rats_law (ok : Nat → Prop) (b T : Nat) (l : List Int) (w : World) (hok : ∀ k, w.heap.size ≤ k → ok k) (hb : w.heap[b]? = some (.cells (l.map (fun x => Value.int .i64 x)).toArray T (0, 0))) (hl : l.length ≤ 1000000) (hs : ∀ x ∈ l, -1000000 ≤ x ∧ x ≤ 1000000) :
  Calls Tryz.prog 10 #[.slice (some ⟨b, 0, none⟩) l.length l.length] w (RetQs ok (ints l) 3 w) := by
 have HB0 := As (Below.refl w.heap.size w)
 have HOK := As hok
 have HC := As hb
 have HS := As hs
 have HL := As (show l.length ≤ 1000000000 by omega)
 have HOKc := As (hok _ (Nat.le_refl _))
 clear hb hok hs
 go_enter Tryz.func10, Tryz.ntmps10
 go_wp2_with ((with_reducible refine gate_dst (N := 8) rfl ?_); refine rn_makecap 46 rfl (N' := 8) rfl 37 _ _ rfl l.length rfl rfl Tryz.underlying37 info_rat HOKc.out HL.out HB0.out HB0.out.size ?_; intro v1 w1 ho_ hb_; have HR := As ho_; have HB1 := As hb_; clear ho_ hb_)
 go_loopw [3, 11] (fun vo vi wr => ∃ i : Nat, vi = .int .i64 i ∧ i ≤ l.length ∧ Aside0 (RN 46 wr w.heap.size ok vo (ints (l.take i)) 3) ∧ Aside0 (Below w.heap.size w wr)) (fun _ vi _ => l.length - (intOf vi).toNat)
 case atStart => exact ⟨0, rfl, Nat.zero_le _, ⟨by rw [List.take_zero]; exact HR.out.more (Nat.zero_le _)⟩, HB1⟩
 case round =>
  clear HR HB1 HB0
  obtain ⟨i, rfl, hi, HR, HB⟩ := hrel
  by_cases hlt : i < l.length
  ·have hlb : decide ((i : Int) < (l.length : Int)) = true := decide_eq_true (by omega)
   have hcell : wr.cell? ⟨b, i, none⟩ = some (.int .i64 l[i]) := by
    rw [cell_of_row wr b i _ T (0, 0) ((HB.out.block _ (heap_lt_ HC.out)).trans HC.out)]
    simp [List.getElem?_eq_getElem hlt]
   obtain ⟨x, hx⟩ : ∃ x, l[i] = x := ⟨_, rfl⟩
   have hxs := HS.out l[i] (List.getElem_mem hlt)
   have HN := As (ints_next l hlt)
   rw [hx] at hcell hxs HN
   have HX1 := As (show (-9223372036854775808 : Int) ≤ x by omega)
   have HX2 := As (show x ≤ (9223372036854775807 : Int) by omega)
   have HRS := As (RS.int x (by omega))
   obtain ⟨okk, hokk⟩ : ∃ okk : Nat → Prop, okk = fun k => ok k ∧ some k ≠ u3.ownBlock := ⟨_, rfl⟩
   have HOKK := As hokk
   have HOK1 := As (show ∀ k, wr.heap.size ≤ k → okk k from fun k hk => by rw [hokk]; exact ⟨HOK.out k (Nat.le_trans HB.out.size hk), fun he => by obtain ⟨xs, h1, _⟩ := HR.out; have := Kd.N_lt h1 k he.symm; omega⟩)
   clear hx hxs hokk
   go_wp2_with fail
   with_reducible refine (fromInt_ref okk x _ HOK1.out HX1.out HX2.out).mono ?_
   rintro e w2 ⟨v2, rfl, hv, hb⟩
   have HV := As (hv.raw HRS.out)
   obtain ⟨b2, A3, m3, c3, A4, m4, c4, rfl⟩ := hv.shapeb
   rw [HOKK.out] at HV
   have HR2 := As (HR.out.below hb)
   have HB2 := As (below_step HB.out hb)
   have HOK2 := As (show ∀ k, w2.heap.size ≤ k → ok k from fun k hk => HOK.out k (Nat.le_trans HB2.out.size hk))
   have HLI := As (show (ints (l.take i)).length ≤ 1000000000 by unfold ints; rw [List.length_map, List.length_take]; omega)
   clear hv hb
   go_wp2_with ((with_reducible refine gate_builtin (b := .append) (xs := #[.tmp 15, .tmp 18]) rfl ?_); at_builtin; refine rn_append (w0 := w) (base := w.heap.size) rfl (.tmp 15) (.tmp 18) 37 46 rfl Tryz.underlying37 info_rat u3 (ints (l.take i)) (x : Rat) 3 ok rfl rfl HV.out HOK2.out HR2.out HB2.out HB2.out.size HLI.out ?_; intro v5 w5 hr_ hb_; rw [HN.out] at hr_; have HR5 := As hr_; have HB5 := As hb_; clear hr_ hb_)
   go_roundw
   case rel => exact ⟨i + 1, by go_num, by omega, HR5, HB5⟩
   case measure => simp [intOf]; omega
  ·have hlb : decide ((i : Int) < (l.length : Int)) = false := decide_eq_false (by omega)
   have he : i = l.length := by omega
   subst he
   rw [List.take_length] at HR
   go_wp2
   go_ret
   exact ⟨_, rfl, HR.out.rq, HB.out⟩
/-
  The contract of sane (the law's own example).
-/
theorem dls4 : ∀ i, (dls (ints [0, 1, 3, 6])).getD i 0 = ([0, 1, 1] : List Rat).getD i 0 := fun i => by
 have hl : (ints [0, 1, 3, 6]).length = 4 := rfl
 rcases Nat.lt_or_ge i 4 with h | h
 ·rw [dls_get (by omega) (by omega)]
  have h4 : i = 0 ∨ i = 1 ∨ i = 2 ∨ i = 3 := by omega
  rcases h4 with rfl | rfl | rfl | rfl <;> decide +kernel
 ·rw [dls_zero (by omega), List.getD_eq_getElem?_getD, List.getElem?_eq_none (by simp; omega)]
  rfl
theorem tr4 {m : Nat} (h : IsTr (dls (ints [0, 1, 3, 6])) m) : m = 3 := tr_same h (rs := [0, 1, 1]) (n := 3) ⟨Nat.le_refl 3, fun i hi => by rw [List.getD_eq_getElem?_getD, List.getElem?_eq_none (by simpa using hi)]; rfl, fun _ => by decide +kernel⟩ dls4
theorem take4_get : ((dls (ints [0, 1, 3, 6])).take 3).getD 2 0 = 1 := by
 have h := dls4 2
 rw [List.getD_eq_getElem?_getD, List.getElem?_take, if_pos (by decide), ← List.getD_eq_getElem?_getD, h]
 rfl
theorem above3 {r : Int} {b : Bool} (h : (b = false ∧ r = 0 ∧ ∀ i, i < (ints [0, 1, 3]).length → 0 ≤ sgnR (gapR (ints [0, 1]) (ints [0, 1, 3]) i)) ∨ (b = true ∧ ∃ i : Nat, i < (ints [0, 1, 3]).length ∧ r = i ∧ sgnR (gapR (ints [0, 1]) (ints [0, 1, 3]) i) < 0 ∧ ∀ m, m < i → 0 ≤ sgnR (gapR (ints [0, 1]) (ints [0, 1, 3]) m))) : r = 2 ∧ b = true := by
 have g0 : sgnR (gapR (ints [0, 1]) (ints [0, 1, 3]) 0) = 0 := by decide +kernel
 have g1 : sgnR (gapR (ints [0, 1]) (ints [0, 1, 3]) 1) = 0 := by decide +kernel
 have g2 : sgnR (gapR (ints [0, 1]) (ints [0, 1, 3]) 2) = -1 := by decide +kernel
 rcases h with ⟨_, _, h⟩ | ⟨hb, i, hi, hr, hs, _⟩
 ·have := h 2 (by decide)
  omega
 ·have hi3 : i < 3 := hi
  have h4 : i = 0 ∨ i = 1 ∨ i = 2 := by omega
  rcases h4 with rfl | rfl | rfl
  ·omega
  ·omega
  ·exact ⟨hr, hb⟩
/-
  The contract of sane (the law's own example): it answers true.
-/
theorem rats_lit (ok : Nat → Prop) (n b T : Nat) (l : List Int) (hn : l.length = n) (w : World) (hok : ∀ k, w.heap.size ≤ k → ok k) (hb : w.heap[b]? = some (.cells (l.map (fun x => Value.int .i64 x)).toArray T (0, 0))) (hl : l.length ≤ 1000000) (hs : ∀ x ∈ l, -1000000 ≤ x ∧ x ≤ 1000000) :
  Calls Tryz.prog 10 #[.slice (some ⟨b, 0, none⟩) n n] w (RetQs ok (ints l) 3 w) := by
 subst hn
 exact rats_law ok b T l w hok hb hl hs
def RetTrue (w0 : World) (e : Ending) (w' : World) : Prop := e = .returned (.bool true) ∧ Below w0.heap.size w0 w'
set_option maxRecDepth 100000 in
set_option maxHeartbeats 1500000 in
theorem sane_true (w : World) : Calls Tryz.prog 4 #[] w (RetTrue w) := by
 obtain ⟨ok, hok'⟩ : ∃ ok : Nat → Prop, ok = fun _ => True := ⟨_, rfl⟩
 have HOK := As (show ∀ (W : World) k, W.heap.size ≤ k → ok k from fun _ _ _ => by rw [hok']; trivial)
 have HB := As (Below.refl w.heap.size w)
 have H4 := As (show ∀ x ∈ ([0, 1, 3, 6] : List Int), -1000000 ≤ x ∧ x ≤ 1000000 from by decide)
 have H3 := As (show ∀ x ∈ ([0, 1, 3] : List Int), -1000000 ≤ x ∧ x ≤ 1000000 from by decide)
 have H2 := As (show ∀ x ∈ ([0, 1] : List Int), -1000000 ≤ x ∧ x ≤ 1000000 from by decide)
 have L4 := As (show (ints [0, 1, 3, 6]).length ≤ 33 from by decide)
 have L3 := As (show (ints [0, 1, 3]).length ≤ 33 from by decide)
 have L2 := As (show (ints [0, 1]).length ≤ 33 from by decide)
 have K3 := As (show 3 ≤ 5000 by decide)
 have K3' := As (show 3 ≤ 1000 by decide)
 have HD2 := As (show (-1000000 : Int) ≤ 2 ∧ (2 : Int) ≤ 1000000 by decide)
 have HD1 := As (show (-1000000 : Int) ≤ 1 ∧ (1 : Int) ≤ 1000000 by decide)
 clear hok'
 go_enter Tryz.func4, Tryz.ntmps4
 go_wp2_with fail
 with_reducible refine (rats_lit ok 4 w.heap.size 2 [0, 1, 3, 6] rfl _ (HOK.out _) (heap_new w (.cells #[.int .i64 0, .int .i64 1, .int .i64 3, .int .i64 6] 2)) (by decide) H4.out).mono ?_
 rintro e wa ⟨va, rfl, hv, hb⟩
 have HVa := As hv
 have HBa := As (below_step (below_alloc HB.out _) hb)
 have HSa := As (below_step (below_alloc (Below.refl w.heap.size w) (.cells #[.int .i64 0, .int .i64 1, .int .i64 3, .int .i64 6] 2)) hb)
 clear hv hb
 go_wp2_with fail
 with_reducible refine (fit_rat ok _ (ints [0, 1, 3, 6]) 2 3 _ (HOK.out _) HVa.out K3.out L4.out HD2.out.1 HD2.out.2).mono ?_
 rintro e wb ⟨m, ht, hb, h⟩
 have hm := tr4 ht
 subst hm
 rcases h with ⟨h, _⟩ | ⟨_, vb, rfl, hv⟩
 ·exact absurd h (by decide)
 have HBb := As (below_step HBa.out hb)
 have hlen : ((dls (ints [0, 1, 3, 6])).take 3).length = 3 := by rw [List.length_take, show (dls (ints [0, 1, 3, 6])).length = 33 from row_length _]; rfl
 obtain ⟨Ap, cp, rfl, -, -⟩ := hv.shape
 obtain ⟨n3, hn3⟩ : ∃ n3, ((dls (ints [0, 1, 3, 6])).take 3).length = n3 := ⟨_, rfl⟩
 have HN3 := As (show n3 = 3 by rw [← hn3]; exact hlen)
 rw [hn3]
 rw [hn3] at hv
 have HPb := As hv
 have HLEN := As hlen
 clear ht hb hv hlen hn3
 go_wp2_with fail
 with_reducible refine (rats_lit ok 4 wb.heap.size 2 [0, 1, 3, 6] rfl _ (HOK.out _) (heap_new wb (.cells #[.int .i64 0, .int .i64 1, .int .i64 3, .int .i64 6] 2)) (by decide) H4.out).mono ?_
 rintro e wc ⟨vc, rfl, hv, hb⟩
 have HVc := As hv
 have HBc := As (below_step (below_alloc HBb.out _) hb)
 have HSc := As (below_step (below_alloc (Below.refl wb.heap.size wb) (.cells #[.int .i64 0, .int .i64 1, .int .i64 3, .int .i64 6] 2)) hb)
 clear hv hb
 go_wp2_with fail
 with_reducible refine (fit_rat ok _ (ints [0, 1, 3, 6]) 1 3 _ (HOK.out _) HVc.out K3.out L4.out HD1.out.1 HD1.out.2).mono ?_
 rintro e wd ⟨m, ht, hb, h⟩
 have hm := tr4 ht
 subst hm
 rcases h with ⟨_, rfl⟩ | ⟨h, _⟩
 rotate_left
 ·exact absurd h (by decide)
 have HBd := As (below_step HBc.out hb)
 have HPd := As ((HPb.out.below HSc.out).below hb)
 clear ht hb
 go_wp2_with fail
 with_reducible refine (rats_lit ok 2 wd.heap.size 2 [0, 1] rfl _ (HOK.out _) (heap_new wd (.cells #[.int .i64 0, .int .i64 1] 2)) (by decide) H2.out).mono ?_
 rintro e we ⟨ve, rfl, hv, hb⟩
 have HVe := As hv
 have HBe := As (below_step (below_alloc HBd.out _) hb)
 have HSe := As (below_step (below_alloc (Below.refl wd.heap.size wd) (.cells #[.int .i64 0, .int .i64 1] 2)) hb)
 clear hv hb
 go_wp2_with fail
 with_reducible refine (rats_lit ok 3 we.heap.size 2 [0, 1, 3] rfl _ (HOK.out _) (heap_new we (.cells #[.int .i64 0, .int .i64 1, .int .i64 3] 2)) (by decide) H3.out).mono ?_
 rintro e wf ⟨vf, rfl, hv, hb⟩
 have HVf := As hv
 have HBf := As (below_step (below_alloc HBe.out _) hb)
 have HSf := As (below_step (below_alloc (Below.refl we.heap.size we) (.cells #[.int .i64 0, .int .i64 1, .int .i64 3] 2)) hb)
 clear hv hb
 go_wp2_with fail
 have HVe' := As (HVe.out.below HSf.out)
 with_reducible refine (above_rat ok _ _ (ints [0, 1]) (ints [0, 1, 3]) 3 3 _ (HOK.out _) HVe'.out HVf.out K3'.out K3'.out L2.out L3.out).mono ?_
 rintro e wg ⟨r, b, rfl, hb, h⟩
 obtain ⟨rfl, rfl⟩ := above3 h
 have HBg := As (below_step HBf.out hb)
 have HPg := ((HPd.out.below HSe.out).below HSf.out).below hb
 obtain ⟨pb, po, nb, A1, m1, c1, A2, m2, c2, rfl, p0, p1, p2, hraw⟩ := HPg.at 2 (by rw [HLEN.out]; decide)
 replace p0 : wg.cell? ⟨pb, po + 6, none⟩ = some (.bool nb) := p0
 replace p1 : wg.cell? ⟨pb, po + 7, none⟩ = some (.slice A1 m1 c1) := p1
 replace p2 : wg.cell? ⟨pb, po + 8, none⟩ = some (.slice A2 m2 c2) := p2
 rw [take4_get] at hraw
 have HPd2 := As (hraw.below (below_drew1 (Below.refl wg.heap.size wg)))
 have HBd2 := As (below_step HBg.out (below_drew1 (Below.refl wg.heap.size wg)))
 have HI1 := As (show (-9223372036854775808 : Int) ≤ 1 by decide)
 have HI2 := As (show (1 : Int) ≤ 9223372036854775807 by decide)
 have HRI := As (RS.int 1 (by decide))
 have HDK := As (show dk (ints [0, 1, 3, 6]).length 3 + 1 ≤ 900000 by decide)
 have HD3 := As (show 3 ≤ 900000 by decide)
 have HSG := As (show sgnR ((1 : Rat) - (((1 : Int) : Int) : Rat)) = 0 by decide +kernel)
 clear hb h hraw HPg
 have hb3 : ((n3 : Int) == 3) = true := by rw [HN3.out]; rfl
 have hb3' : (n3 == 3) = true := by rw [HN3.out]; rfl
 have hl2 : (2 : Int) < (n3 : Int) := by rw [HN3.out]; decide
 have hl2' : 2 < n3 := by rw [HN3.out]; decide
 go_upto_region 4 with fail
 have q0 := pw_cell_below (below_drew1 (Below.refl wg.heap.size wg)) p0
 have q1 := pw_cell_below (below_drew1 (Below.refl wg.heap.size wg)) p1
 have q2 := pw_cell_below (below_drew1 (Below.refl wg.heap.size wg)) p2
 go_region_held3 (fun w' => w'.cell? ⟨pb, po + 6, none⟩ = some (.bool nb) ∧ w'.cell? ⟨pb, po + 7, none⟩ = some (.slice A1 m1 c1) ∧ w'.cell? ⟨pb, po + 8, none⟩ = some (.slice A2 m2 c2)) (first | exact ⟨p0, p1, p2⟩ | exact ⟨q0, q1, q2⟩ | exact ⟨m30, m31, m32⟩ | exact ⟨m40, m41, m42⟩) (first
  | (go_at_call 13; ((with_reducible refine (fromInt_ref ok 1 _ (HOK.out _) HI1.out HI2.out).mono ?_); rintro e w8 ⟨v8, rfl, hv, hb⟩; have HA8 := As (hv.raw HRI.out); have HP8 := As (HPd2.out.below hb); have HB8 := As (below_step HBd2.out hb); (have m30 := pw_cell_below hb q0); (have m31 := pw_cell_below hb q1); (have m32 := pw_cell_below hb q2); clear hv hb))
  | (go_at_call 12; ((with_reducible refine (cmp_ref ok _ _ _ _ _ _ _ (HOK.out _) HP8.out HA8.out HDK.out HD3.out).mono ?_); rintro e w9 ⟨rfl, hb⟩; rw [HSG.out]; have HB9 := As (below_step HB8.out hb); (have m40 := pw_cell_below hb m30); (have m41 := pw_cell_below hb m31); (have m42 := pw_cell_below hb m32); clear hb)))
 go_wp2
 go_ret
 exact ⟨rfl, HB9.out⟩
end Go.Proofs.YtldkcpgnccknpaaGreat
