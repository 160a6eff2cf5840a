/-
  The parts FitA, FitB, FitC, FitD, FitE, FitF: the contracts of the program's functions and the plain laws below them; each part's own remark says which.
-/
import Derived.Test.YtldkcpgnccknpaaMH
import Derived.Test.YtldkcpgnccknpaaMG
import Derived.Deep.RegionWith
import Derived.Deep.RegionHeld3
import Derived.Deep.Slices
import Derived.ChangeSame
import Derived.ChangeSlices
import Derived.KernelRfl
set_option linter.unusedVariables false
set_option linter.unusedSimpArgs false
/-
  The contracts of Fit (package fit) and of rats (the law's own).
-/
namespace Go.Proofs.Ytldkcpgnccknpaa
open Go.RowKit Go.Proofs.YtldkcpgnccknpaaW.PrintWords Go.Proofs.YtldkcpgnccknpaaW.PrintMore Go.Proofs.YtldkcpgnccknpaaW.PrintLast Num
set_option linter.unusedVariables false

theorem dls_zero {qs : List Rat} {i : Nat} (h : qs.length ≤ i) : (dls qs).getD i 0 = 0 := by
  rcases Nat.lt_or_ge i 33 with h1 | h1
  · unfold dls
    rw [row_get _ h1, if_neg (by omega)]
  · rw [List.getD_eq_getElem?_getD, List.getElem?_eq_none (by unfold dls; rw [row_length]; exact h1)]
    rfl
theorem dls_get {qs : List Rat} {i : Nat} (h : i < qs.length) (hl : qs.length ≤ 33) : (dls qs).getD i 0 = dl (vl qs) i 0 := by
  unfold dls
  rw [row_get _ (by omega), if_pos h]
theorem dls_tr {qs : List Rat} {m : Nat} (h : IsTr (dls qs) m) : m ≤ qs.length ∧ m ≤ 33 := by
  obtain ⟨h1, h2, h3⟩ := h
  refine ⟨?_, by have : (dls qs).length = 33 := row_length _; omega⟩
  rcases Nat.lt_or_ge qs.length m with h4 | h4
  · exact absurd (dls_zero (show qs.length ≤ m - 1 by omega)) (h3 (by omega))
  · exact h4
theorem tr_same {qs rs : List Rat} {m n : Nat} (h : IsTr qs m) (h' : IsTr rs n) (he : ∀ i, qs.getD i 0 = rs.getD i 0) : m = n := by
  obtain ⟨h1, h2, h3⟩ := h
  obtain ⟨g1, g2, g3⟩ := h'
  rcases Nat.lt_trichotomy m n with h | h | h
  · exact absurd (by rw [← he]; exact h2 (n - 1) (by omega)) (g3 (by omega))
  · exact h
  · exact absurd (by rw [he]; exact g2 (m - 1) (by omega)) (h3 (by omega))
/-- Fit's answer. -/
def RetFit (ok : Nat → Prop) (qs : List Rat) (d : Int) (k : Nat) (w0 : World) (e : Ending) (w' : World) : Prop := ∃ m, IsTr (dls qs) m ∧ Below w0.heap.size w0 w' ∧
  ((d < (m : Int) - 1 ∧ e = .returned (.tuple #[.slice none 0 0, .bool false])) ∨ ((m : Int) - 1 ≤ d ∧ ∃ v, e = .returned (.tuple #[v, .bool true]) ∧ RQ w' ok v ((dls qs).take m) k))

set_option maxHeartbeats 1000000 in
theorem fit_rat (ok : Nat → Prop) (v0 : Value) (qs : List Rat) (d : Int) (k : Nat) (w : World) (hok : ∀ k, w.heap.size ≤ k → ok k) (h0 : RQ w ok v0 qs k) (hk : k ≤ 5000) (hl : qs.length ≤ 33) (hd0 : -1000000 ≤ d) (hd1 : d ≤ 1000000) :
    Calls Try.prog 7 #[v0, .int .i64 d] w (RetFit ok qs d (dk qs.length k + 1) w) := by
  have H0 := Aside0.mk h0
  have HOK := Aside0.mk hok
  have HK := Aside0.mk hk
  have HL := Aside0.mk hl
  clear h0 hok
  go_enter Try.func7, Try.ntmps7
  go_wp2_with fail
  with_reducible refine (diff_rat ok _ qs k _ HOK.out H0.out HK.out HL.out).mono ?_
  rintro e w2 ⟨v2, m, rfl, ht, hv, hb⟩
  have HT := Aside0.mk ht
  have HV := Aside0.mk hv
  have HB := Aside0.mk hb
  have hm33 := (dls_tr ht).2
  obtain ⟨A, c, rfl, _, _⟩ := hv.shape
  have hlt : ((dls qs).take m).length = m := by rw [List.length_take]; have := ht.1; omega
  rw [hlt]
  rw [hlt] at HV
  clear ht hv hb hlt
  by_cases h : d < (m : Int) - 1
  · have hb : decide (d < (m : Int) - 1) = true := decide_eq_true h
    go_wp2
    go_ret2
    exact ⟨m, HT.out, HB.out, .inl ⟨h, rfl⟩⟩
  · have hb : decide (d < (m : Int) - 1) = false := decide_eq_false h
    go_wp2
    go_ret2
    exact ⟨m, HT.out, HB.out, .inr ⟨by omega, _, rfl, HV.out⟩⟩

/-- The numbers of integers. -/
def ints (l : List Int) : List Rat := l.map (fun (x : Int) => (x : Rat))
def RetQs (ok : Nat → Prop) (qs : List Rat) (k : Nat) (w0 : World) (e : Ending) (w' : World) : Prop := ∃ v, e = .returned v ∧ RQ w' ok v qs k ∧ Below w0.heap.size w0 w'
theorem ints_next (l : List Int) {i : Nat} (h : i < l.length) : ints (l.take i) ++ [((l[i]'h : Int) : Rat)] = ints (l.take (i + 1)) := by
  unfold ints
  rw [List.take_add_one, List.getElem?_eq_getElem h, List.map_append]
  rfl

set_option maxRecDepth 100000 in
set_option maxHeartbeats 4000000 in
theorem rats_law (ok : Nat → Prop) (b T : Nat) (l : List Int) (w : World) (hok : ∀ k, w.heap.size ≤ k → ok k) (hb : w.heap[b]? = some (.cells (l.map (fun x => Value.int .i64 x)).toArray T (0, 0))) (hl : l.length ≤ 1000000) (hs : ∀ x ∈ l, -1000000 ≤ x ∧ x ≤ 1000000) :
    Calls Try.prog 12 #[.slice (some ⟨b, 0, none⟩) l.length l.length] w (RetQs ok (ints l) 3 w) := by
  have HB0 := Aside0.mk (Below.refl w.heap.size w)
  have HOK := Aside0.mk hok
  have HC := Aside0.mk hb
  have HS := Aside0.mk hs
  have HL := Aside0.mk (show l.length ≤ 1000000000 by omega)
  have HOKc := Aside0.mk (hok _ (Nat.le_refl _))
  clear hb hok hs
  go_enter Try.func12, Try.ntmps12
  go_wp2_with ((with_reducible refine gate_dst (N := 8) rfl ?_); refine rn_makecap 29 rfl (N' := 8) rfl 22 _ _ rfl l.length rfl rfl Try.underlying22 info_rat HOKc.out HL.out HB0.out HB0.out.size ?_; intro v1 w1 ho_ hb_; have HR := Aside0.mk ho_; have HB1 := Aside0.mk hb_; clear ho_ hb_)
  go_loopw [3, 11] (fun vo vi wr => ∃ i : Nat, vi = .int .i64 i ∧ i ≤ l.length ∧ Aside0 (RN 29 wr w.heap.size ok vo (ints (l.take i)) 3) ∧ Aside0 (Below w.heap.size w wr)) (fun _ vi _ => l.length - (intOf vi).toNat)
  case atStart => exact ⟨0, rfl, Nat.zero_le _, ⟨by rw [List.take_zero]; exact HR.out.more (Nat.zero_le _)⟩, HB1⟩
  case round =>
    clear HR HB1 HB0
    obtain ⟨i, rfl, hi, HR, HB⟩ := hrel
    by_cases hlt : i < l.length
    · have hlb : decide ((i : Int) < (l.length : Int)) = true := decide_eq_true (by omega)
      have hcell : wr.cell? ⟨b, i, none⟩ = some (.int .i64 l[i]) := by
        rw [cell_of_row wr b i _ T (0, 0) ((HB.out.block _ (heap_lt_ HC.out)).trans HC.out)]
        simp [List.getElem?_eq_getElem hlt]
      obtain ⟨x, hx⟩ : ∃ x, l[i] = x := ⟨_, rfl⟩
      have hxs := HS.out l[i] (List.getElem_mem hlt)
      have HN := Aside0.mk (ints_next l hlt)
      rw [hx] at hcell hxs HN
      have HX1 := Aside0.mk (show (-9223372036854775808 : Int) ≤ x by omega)
      have HX2 := Aside0.mk (show x ≤ (9223372036854775807 : Int) by omega)
      have HRS := Aside0.mk (RS.int x (by omega))
      obtain ⟨okk, hokk⟩ : ∃ okk : Nat → Prop, okk = fun k => ok k ∧ some k ≠ u3.ownBlock := ⟨_, rfl⟩
      have HOKK := Aside0.mk hokk
      have HOK1 := Aside0.mk (show ∀ k, wr.heap.size ≤ k → okk k from fun k hk => by rw [hokk]; exact ⟨HOK.out k (Nat.le_trans HB.out.size hk), fun he => by obtain ⟨xs, h1, _⟩ := HR.out; have := Kd.N_lt h1 k he.symm; omega⟩)
      clear hx hxs hokk
      go_wp2_with fail
      with_reducible refine (fromInt_ref okk x _ HOK1.out HX1.out HX2.out).mono ?_
      rintro e w2 ⟨v2, rfl, hv, hb⟩
      have HV := Aside0.mk (hv.raw HRS.out)
      obtain ⟨b2, A3, m3, c3, A4, m4, c4, rfl⟩ := hv.shapeb
      rw [HOKK.out] at HV
      have HR2 := Aside0.mk (HR.out.below hb)
      have HB2 := Aside0.mk (below_step HB.out hb)
      have HOK2 := Aside0.mk (show ∀ k, w2.heap.size ≤ k → ok k from fun k hk => HOK.out k (Nat.le_trans HB2.out.size hk))
      have HLI := Aside0.mk (show (ints (l.take i)).length ≤ 1000000000 by unfold ints; rw [List.length_map, List.length_take]; omega)
      clear hv hb
      go_wp2_with ((with_reducible refine gate_builtin (b := .append) (xs := #[.tmp 15, .tmp 18]) rfl ?_); at_builtin; refine rn_append (w0 := w) (base := w.heap.size) rfl (.tmp 15) (.tmp 18) 22 29 rfl Try.underlying22 info_rat u3 (ints (l.take i)) (x : Rat) 3 ok rfl rfl HV.out HOK2.out HR2.out HB2.out HB2.out.size HLI.out ?_; intro v5 w5 hr_ hb_; rw [HN.out] at hr_; have HR5 := Aside0.mk hr_; have HB5 := Aside0.mk hb_; clear hr_ hb_)
      go_roundw
      case rel => exact ⟨i + 1, by go_num, by omega, HR5, HB5⟩
      case measure => simp [intOf]; omega
    · have hlb : decide ((i : Int) < (l.length : Int)) = false := decide_eq_false (by omega)
      have he : i = l.length := by omega
      subst he
      rw [List.take_length] at HR
      go_wp2
      go_ret
      exact ⟨_, rfl, HR.out.rq, HB.out⟩
end Go.Proofs.Ytldkcpgnccknpaa
/-
  The contract of sane (the law's own example).
-/
namespace Go.Proofs.Ytldkcpgnccknpaa
open Go.RowKit Go.Proofs.YtldkcpgnccknpaaW.PrintWords Go.Proofs.YtldkcpgnccknpaaW.PrintMore Go.Proofs.YtldkcpgnccknpaaW.PrintLast Num
set_option linter.unusedVariables false

theorem dls4 : ∀ i, (dls (ints [0, 1, 3, 6])).getD i 0 = ([0, 1, 1] : List Rat).getD i 0 := fun i => by
  have hl : (ints [0, 1, 3, 6]).length = 4 := rfl
  rcases Nat.lt_or_ge i 4 with h | h
  · rw [dls_get (by omega) (by omega)]
    have h4 : i = 0 ∨ i = 1 ∨ i = 2 ∨ i = 3 := by omega
    rcases h4 with rfl | rfl | rfl | rfl <;> decide +kernel
  · rw [dls_zero (by omega), List.getD_eq_getElem?_getD, List.getElem?_eq_none (by simp; omega)]
    rfl
theorem tr4 {m : Nat} (h : IsTr (dls (ints [0, 1, 3, 6])) m) : m = 3 := tr_same h (rs := [0, 1, 1]) (n := 3) ⟨Nat.le_refl 3, fun i hi => by rw [List.getD_eq_getElem?_getD, List.getElem?_eq_none (by simpa using hi)]; rfl, fun _ => by decide +kernel⟩ dls4
theorem take4_get : ((dls (ints [0, 1, 3, 6])).take 3).getD 2 0 = 1 := by
  have h := dls4 2
  rw [List.getD_eq_getElem?_getD, List.getElem?_take, if_pos (by decide), ← List.getD_eq_getElem?_getD, h]
  rfl
theorem above3 {r : Int} {b : Bool} (h : (b = false ∧ r = 0 ∧ ∀ i, i < (ints [0, 1, 3]).length → 0 ≤ sgnR (gapR (ints [0, 1]) (ints [0, 1, 3]) i)) ∨ (b = true ∧ ∃ i : Nat, i < (ints [0, 1, 3]).length ∧ r = i ∧ sgnR (gapR (ints [0, 1]) (ints [0, 1, 3]) i) < 0 ∧ ∀ m, m < i → 0 ≤ sgnR (gapR (ints [0, 1]) (ints [0, 1, 3]) m))) : r = 2 ∧ b = true := by
  have g0 : sgnR (gapR (ints [0, 1]) (ints [0, 1, 3]) 0) = 0 := by decide +kernel
  have g1 : sgnR (gapR (ints [0, 1]) (ints [0, 1, 3]) 1) = 0 := by decide +kernel
  have g2 : sgnR (gapR (ints [0, 1]) (ints [0, 1, 3]) 2) = -1 := by decide +kernel
  rcases h with ⟨_, _, h⟩ | ⟨hb, i, hi, hr, hs, _⟩
  · have := h 2 (by decide)
    omega
  · have hi3 : i < 3 := hi
    have h4 : i = 0 ∨ i = 1 ∨ i = 2 := by omega
    rcases h4 with rfl | rfl | rfl
    · omega
    · omega
    · exact ⟨hr, hb⟩
end Go.Proofs.Ytldkcpgnccknpaa
/-
  The contract of sane (the law's own example): it answers true.
-/
namespace Go.Proofs.Ytldkcpgnccknpaa
open Go.RowKit Go.Proofs.YtldkcpgnccknpaaW.PrintWords Go.Proofs.YtldkcpgnccknpaaW.PrintMore Go.Proofs.YtldkcpgnccknpaaW.PrintLast Num
set_option linter.unusedVariables false

theorem rats_lit (ok : Nat → Prop) (n b T : Nat) (l : List Int) (hn : l.length = n) (w : World) (hok : ∀ k, w.heap.size ≤ k → ok k) (hb : w.heap[b]? = some (.cells (l.map (fun x => Value.int .i64 x)).toArray T (0, 0))) (hl : l.length ≤ 1000000) (hs : ∀ x ∈ l, -1000000 ≤ x ∧ x ≤ 1000000) :
    Calls Try.prog 12 #[.slice (some ⟨b, 0, none⟩) n n] w (RetQs ok (ints l) 3 w) := by
  subst hn
  exact rats_law ok b T l w hok hb hl hs
def RetTrue (w0 : World) (e : Ending) (w' : World) : Prop := e = .returned (.bool true) ∧ Below w0.heap.size w0 w'
set_option maxRecDepth 100000 in
set_option maxHeartbeats 1500000 in
theorem sane_true (w : World) : Calls Try.prog 5 #[] w (RetTrue w) := by
  obtain ⟨ok, hok'⟩ : ∃ ok : Nat → Prop, ok = fun _ => True := ⟨_, rfl⟩
  have HOK := Aside0.mk (show ∀ (W : World) k, W.heap.size ≤ k → ok k from fun _ _ _ => by rw [hok']; trivial)
  have HB := Aside0.mk (Below.refl w.heap.size w)
  have H4 := Aside0.mk (show ∀ x ∈ ([0, 1, 3, 6] : List Int), -1000000 ≤ x ∧ x ≤ 1000000 from by decide)
  have H3 := Aside0.mk (show ∀ x ∈ ([0, 1, 3] : List Int), -1000000 ≤ x ∧ x ≤ 1000000 from by decide)
  have H2 := Aside0.mk (show ∀ x ∈ ([0, 1] : List Int), -1000000 ≤ x ∧ x ≤ 1000000 from by decide)
  have L4 := Aside0.mk (show (ints [0, 1, 3, 6]).length ≤ 33 from by decide)
  have L3 := Aside0.mk (show (ints [0, 1, 3]).length ≤ 33 from by decide)
  have L2 := Aside0.mk (show (ints [0, 1]).length ≤ 33 from by decide)
  have K3 := Aside0.mk (show 3 ≤ 5000 by decide)
  have K3' := Aside0.mk (show 3 ≤ 1000 by decide)
  have HD2 := Aside0.mk (show (-1000000 : Int) ≤ 2 ∧ (2 : Int) ≤ 1000000 by decide)
  have HD1 := Aside0.mk (show (-1000000 : Int) ≤ 1 ∧ (1 : Int) ≤ 1000000 by decide)
  clear hok'
  go_enter Try.func5, Try.ntmps5
  go_wp2_with fail
  with_reducible refine (rats_lit ok 4 w.heap.size 2 [0, 1, 3, 6] rfl _ (HOK.out _) (heap_new w (.cells #[.int .i64 0, .int .i64 1, .int .i64 3, .int .i64 6] 2)) (by decide) H4.out).mono ?_
  rintro e wa ⟨va, rfl, hv, hb⟩
  have HVa := Aside0.mk hv
  have HBa := Aside0.mk (below_step (below_alloc HB.out _) hb)
  have HSa := Aside0.mk (below_step (below_alloc (Below.refl w.heap.size w) (.cells #[.int .i64 0, .int .i64 1, .int .i64 3, .int .i64 6] 2)) hb)
  clear hv hb
  go_wp2_with fail
  with_reducible refine (fit_rat ok _ (ints [0, 1, 3, 6]) 2 3 _ (HOK.out _) HVa.out K3.out L4.out HD2.out.1 HD2.out.2).mono ?_
  rintro e wb ⟨m, ht, hb, h⟩
  have hm := tr4 ht
  subst hm
  rcases h with ⟨h, _⟩ | ⟨_, vb, rfl, hv⟩
  · exact absurd h (by decide)
  have HBb := Aside0.mk (below_step HBa.out hb)
  have hlen : ((dls (ints [0, 1, 3, 6])).take 3).length = 3 := by rw [List.length_take, show (dls (ints [0, 1, 3, 6])).length = 33 from row_length _]; rfl
  obtain ⟨Ap, cp, rfl, -, -⟩ := hv.shape
  obtain ⟨n3, hn3⟩ : ∃ n3, ((dls (ints [0, 1, 3, 6])).take 3).length = n3 := ⟨_, rfl⟩
  have HN3 := Aside0.mk (show n3 = 3 by rw [← hn3]; exact hlen)
  rw [hn3]
  rw [hn3] at hv
  have HPb := Aside0.mk hv
  have HLEN := Aside0.mk hlen
  clear ht hb hv hlen hn3
  go_wp2_with fail
  with_reducible refine (rats_lit ok 4 wb.heap.size 2 [0, 1, 3, 6] rfl _ (HOK.out _) (heap_new wb (.cells #[.int .i64 0, .int .i64 1, .int .i64 3, .int .i64 6] 2)) (by decide) H4.out).mono ?_
  rintro e wc ⟨vc, rfl, hv, hb⟩
  have HVc := Aside0.mk hv
  have HBc := Aside0.mk (below_step (below_alloc HBb.out _) hb)
  have HSc := Aside0.mk (below_step (below_alloc (Below.refl wb.heap.size wb) (.cells #[.int .i64 0, .int .i64 1, .int .i64 3, .int .i64 6] 2)) hb)
  clear hv hb
  go_wp2_with fail
  with_reducible refine (fit_rat ok _ (ints [0, 1, 3, 6]) 1 3 _ (HOK.out _) HVc.out K3.out L4.out HD1.out.1 HD1.out.2).mono ?_
  rintro e wd ⟨m, ht, hb, h⟩
  have hm := tr4 ht
  subst hm
  rcases h with ⟨_, rfl⟩ | ⟨h, _⟩
  rotate_left
  · exact absurd h (by decide)
  have HBd := Aside0.mk (below_step HBc.out hb)
  have HPd := Aside0.mk ((HPb.out.below HSc.out).below hb)
  clear ht hb
  go_wp2_with fail
  with_reducible refine (rats_lit ok 2 wd.heap.size 2 [0, 1] rfl _ (HOK.out _) (heap_new wd (.cells #[.int .i64 0, .int .i64 1] 2)) (by decide) H2.out).mono ?_
  rintro e we ⟨ve, rfl, hv, hb⟩
  have HVe := Aside0.mk hv
  have HBe := Aside0.mk (below_step (below_alloc HBd.out _) hb)
  have HSe := Aside0.mk (below_step (below_alloc (Below.refl wd.heap.size wd) (.cells #[.int .i64 0, .int .i64 1] 2)) hb)
  clear hv hb
  go_wp2_with fail
  with_reducible refine (rats_lit ok 3 we.heap.size 2 [0, 1, 3] rfl _ (HOK.out _) (heap_new we (.cells #[.int .i64 0, .int .i64 1, .int .i64 3] 2)) (by decide) H3.out).mono ?_
  rintro e wf ⟨vf, rfl, hv, hb⟩
  have HVf := Aside0.mk hv
  have HBf := Aside0.mk (below_step (below_alloc HBe.out _) hb)
  have HSf := Aside0.mk (below_step (below_alloc (Below.refl we.heap.size we) (.cells #[.int .i64 0, .int .i64 1, .int .i64 3] 2)) hb)
  clear hv hb
  go_wp2_with fail
  have HVe' := Aside0.mk (HVe.out.below HSf.out)
  with_reducible refine (above_rat ok _ _ (ints [0, 1]) (ints [0, 1, 3]) 3 3 _ (HOK.out _) HVe'.out HVf.out K3'.out K3'.out L2.out L3.out).mono ?_
  rintro e wg ⟨r, b, rfl, hb, h⟩
  obtain ⟨rfl, rfl⟩ := above3 h
  have HBg := Aside0.mk (below_step HBf.out hb)
  have HPg := ((HPd.out.below HSe.out).below HSf.out).below hb
  obtain ⟨pb, po, nb, A1, m1, c1, A2, m2, c2, rfl, p0, p1, p2, hraw⟩ := HPg.at 2 (by rw [HLEN.out]; decide)
  replace p0 : wg.cell? ⟨pb, po + 6, none⟩ = some (.bool nb) := p0
  replace p1 : wg.cell? ⟨pb, po + 7, none⟩ = some (.slice A1 m1 c1) := p1
  replace p2 : wg.cell? ⟨pb, po + 8, none⟩ = some (.slice A2 m2 c2) := p2
  rw [take4_get] at hraw
  have HPd2 := Aside0.mk (hraw.below (below_drew1 (Below.refl wg.heap.size wg)))
  have HBd2 := Aside0.mk (below_step HBg.out (below_drew1 (Below.refl wg.heap.size wg)))
  have HI1 := Aside0.mk (show (-9223372036854775808 : Int) ≤ 1 by decide)
  have HI2 := Aside0.mk (show (1 : Int) ≤ 9223372036854775807 by decide)
  have HRI := Aside0.mk (RS.int 1 (by decide))
  have HDK := Aside0.mk (show dk (ints [0, 1, 3, 6]).length 3 + 1 ≤ 900000 by decide)
  have HD3 := Aside0.mk (show 3 ≤ 900000 by decide)
  have HSG := Aside0.mk (show sgnR ((1 : Rat) - (((1 : Int) : Int) : Rat)) = 0 by decide +kernel)
  clear hb h hraw HPg
  have hb3 : ((n3 : Int) == 3) = true := by rw [HN3.out]; rfl
  have hb3' : (n3 == 3) = true := by rw [HN3.out]; rfl
  have hl2 : (2 : Int) < (n3 : Int) := by rw [HN3.out]; decide
  have hl2' : 2 < n3 := by rw [HN3.out]; decide
  go_upto_region 4 with fail
  have q0 := pw_cell_below (below_drew1 (Below.refl wg.heap.size wg)) p0
  have q1 := pw_cell_below (below_drew1 (Below.refl wg.heap.size wg)) p1
  have q2 := pw_cell_below (below_drew1 (Below.refl wg.heap.size wg)) p2
  go_region_held3 (fun w' => w'.cell? ⟨pb, po + 6, none⟩ = some (.bool nb) ∧ w'.cell? ⟨pb, po + 7, none⟩ = some (.slice A1 m1 c1) ∧ w'.cell? ⟨pb, po + 8, none⟩ = some (.slice A2 m2 c2)) (first | exact ⟨p0, p1, p2⟩ | exact ⟨q0, q1, q2⟩ | exact ⟨m30, m31, m32⟩ | exact ⟨m40, m41, m42⟩) (first
    | (go_at_call 13; ((with_reducible refine (fromInt_ref ok 1 _ (HOK.out _) HI1.out HI2.out).mono ?_); rintro e w8 ⟨v8, rfl, hv, hb⟩; have HA8 := Aside0.mk (hv.raw HRI.out); have HP8 := Aside0.mk (HPd2.out.below hb); have HB8 := Aside0.mk (below_step HBd2.out hb); (have m30 := pw_cell_below hb q0); (have m31 := pw_cell_below hb q1); (have m32 := pw_cell_below hb q2); clear hv hb))
    | (go_at_call 9; ((with_reducible refine (cmp_ref ok _ _ _ _ _ _ _ (HOK.out _) HP8.out HA8.out HDK.out HD3.out).mono ?_); rintro e w9 ⟨rfl, hb⟩; rw [HSG.out]; have HB9 := Aside0.mk (below_step HB8.out hb); (have m40 := pw_cell_below hb m30); (have m41 := pw_cell_below hb m31); (have m42 := pw_cell_below hb m32); clear hb)))
  go_wp2
  go_ret
  exact ⟨rfl, HB9.out⟩
end Go.Proofs.Ytldkcpgnccknpaa
/-
  The plain laws of FitThrough and FitFinds.
-/
namespace Go.Proofs.Ytldkcpgnccknpaa
open Num
set_option linter.unusedVariables false

theorem take_get {qs : List Rat} {m i : Nat} (h : i < m) : (qs.take m).getD i 0 = qs.getD i 0 := by
  rw [List.getD_eq_getElem?_getD, List.getD_eq_getElem?_getD, List.getElem?_take, if_pos h]
theorem take_tr_get {qs : List Rat} {m : Nat} (h : IsTr qs m) (i : Nat) : (qs.take m).getD i 0 = qs.getD i 0 := by
  rcases Nat.lt_or_ge i m with h1 | h1
  · exact take_get h1
  · rw [h.2.1 i h1, List.getD_eq_getElem?_getD, List.getElem?_eq_none (by rw [List.length_take]; omega)]
    rfl
theorem take_tr_length {qs : List Rat} {m : Nat} (h : IsTr qs m) : (qs.take m).length = m := by
  rw [List.length_take]
  have := h.1
  omega
/-- A fit has the given values. -/
theorem fit_at {qs : List Rat} {m : Nat} (hl : qs.length ≤ 33) (h : IsTr (dls qs) m) (i : Nat) (hi : i < qs.length) : ev ((dls qs).take m) (i : Int) m = qs.getD i 0 := by
  have hm := dls_tr h
  have hlen := take_tr_length h
  have h1 := ev_nw (qs := (dls qs).take m) (v := vl qs) (m := qs.length) (i : Int)
    (fun k hk => by rw [hlen] at hk; rw [take_get hk, dls_get (by omega) hl])
    (fun k hk1 hk2 => by rw [hlen] at hk1; rw [← dls_get hk2 hl]; exact h.2.1 k hk1) (by rw [hlen]; exact hm.1)
  rw [hlen] at h1
  rw [h1, newton _ _ _ hi]
  rfl
theorem fit_gap {qs : List Rat} {m : Nat} (hl : qs.length ≤ 33) (h : IsTr (dls qs) m) (i : Nat) (hi : i < qs.length) : sgnR (gapR ((dls qs).take m) qs i) = 0 := by
  unfold gapR
  rw [take_tr_length h, fit_at hl h i hi, Rat.sub_self]
  rfl
theorem dl_congr {v v' : Nat → Rat} : ∀ (k i : Nat), (∀ j, j ≤ i + k → v j = v' j) → dl v k i = dl v' k i
  | 0, i, h => h i (Nat.le_refl _)
  | k + 1, i, h => by
    show dl v k (i + 1) - dl v k i = _
    rw [dl_congr k (i + 1) (fun j hj => h j (by omega)), dl_congr k i (fun j hj => h j (by omega))]
    rfl
/-- The first n values of a polynomial. -/
def vals (qs : List Rat) (n : Nat) : List Rat := (List.range n).map (fun (i : Nat) => ev qs (i : Int) qs.length)
theorem vals_length (qs : List Rat) (n : Nat) : (vals qs n).length = n := by simp [vals]
theorem vals_get {qs : List Rat} {n i : Nat} (h : i < n) : (vals qs n).getD i 0 = ev qs (i : Int) qs.length := by
  unfold vals
  rw [List.getD_eq_getElem?_getD, List.getElem?_map, List.getElem?_range h]
  rfl
theorem vals_next (qs : List Rat) (n : Nat) : vals qs n ++ [ev qs (n : Int) qs.length] = vals qs (n + 1) := by
  unfold vals
  rw [List.range_succ, List.map_append]
  rfl
/-- The differences of a polynomial's values are its coefficients. -/
theorem dls_vals {qs : List Rat} {n : Nat} (h : qs.length ≤ n) (hn : n ≤ 33) (i : Nat) : (dls (vals qs n)).getD i 0 = qs.getD i 0 := by
  rcases Nat.lt_or_ge i n with h1 | h1
  · rw [dls_get (by rw [vals_length]; exact h1) (by rw [vals_length]; exact hn), dl_congr (v := vl (vals qs n)) (v' := fun (i : Nat) => ev qs (i : Int) qs.length) i 0 (fun j hj => vals_get (by omega)), dl_ev]
    split
    · rfl
    · rw [List.getD_eq_getElem?_getD, List.getElem?_eq_none (by omega)]
      rfl
  · rw [dls_zero (by rw [vals_length]; exact h1), List.getD_eq_getElem?_getD, List.getElem?_eq_none (by omega)]
    rfl
/-- The bounds of the statements. -/
theorem sm_rq {w : World} {ok : Nat → Prop} {v : Value} {xs : List RawN} {n : Nat} (h : RLs w ok v xs) (hu : ∀ x ∈ xs, U32 x.2.1 ∧ U32 x.2.2) (hs : smAll xs n = true) : RQ w ok v (xs.map qv) 2 ∧ (xs.map qv).length ≤ n := by
  unfold smAll at hs
  rw [Bool.and_eq_true, decide_eq_true_eq, List.all_eq_true] at hs
  refine ⟨⟨xs, h, rfl, fun x hx => ?_⟩, by rw [List.length_map]; exact hs.1⟩
  have h1 := hs.2 x hx
  unfold sm at h1
  rw [Bool.and_eq_true, decide_eq_true_eq, decide_eq_true_eq] at h1
  exact ⟨(hu x hx).1, (hu x hx).2, h1.1, h1.2⟩
end Go.Proofs.Ytldkcpgnccknpaa
/-
  FitThrough answers true.
-/
namespace Go.Proofs.Ytldkcpgnccknpaa
open Go.RowKit Go.Proofs.YtldkcpgnccknpaaW.PrintWords Go.Proofs.YtldkcpgnccknpaaW.PrintMore Go.Proofs.YtldkcpgnccknpaaW.PrintLast Num
set_option linter.unusedVariables false

theorem rats_small12 (ok : Nat → Prop) (v : Value) (xs : List RawN) (w : World) (h : RLs w ok v xs) : Calls Try.prog 6 #[v, .int .i64 12] w (fun e w' => e = .returned (.bool (smAll xs 12)) ∧ Below w.heap.size w w') := rats_small ok v xs 12 w h
theorem dk_le {n k : Nat} (hn : n ≤ 12) (hk : k ≤ 2) : dk n k + 1 ≤ 1000 := by
  unfold dk
  have := Nat.mul_le_mul (show k + 1 ≤ 3 by omega) hn
  omega
set_option maxRecDepth 100000 in
set_option maxHeartbeats 4000000 in
theorem through_true (ok : Nat → Prop) (v0 : Value) (xs : List RawN) (d : Int) (w : World) (hok : ∀ k, w.heap.size ≤ k → ok k) (h0 : RLs w ok v0 xs) (hu : ∀ x ∈ xs, U32 x.2.1 ∧ U32 x.2.2) (hd0 : 0 ≤ d) (hd1 : d ≤ 255) :
    Calls Try.prog 3 #[v0, .int .u8 d] w (RetTrue w) := by
  have H0 := Aside0.mk h0
  have HOK := Aside0.mk hok
  rcases hs : smAll xs 12 with _ | _
  · have HS := Aside0.mk hs
    clear h0 hok hu hs
    go_enter Try.func3, Try.ntmps3
    go_wp2_with (first
      | (go_at_call 5; ((with_reducible refine (sane_true _).mono ?_); rintro e w1 ⟨rfl, hb⟩; have HB1 := Aside0.mk hb; have H1 := Aside0.mk (H0.out.below hb); clear hb))
      | (go_at_call 6; ((with_reducible refine (rats_small12 ok _ xs _ H1.out).mono ?_); rintro e w2 ⟨rfl, hb⟩; rw [HS.out]; have HB2 := Aside0.mk (below_step HB1.out hb); clear hb)))
    go_ret
    exact ⟨rfl, HB2.out⟩
  · obtain ⟨hq, hlen⟩ := sm_rq h0 hu hs
    have HS := Aside0.mk hs
    obtain ⟨qs, hqs⟩ : ∃ qs, xs.map qv = qs := ⟨_, rfl⟩
    rw [hqs] at hq hlen
    have HQ := Aside0.mk hq
    obtain ⟨A, c, rfl, hc, hmx⟩ := hq.shape
    have HL := Aside0.mk (show qs.length ≤ 33 by omega)
    have HK2 := Aside0.mk (show 2 ≤ 5000 by decide)
    have HK2' := Aside0.mk (show 2 ≤ 1000 by decide)
    have HDK := Aside0.mk (dk_le hlen (Nat.le_refl 2))
    have htm : d.tmod 12 = d % 12 := Int.tmod_eq_emod_of_nonneg hd0
    obtain ⟨r, hr⟩ : ∃ r, d % 12 = r := ⟨_, rfl⟩
    rw [hr] at htm
    have hr0 : 0 ≤ r := by omega
    have hr1 : r < 12 := by omega
    have HR1 := Aside0.mk (show -1000000 ≤ r by omega)
    have HR2 := Aside0.mk (show r ≤ 1000000 by omega)
    clear h0 hok hu hs hq hqs hr
    go_enter Try.func3, Try.ntmps3
    go_wp2_with (first
      | (go_at_call 5; ((with_reducible refine (sane_true _).mono ?_); rintro e w1 ⟨rfl, hb⟩; have HB1 := Aside0.mk hb; have H1 := Aside0.mk (H0.out.below hb); have HQ1 := Aside0.mk (HQ.out.below hb); clear hb))
      | (go_at_call 6; ((with_reducible refine (rats_small12 ok _ xs _ H1.out).mono ?_); rintro e w2 ⟨rfl, hb⟩; rw [HS.out]; have HB2 := Aside0.mk (below_step HB1.out hb); have HQ2 := Aside0.mk (HQ1.out.below hb); clear hb)))
    go_wp2_with fail
    with_reducible refine (fit_rat ok _ qs r 2 _ (fun k hk => HOK.out k (Nat.le_trans HB2.out.size hk)) HQ2.out HK2.out HL.out HR1.out HR2.out).mono ?_
    rintro e w3 ⟨m, ht, hb, h⟩
    have HT := Aside0.mk ht
    have HB3 := Aside0.mk (below_step HB2.out hb)
    have HQ3 := Aside0.mk (HQ2.out.below hb)
    have hm := dls_tr ht
    rcases h with ⟨_, rfl⟩ | ⟨hmr, v3, rfl, hv⟩
    · clear ht hb hm
      go_wp2
      go_ret
      exact ⟨rfl, HB3.out⟩
    · have hpl := take_tr_length ht
      obtain ⟨ps, hps⟩ : ∃ ps, (dls qs).take m = ps := ⟨_, rfl⟩
      have HAT := Aside0.mk (fun i hi => fit_at HL.out ht i hi)
      have HGAP := Aside0.mk (fun i hi => fit_gap HL.out ht i hi)
      rw [hps] at hv HAT HGAP hpl
      obtain ⟨A3, c3, rfl, _, _⟩ := hv.shape
      rw [hpl]
      rw [hpl] at hv
      have HP3 := Aside0.mk hv
      have HPL := Aside0.mk (show ps.length ≤ 33 by omega)
      have HPLE := Aside0.mk hpl
      have hm33 := hm.2
      clear ht hb hv hm hps hpl
      have HBR := Aside0.mk (Below.refl w3.heap.size w3)
      go_wp2
      go_loopw [32] (fun vi wr => ∃ i : Nat, vi = .int .i64 i ∧ i ≤ qs.length ∧ Aside0 (Below w3.heap.size w3 wr)) (fun vi _ => qs.length - (intOf vi).toNat)
      case atStart => exact ⟨0, rfl, Nat.zero_le _, HBR⟩
      case round =>
        clear HBR
        obtain ⟨i, rfl, hi, HBR⟩ := hrel
        have HBW := Aside0.mk (below_step HB3.out HBR.out)
        have HQr := Aside0.mk (HQ3.out.below HBR.out)
        have HPr := Aside0.mk (HP3.out.below HBR.out)
        have HOKr := Aside0.mk (show ∀ k, wr.heap.size ≤ k → ok k from fun k hk => HOK.out k (Nat.le_trans HBW.out.size hk))
        by_cases hlt : i < qs.length
        · have hlb : decide ((i : Int) < (qs.length : Int)) = true := decide_eq_true (by omega)
          have HN1 := Aside0.mk (show (0 : Int) ≤ (i : Int) by omega)
          have HN2 := Aside0.mk (show (i : Int) ≤ 1000000 by omega)
          have HEV := Aside0.mk (show ev ps (i : Int) ps.length = qs.getD i 0 by rw [HPLE.out]; exact HAT.out i hlt)
          have HRS := Aside0.mk (HQ.out.rs i)
          go_wp2_with fail
          with_reducible refine (eval_rat ok _ ps _ (i : Int) _ HOKr.out HPr.out HDK.out HPL.out HN1.out HN2.out).mono ?_
          rintro e w4 ⟨v4, rfl, hv, hb⟩
          rw [HEV.out] at hv
          have HV4 := Aside0.mk (hv.raw HRS.out)
          obtain ⟨b4, A4, m4, c4, A5, m5, c5, rfl⟩ := hv.shapeb
          have HB4 := Aside0.mk (below_step HBR.out hb)
          have HQ4 := Aside0.mk (HQr.out.below hb)
          clear hv hb
          go_upto_region 12 with fail
          obtain ⟨g, hg⟩ : ∃ g, g = w4.heap.size := ⟨_, rfl⟩
          obtain ⟨W6, hW6⟩ : ∃ W6, w4.alloc (.cells #[.bool b4, .slice A4 m4 c4, .slice A5 m5 c5] 29) = W6 := ⟨_, rfl⟩
          have hb6 : Below w4.heap.size w4 W6 := by rw [← hW6]; exact below_alloc (Below.refl _ _) _
          have hz6 : W6.heap[g]? = some (.cells #[.bool b4, .slice A4 m4 c4, .slice A5 m5 c5] 29 (0, 0)) := by rw [← hW6, hg]; exact heap_new _ _
          rw [hW6, ← hg]
          have hbd := below_drew1 (Below.refl W6.heap.size W6)
          have HB6 := Aside0.mk (below_step (below_step HB4.out hb6) hbd)
          have HQ6 := (HQ4.out.below hb6).below hbd
          have HVd := Aside0.mk ((HV4.out.below hb6).below hbd)
          have hzd := (hbd.block _ (heap_lt_ hz6)).trans hz6
          obtain ⟨z0, z1, z2, _, _, _⟩ := cells3 hzd
          obtain ⟨pb, po, nb, A1, m1, c1, A2, m2, c2, rfl, p0, p1, p2, hraw⟩ := HQ6.at i hlt
          obtain ⟨q, hqq⟩ : ∃ q, qs.getD i 0 = q := ⟨_, rfl⟩
          rw [hqq] at hraw HVd
          have HPd := Aside0.mk hraw
          have HSG := Aside0.mk (show sgnR (q - q) = 0 by rw [Rat.sub_self]; rfl)
          have HOKd := Aside0.mk (show ∀ k, W6.drew.heap.size ≤ k → ok k from fun k hk => HOK.out k (Nat.le_trans (below_step HB3.out HB6.out).size hk))
          have HD3 := Aside0.mk (show 2 + 1 ≤ 900000 by decide)
          have HD2 := Aside0.mk (show 2 ≤ 900000 by decide)
          clear hb6 hW6 hz6 hbd hzd HQ6 hraw hg hqq
          go_region_held3 (fun w' => w'.cell? ⟨g, 0, none⟩ = some (.bool b4) ∧ w'.cell? ⟨g, 1, none⟩ = some (.slice A4 m4 c4) ∧ w'.cell? ⟨g, 2, none⟩ = some (.slice A5 m5 c5) ∧ w'.cell? ⟨pb, po + i * 3, none⟩ = some (.bool nb) ∧ w'.cell? ⟨pb, po + i * 3 + 1, none⟩ = some (.slice A1 m1 c1) ∧ w'.cell? ⟨pb, po + i * 3 + 2, none⟩ = some (.slice A2 m2 c2)) (first | exact ⟨z0, z1, z2, p0, p1, p2⟩ | exact ⟨k0, k1, k2, k3, k4, k5⟩) (first
            | (go_at_call 9; ((with_reducible refine (cmp_ref ok _ _ _ _ _ _ _ HOKd.out HVd.out HPd.out HD3.out HD2.out).mono ?_); rintro e w9 ⟨rfl, hb⟩; rw [HSG.out]; have HB9 := Aside0.mk (below_step HB6.out hb); (have k0 := pw_cell_below hb z0); (have k1 := pw_cell_below hb z1); (have k2 := pw_cell_below hb z2); (have k3 := pw_cell_below hb p0); (have k4 := pw_cell_below hb p1); (have k5 := pw_cell_below hb p2); clear hb)))
          all_goals
            (go_wp2
             go_roundw
             case rel => exact ⟨i + 1, by go_num, by omega, HB9⟩
             case measure => simp [intOf]; omega)
        · have hlb : decide ((i : Int) < (qs.length : Int)) = false := decide_eq_false (by omega)
          go_wp2_with fail
          with_reducible refine (above_rat ok _ _ ps qs _ 2 _ HOKr.out HPr.out HQr.out HDK.out HK2'.out HPL.out HL.out).mono ?_
          rintro e w4 ⟨r4, b4, rfl, hb, h⟩
          have hbf : b4 = false := by
            rcases h with ⟨h, _⟩ | ⟨_, i4, h4, _, h5, _⟩
            · exact h
            · have := HGAP.out i4 h4
              omega
          subst hbf
          have HB4 := Aside0.mk (below_step HBW.out hb)
          have hle : decide ((m : Int) ≤ r + 1) = true := decide_eq_true (by omega)
          clear h hb
          go_wp2
          go_ret
          exact ⟨rfl, HB4.out⟩
end Go.Proofs.Ytldkcpgnccknpaa
/-
  An argument of numbers, opened to its cells.
-/
namespace Go.Proofs.Ytldkcpgnccknpaa
open Go.ChangeShapes Go.WideShapes Go.RowKit Go.Proofs.YtldkcpgnccknpaaW.PrintWords Go.Proofs.YtldkcpgnccknpaaW.PrintMore Go.Proofs.YtldkcpgnccknpaaW.PrintLast Num
set_option linter.unusedVariables false

/-- Limbs as they lie. -/
def LieU (w : World) (v : Value) (zs : List Int) : Prop := ∃ A c, v = .slice A zs.length c ∧ zs.length ≤ c ∧ c ≤ maxLen ∧ (0 < zs.length → ∃ a, A = some a ∧ ∀ i, i < zs.length → w.cell? (a.add i) = some (.int .u32 (zs.getD i 0)))
/-- Numbers as they lie. -/
def LieN (w : World) (a : Addr) (i : Nat) (x : RawN) : Prop := ∃ v1 v2, w.cell? (a.add (i * 3)) = some (.bool x.1) ∧ w.cell? (a.add (i * 3 + 1)) = some v1 ∧ w.cell? (a.add (i * 3 + 2)) = some v2 ∧ LieU w v1 x.2.1 ∧ LieU w v2 x.2.2
theorem cell_same {w w1 : World} (h : ∀ k, k < w.heap.size → w1.heap[k]? = w.heap[k]?) {a : Addr} {v : Value} (hc : w.cell? a = some v) : w1.cell? a = some v := by
  have hb := World.block_lt_of_cell? w _ hc
  rw [← hc]
  simp only [World.cell?, h _ hb]
theorem LieU.same {w w1 : World} (h : ∀ k, k < w.heap.size → w1.heap[k]? = w.heap[k]?) {v : Value} {zs : List Int} (hl : LieU w v zs) : LieU w1 v zs := by
  obtain ⟨A, c, e, h1, h2, h3⟩ := hl
  refine ⟨A, c, e, h1, h2, fun hp => ?_⟩
  obtain ⟨a, e2, h4⟩ := h3 hp
  exact ⟨a, e2, fun i hi => cell_same h (h4 i hi)⟩
theorem LieN.same {w w1 : World} (h : ∀ k, k < w.heap.size → w1.heap[k]? = w.heap[k]?) {a : Addr} {i : Nat} {x : RawN} (hl : LieN w a i x) : LieN w1 a i x := by
  obtain ⟨v1, v2, h0, h1, h2, h3, h4⟩ := hl
  exact ⟨v1, v2, cell_same h h0, cell_same h h1, cell_same h h2, h3.same h, h4.same h⟩
theorem LieU.k {w : World} {v : Value} {zs : List Int} (h : LieU w v zs) : (Kd.slice 49 (Kd.int .u32)).K w zs [v] := by
  obtain ⟨A, c, rfl, h1, h2, h3⟩ := h
  refine ⟨A, c, rfl, h1, ⟨rfl, by simp only [maxLen] at h2; omega, fun hp => ?_⟩⟩
  obtain ⟨a, e2, h4⟩ := h3 hp
  refine ⟨a, e2, fun j p hj => ⟨[.int .u32 p], rfl, rfl, fun i u hu => ?_⟩⟩
  have hjl := (List.getElem?_eq_some_iff.1 hj).1
  have h5 := h4 j hjl
  rw [List.getD_eq_getElem?_getD, hj] at h5
  rcases i with _ | i
  · simp only [List.getElem?_cons_zero, Option.some.injEq] at hu
    rw [← hu]
    have : j * (Kd.int IntKind.u32).sz + 0 = j := by show j * 1 + 0 = j; omega
    rw [this]
    exact h5
  · simp at hu
theorem lies_c {w : World} {a : Addr} {xs : List RawN} (hm : xs.length ≤ maxLen) (h : ∀ i, i < xs.length → LieN w a i (xs.getD i rz)) : Kd.C kRat w (some a) xs.length xs := by
  refine ⟨rfl, by simp only [maxLen] at hm; omega, fun _ => ⟨a, rfl, fun j p hj => ?_⟩⟩
  have hjl := (List.getElem?_eq_some_iff.1 hj).1
  obtain ⟨v1, v2, h0, h1, h2, h3, h4⟩ := h j hjl
  rw [List.getD_eq_getElem?_getD, hj] at h0 h3 h4
  refine ⟨[.bool p.1, v1, v2], rfl, ⟨[.bool p.1], [v1, v2], rfl, rfl, [v1], [v2], rfl, h3.k, h4.k⟩, fun i u hu => ?_⟩
  have hs : j * kRat.sz = j * 3 := rfl
  rw [hs]
  match i, hu with
  | 0, hu => simp at hu; rw [← hu]; exact h0
  | 1, hu => simp at hu; rw [← hu]; exact h1
  | 2, hu => simp at hu; rw [← hu]; exact h2
section
variable {H : Type} {enc : TypeId × Value → H} {w : World} {base : Nat} {spare : Nat → Bool} {held : Bool}
theorem open_limbs {fuel : Nat} {v : Value} {x : DataW H × List MemPlace} (h : DataW.trod enc Try.prog w base spare held fuel 27 [v] = some x) : ∃ zs, LieU w v zs ∧ U32 zs := by
  rcases open_ints Try.underlying27 Try.underlying49 (by kernel_rfl) h with ⟨hcs, _⟩ | ⟨a, l, c, zs, hcs, _, hl, hm, hz, _, hcell, hwz⟩
  · simp at hcs
    subst hcs
    exact ⟨[], ⟨none, 0, rfl, Nat.le_refl _, by simp [maxLen], fun h => absurd h (Nat.lt_irrefl _)⟩, fun x hx => by simp at hx⟩
  · simp at hcs
    subst hcs
    have hlz : l ≤ zs.length := by rw [hz]; split <;> omega
    have hlt : (zs.take l).length = l := by rw [List.length_take]; omega
    refine ⟨zs.take l, ⟨some a, c, by rw [hlt], by rw [hlt]; exact hl, hm, fun _ => ⟨a, rfl, fun i hi => ?_⟩⟩, fun x hx => ?_⟩
    · rw [hlt] at hi
      rw [hcell i (by omega), List.getD_eq_getElem?_getD, List.getD_eq_getElem?_getD, List.getElem?_take, if_pos hi]
    · have := hwz x (List.mem_of_mem_take hx)
      simp [Lit.wf] at this
      have h0 : IntKind.u32.min = 0 := rfl
      have h1 : IntKind.u32.max = 4294967295 := rfl
      omega
theorem open_rats {fuel : Nat} {v : Value} {x : DataW H × List MemPlace} (h : DataW.trod enc Try.prog w base spare held fuel 22 [v] = some x) : ∃ xs, RLs w (fun _ => True) v xs ∧ ∀ y ∈ xs, U32 y.2.1 ∧ U32 y.2.2 := by
  rcases Go.Deep.open_slice Try.underlying22 h with ⟨hcs, _⟩ | ⟨a, len, cap, m, n, D, Pl, hcs, _, hl, hm, hmm, _, hi⟩
  · simp at hcs
    subst hcs
    exact ⟨[], ⟨none, 0, rfl, Nat.le_refl _, Kd.F_nil _ _ _⟩, fun y hy => by simp at hy⟩
  · simp at hcs
    subst hcs
    have hml : len ≤ m := by rw [hmm]; split <;> omega
    have each : ∀ i, i < len → ∃ y : RawN, LieN w a i y ∧ U32 y.2.1 ∧ U32 y.2.2 := fun i hil => by
      obtain ⟨cs', hc, ht'⟩ := hi i (by omega)
      have hC : Try.prog.cellsOf 29 = 3 := by kernel_rfl
      rw [hC] at hc
      obtain ⟨ys, n', _, _, _, _, hf⟩ := DataW.trod_struct Try.underlying29 ht'
      obtain ⟨_, hcl, hat⟩ := World.cells?_some hc
      match cs', hcl with
      | [u0, u1, u2], _ =>
        have hC0 : Try.prog.cellsOf 4 = 1 := by kernel_rfl
        have hC1 : Try.prog.cellsOf 27 = 1 := by kernel_rfl
        have hyl : ys.length = 3 := by assumption
        have f0 : DataW.trod enc Try.prog w base spare held n' 4 ((List.drop 0 [u0, u1, u2]).take (Try.prog.cellsOf 4)) = ys[0]? := hf 0 _ rfl
        have f1 : DataW.trod enc Try.prog w base spare held n' 27 ((List.drop 1 [u0, u1, u2]).take (Try.prog.cellsOf 27)) = ys[1]? := hf 1 _ rfl
        have f2 : DataW.trod enc Try.prog w base spare held n' 27 ((List.drop 2 [u0, u1, u2]).take (Try.prog.cellsOf 27)) = ys[2]? := hf 2 _ rfl
        rw [hC0, List.getElem?_eq_getElem (by omega)] at f0
        rw [hC1, List.getElem?_eq_getElem (by omega)] at f1 f2
        obtain ⟨b, e0, _⟩ := DataW.trod_bool Try.underlying4 f0
        obtain ⟨z1, l1, r1⟩ := open_limbs (v := u1) f1
        obtain ⟨z2, l2, r2⟩ := open_limbs (v := u2) f2
        simp at e0
        subst e0
        have a0 := hat 0 (by decide)
        have a1 := hat 1 (by decide)
        have a2 := hat 2 (by decide)
        rw [Go.Deep.add_add] at a0 a1 a2
        exact ⟨(b, z1, z2), ⟨u1, u2, a0, a1, a2, l1, l2⟩, r1, r2⟩
    obtain ⟨f, hf⟩ : ∃ f : Nat → RawN, ∀ i, i < len → LieN w a i (f i) ∧ U32 (f i).2.1 ∧ U32 (f i).2.2 :=
      ⟨fun i => if h : i < len then Classical.choose (each i h) else rz, fun i h => by simp only [dif_pos h]; exact Classical.choose_spec (each i h)⟩
    have hlen : ((List.range len).map f).length = len := by simp
    have hget : ∀ i, i < len → ((List.range len).map f).getD i rz = f i := fun i h => by
      rw [List.getD_eq_getElem?_getD, List.getElem?_map, List.getElem?_range h]
      rfl
    refine ⟨(List.range len).map f, ⟨some a, cap, by rw [hlen], by rw [hlen]; exact hl, fun W' hW => ?_⟩, fun y hy => ?_⟩
    · refine lies_c (by rw [hlen]; omega) (fun i hi => ?_)
      rw [hlen] at hi
      rw [hget i hi]
      exact ((hf i hi).1).same (fun k hk => hW k trivial hk)
    · obtain ⟨i, hi, rfl⟩ := List.mem_map.1 hy
      exact (hf i (List.mem_range.1 hi)).2
end
end Go.Proofs.Ytldkcpgnccknpaa
