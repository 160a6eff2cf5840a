/-
  The parts ValG, ValH, ValI, ValJ, ValK: the contracts of the program's functions and the plain laws below them; each part's own remark says which.
-/
import Derived.Test.YtldkcpgnccknpaaGreatVA
import Derived.Deep.AppendLies
import Derived.Deep.RegionLaw
import Derived.BigQuiet
import Derived.Deep.DeepCutAuto
set_option linter.unusedVariables false
set_option linter.unusedSimpArgs false
/-
  Substitution in types; the contracts of typing.Subst and typing.clone.
-/
namespace Go.Proofs.YtldkcpgnccknpaaGreat
open Go.RowKit Go.Proofs.YtldkcpgnccknpaaGreatW.PrintWords Go.Proofs.YtldkcpgnccknpaaGreatW.PrintMore Go.Proofs.YtldkcpgnccknpaaGreatW.PrintLast
set_option linter.unusedVariables false
mutual
/-- The variables of a type replaced. -/
def Tr.sub (ts : List Tr) : Tr → Tr
 | ⟨k, n, l⟩ => if k = 4 ∧ 0 ≤ n ∧ n < ts.length then ts.getD n.toNat z0 else ⟨k, n, subl ts l⟩
def subl (ts : List Tr) : List Tr → List Tr
 | [] => []
 | x :: xs => x.sub ts :: subl ts xs
end
theorem subl_map (ts : List Tr) : ∀ l : List Tr, subl ts l = l.map (Tr.sub ts)
 | [] => by rw [subl]; rfl
 | x :: xs => by rw [subl, subl_map ts xs]; rfl
theorem Tr.sub_eq (ts : List Tr) (x : Tr) : x.sub ts = if x.k = 4 ∧ 0 ≤ x.n ∧ x.n < ts.length then ts.getD x.n.toNat z0 else ⟨x.k, x.n, subl ts x.l⟩ := by
 cases x
 rw [Tr.sub]
theorem sub_nil (N : Nat) : ∀ x : Tr, x.sz ≤ N → x.sub [] = x := by
 induction N with
 | zero => intro x h; have := x.sz_eq; omega
 | succ N ih =>
  intro x h
  rw [x.sub_eq, if_neg (by simp), subl_map]
  have h2 : x.l.map (Tr.sub []) = x.l := by
   have h3 : x.l.map (Tr.sub []) = x.l.map id := by
    refine List.map_congr_left (fun y hy => ?_)
    obtain ⟨i, hi, rfl⟩ := List.mem_iff_getElem.1 hy
    have := kid_sz hi
    rw [List.getD_eq_getElem?_getD, List.getElem?_eq_getElem hi] at this
    exact ih _ (by simp at this; omega)
   rw [h3, List.map_id]
  rw [h2]
  cases x
  rfl
theorem subl_next (ts : List Tr) {l : List Tr} {i : Nat} (h : i < l.length) : subl ts (l.take i) ++ [(l.getD i z0).sub ts] = subl ts (l.take (i + 1)) := by
 rw [← take_next h, subl_map, subl_map, List.map_append]
 rfl
theorem subl_length (ts l : List Tr) : (subl ts l).length = l.length := by rw [subl_map, List.length_map]
section
variable {P : Program} {ops : Array Oper} {o : Oper} {a : Act} {Q : Exit → Act → World → Prop} {Kc : Act → World → Prop}
theorem tr_append_step {w0 W : World} {base : Nat} (hw : Region.wanted o (yielded ops a.tmps) = true) (s x : Operand) (t e : TypeId)
  (ho : o.op = .call { callee := .builtin .append, args := #[s, x], argTypes := #[t, t] })
  (ht : P.underlying t = some (.slice e)) (hinfo : (P.info? e).map (fun i => (i.zero, i.size, i.bytes)) = some (some zeroT, 3, 40))
  (v : Value) (xs : List Tr) (y : Tr) {i j : Int} {A : Option Addr} {m c : Nat} (ok : Nat → Prop) (hs : a.eval s = v) (hx : a.eval x = .slice (some ⟨W.heap.size, 0, none⟩) 1 1)
  (hp : ITr e W (fun k => ok k ∧ some k ≠ v.ownBlock) (.agg #[.int .i64 i, .int .i64 j, .slice A m c]) y) (hfresh : ∀ k, W.heap.size ≤ k → ok k)
  (HO : NTr e W base ok v xs) (HB : Below base w0 W) (hbase : base ≤ W.heap.size) (hl : xs.length ≤ 1000000000)
  (h : ∀ v1 w1, NTr e w1 base ok v1 (xs ++ [y]) → Below base w0 w1 → W.grownBy w1 v.ownBlock → Kc (a.put o.dst v1) w1) :
  if Region.wanted o (yielded ops a.tmps) = true then Oper.wp P o a (W.alloc (.cells #[.int .i64 i, .int .i64 j, .slice A m c] e)) Kc Q else Kc (a.put o.dst undef) (W.alloc (.cells #[.int .i64 i, .int .i64 j, .slice A m c] e)) := by
 refine Kd.N_append_step (kTr e) base hw s x t e zeroT 40 ho ht hinfo rfl (by show 0 < 3; decide) (by decide) v xs y [.int .i64 i, .int .i64 j, .slice A m c] ok (fun k => ok k ∧ some k ≠ v.ownBlock) hs hx hp.fk (fun k hk => hk) hfresh HO HB hbase (by omega) ?_
 intro v1 w1 h4 hb hg hat
 exact h v1 w1 h4 hb hg
end
theorem NTr.shape3 {T : TypeId} {w : World} {base : Nat} {ok : Nat → Prop} {v : Value} {xs : List Tr} (h : NTr T w base ok v xs) : ∃ A m c, v = .slice A m c := by
 obtain ⟨A, c, rfl⟩ := Kd.N_slice h
 exact ⟨_, _, _, rfl⟩
theorem far1 {w : World} {g h o i : Nat} {u v : Value} (hne : h ≠ g) (hc : w.cell? ⟨h, o, none⟩ = some v) : (w.setCell ⟨g, i, none⟩ u).cell? ⟨h, o, none⟩ = some v := by
 rw [← hc]
 simp only [World.cell?]
 rw [Below.heap_setCell _ _ _ _ hne]
theorem cell_alloc_old {w : World} {o : Obj} {g i : Nat} {v : Value} (hl : g < w.heap.size) (hc : w.cell? ⟨g, i, none⟩ = some v) : (w.alloc o).cell? ⟨g, i, none⟩ = some v := by
 rw [← hc]
 simp only [World.cell?]
 rw [Below.heap_alloc w o g hl]
set_option maxRecDepth 100000 in
set_option maxHeartbeats 4000000 in
theorem subst_gen (ts : List Tr) (hc : ∀ i, i < ts.length → ∀ (ok' : Nat → Prop) (v' : Value) (w' : World), (∀ k, w'.heap.size ≤ k → ok' k) → ITr 25 w' ok' v' (ts.getD i z0) → Calls Tryz.prog 108 #[v'] w' (RetTr1 25 ok' (ts.getD i z0) w')) (N : Nat) :
  ∀ (x : Tr) (ok : Nat → Prop) (v va : Value) (w : World), x.sz ≤ N → (∀ k, w.heap.size ≤ k → ok k) → ITr 25 w ok v x → LTr 25 w ok va ts → x.sz ≤ 1000000 →
  Calls Tryz.prog 71 #[v, va] w (RetTr1 25 ok (x.sub ts) w) := by
 induction N with
 | zero => intro x ok v va w h; have := x.sz_eq; omega
 | succ N ih =>
  intro x ok v va w hN hok hx ha h2
  have hmxa := ha.max
  obtain ⟨A, c, rfl, hc1, hF⟩ := hx
  obtain ⟨B, d, rfl, hd1, hG⟩ := ha
  have hmx := Kd.F_max hF
  have HL := As (show LTr 25 w ok (.slice A x.l.length c) x.l from ⟨A, c, rfl, hc1, hF⟩)
  have HA := As (show LTr 25 w ok (.slice B ts.length d) ts from ⟨B, d, rfl, hd1, hG⟩)
  have HC := As hc
  have IH := As ih
  have HOK := As hok
  have HLL := As (show x.l.length ≤ 1000000 by have := length_le_szl x.l; have := x.sz_eq; omega)
  obtain ⟨W1, hW1⟩ : ∃ W1, w.alloc (.cells #[.int .i64 x.k, .int .i64 x.n, .slice A x.l.length c] 25) = W1 := ⟨_, rfl⟩
  obtain ⟨W2, hWb⟩ : ∃ Wb, W1.alloc (.cells #[.int .i64 0, .int .i64 0, .slice none 0 0] 25) = Wb := ⟨_, rfl⟩
  have hW2 : (w.alloc (.cells #[.int .i64 x.k, .int .i64 x.n, .slice A x.l.length c] 25)).alloc (.cells #[.int .i64 0, .int .i64 0, .slice none 0 0] 25) = W2 := by rw [hW1]; exact hWb
  have hs1 : W1.heap.size = w.heap.size + 1 := by rw [← hW1]; show (w.heap.push _).size = _; simp
  have hs2 : W2.heap.size = w.heap.size + 2 := by rw [← hWb]; show (W1.heap.push _).size = _; simp; omega
  have hb1 : Below w.heap.size w W1 := by rw [← hW1]; exact below_alloc (Below.refl _ _) _
  have hbb : Below W1.heap.size W1 W2 := by rw [← hWb]; exact below_alloc (Below.refl _ _) _
  have hb2 := below_step hb1 hbb
  have hg1 : W1.heap[w.heap.size]? = some (.cells #[.int .i64 x.k, .int .i64 x.n, .slice A x.l.length c] 25 (0, 0)) := by rw [← hW1]; exact heap_alloc_new _ _
  have hg2 : W2.heap[w.heap.size + 1]? = some (.cells #[.int .i64 0, .int .i64 0, .slice none 0 0] 25 (0, 0)) := by rw [← hs1, ← hWb]; exact heap_alloc_new _ _
  have hgp := (hbb.block _ (blk_lt hg1)).trans hg1
  have b0 : W2.cell? ⟨w.heap.size, 0, none⟩ = some (.int .i64 x.k) := by rw [cell_of_row W2 _ 0 _ _ (0, 0) hgp]; rfl
  have b1 : W2.cell? ⟨w.heap.size, 1, none⟩ = some (.int .i64 x.n) := by rw [cell_of_row W2 _ 1 _ _ (0, 0) hgp]; rfl
  have b2 : W2.cell? ⟨w.heap.size, 2, none⟩ = some (.slice A x.l.length c) := by rw [cell_of_row W2 _ 2 _ _ (0, 0) hgp]; rfl
  have HW2 := As hW2
  have HB2 := As hb2
  have HG2 := As hg2
  have HS2 := As hs2
  have HLc := As (LTr.max (HL.out))
  clear ih hF hG hW2 hs1 hs2 hW1 hWb hb1 hbb hb2 hg1 hgp hg2 hok hc
  have hcase : (x.k = 4 ∧ 0 ≤ x.n ∧ x.n < ts.length) ∨ ¬ (x.k = 4 ∧ 0 ≤ x.n ∧ x.n < ts.length) ∧ ((x.k == 4) = false ∨ ((x.k == 4) = true ∧ decide (0 ≤ x.n) = false) ∨ ((x.k == 4) = true ∧ decide (0 ≤ x.n) = true ∧ decide (x.n < (ts.length : Int)) = false)) := by
   by_cases h4 : x.k = 4
   ·have h4b : (x.k == 4) = true := beq_iff_eq.2 h4
    by_cases h0 : 0 ≤ x.n
    · by_cases hl : x.n < ts.length
      · exact .inl ⟨h4, h0, hl⟩
      · exact .inr ⟨fun h => hl h.2.2, .inr (.inr ⟨h4b, decide_eq_true h0, decide_eq_false hl⟩)⟩
    · exact .inr ⟨fun h => h0 h.2.1, .inr (.inl ⟨h4b, decide_eq_false h0⟩)⟩
   ·exact .inr ⟨fun h => h4 h.1, .inl (beq_eq_false_iff_ne.2 h4)⟩
  rcases hcase with ⟨hv4, hv0, hvl⟩ | ⟨hv, hcase⟩
  ·have hk4 : (x.k == 4) = true := beq_iff_eq.2 hv4
   have HR := As (show x.sub ts = ts.getD x.n.toNat z0 by rw [x.sub_eq, if_pos ⟨hv4, hv0, hvl⟩])
   obtain ⟨n, hn⟩ := Int.eq_ofNat_of_zero_le hv0
   rw [hn] at HR HW2 b1 hvl
   rw [Int.toNat_natCast] at HR
   have hnl : n < ts.length := by omega
   have hn0 : decide (0 ≤ x.n) = true := decide_eq_true hv0
   have hnlb : decide ((n : Int) < (ts.length : Int)) = true := decide_eq_true (by omega)
   obtain ⟨okk, hokk⟩ : ∃ okk : Nat → Prop, okk = fun k => ok k ∧ k ≠ w.heap.size + 1 := ⟨_, rfl⟩
   have HOKK := As hokk
   have HOK2 := As (show ∀ k, W2.heap.size ≤ k → okk k from fun k hk => by rw [hokk]; have := HS2.out; exact ⟨HOK.out k (by omega), by omega⟩)
   obtain ⟨b, o, A1, c1, rfl, p0, p1, p2, hkid⟩ := ((HA.out.old HB2.out).mono (ok' := okk) (fun k hk => by rw [hokk]; exact ⟨hk.1, by have := hk.2; omega⟩)).at n hnl
   have HCn := As (HC.out n hnl)
   obtain ⟨y, hy⟩ : ∃ y, ts.getD n z0 = y := ⟨_, rfl⟩
   rw [hy] at p0 p1 p2 hkid HCn HR
   have HK := As hkid
   clear hkid hy hokk hv0 hv4 hvl
   go_enter Tryz.func71, Tryz.ntmps71
   rw [hn]
   go_upto_region 2 with fail
   rw [HW2.out]
   go_wp2_with fail
   with_reducible refine (HCn.out okk _ _ HOK2.out HK.out).mono ?_
   rintro e w3 ⟨v3, rfl, hv, hb⟩
   have HV := As hv
   obtain ⟨A4, c4, rfl⟩ := hv.shape
   have HB3 := As (below_step HB2.out hb)
   have hg3 := blk_below HG2.out hb
   have hgl := blk_lt hg3
   have r0 : w3.cell? ⟨w.heap.size + 1, 0, none⟩ = some (.int .i64 0) := (blk_cell hg3 0).trans rfl
   have r1 : w3.cell? ⟨w.heap.size + 1, 1, none⟩ = some (.int .i64 0) := (blk_cell hg3 1).trans rfl
   have r2 : w3.cell? ⟨w.heap.size + 1, 2, none⟩ = some (.slice none 0 0) := (blk_cell hg3 2).trans rfl
   have f0 := blk_frozen hg3 0
   have f1 := blk_frozen hg3 1
   have f2 := blk_frozen hg3 2
   clear hv hb hg3
   go_wp2
   refine bodyPost_ret (v := .agg #[.int .i64 y.k, .int .i64 y.n, .slice A4 y.l.length c4]) (by simp [results, Tryz.results71, go_sem, hgl, r0, r1, r2]) rfl ⟨_, rfl, ?_, ?_⟩
   ·rw [HR.out]
    refine (HV.out.step (fun k hk _ => ?_)).mono (fun k hk => ?_)
    · rw [HOKK.out] at hk
      rw [Below.heap_setCell _ _ _ _ hk.2, Below.heap_setCell _ _ _ _ hk.2, Below.heap_setCell _ _ _ _ hk.2]
    · rw [HOKK.out] at hk
      exact hk.1
   ·exact below_set (below_set (below_set HB3.out (Nat.le_succ _)) (Nat.le_succ _)) (Nat.le_succ _)
  ·have HR := As (show x.sub ts = ⟨x.k, x.n, subl ts x.l⟩ by rw [x.sub_eq, if_neg hv])
   clear hv
   rcases hcase with hk4 | ⟨hk4, hn0⟩ | ⟨hk4, hn0, hnl⟩
   all_goals
    (go_enter Tryz.func71, Tryz.ntmps71
     go_wp2_with fail
     rw [HW2.out]
     obtain ⟨gu, hgu⟩ : ∃ gu, gu = w.heap.size + 2 := ⟨_, rfl⟩
     obtain ⟨W3, hW3⟩ : ∃ W3, W2.alloc (.cells #[.int .i64 x.k, .int .i64 x.n, .slice none 0 0] 25) = W3 := ⟨_, rfl⟩
     have hb3 : Below W2.heap.size W2 W3 := by rw [← hW3]; exact below_alloc (Below.refl _ _) _
     have HB3 := As (below_step HB2.out hb3)
     have HGU3 := As (show W3.heap[gu]? = some (.cells #[.int .i64 x.k, .int .i64 x.n, .slice none 0 0] 25 (0, 0)) by rw [hgu, ← HS2.out, ← hW3]; exact heap_alloc_new _ _)
     have HGR3 := As (blk_below HG2.out hb3)
     rw [hW3, ← hgu]
     obtain ⟨okx, hokx⟩ : ∃ okx : Nat → Prop, okx = fun k => ok k ∧ k ≠ w.heap.size ∧ k ≠ w.heap.size + 1 ∧ k ≠ gu := ⟨_, rfl⟩
     have HOKX := As hokx
     have HGU := As hgu
     clear hb3 hW3 hokx b0 b1 b2 hgu
     go_loopw [37] (fun v37 wr => ∃ (i : Nat) (va : Value), v37 = .int .i64 i ∧ i ≤ x.l.length ∧ Aside0 (wr.heap[gu]? = some (.cells #[.int .i64 x.k, .int .i64 x.n, va] 25 (0, 0))) ∧ Aside0 (wr.heap[w.heap.size + 1]? = some (.cells #[.int .i64 0, .int .i64 0, .slice none 0 0] 25 (0, 0))) ∧ Aside0 (NTr 25 wr w.heap.size okx va (subl ts (x.l.take i))) ∧ Aside0 (Below w.heap.size w wr)) (fun v37 _ => x.l.length - (intOf v37).toNat)
     case atStart => exact ⟨0, _, rfl, Nat.zero_le _, HGU3, HGR3, ⟨by rw [List.take_zero, subl]; exact NTr.nil _ _ _ _⟩, HB3⟩
     case round =>
       clear HGU3 HGR3 HB3
       obtain ⟨i, va, rfl, hi, HGU4, HGR4, HO, HB⟩ := hrel
       by_cases hlt : i < x.l.length
       · have hlb : decide ((i : Int) < (x.l.length : Int)) = true := decide_eq_true (by omega)
         obtain ⟨okk, hokk⟩ : ∃ okk : Nat → Prop, okk = fun k => okx k ∧ some k ≠ va.ownBlock := ⟨_, rfl⟩
         have HOKK := As hokk
         have hfr : ∀ k, wr.heap.size ≤ k → okx k := fun k hk => by
          rw [HOKX.out]
          have h1 := blk_lt HGU4.out
          have h2 := HGU.out
          exact ⟨HOK.out k (Nat.le_trans HB.out.size hk), by omega, by omega, by omega⟩
         have HOKr := As (show ∀ k, wr.heap.size ≤ k → okk k from fun k hk => by rw [hokk]; exact ⟨hfr k hk, fun he => by have := Kd.N_lt HO.out k he.symm; omega⟩)
         have hold : ∀ k, (ok k ∧ k < w.heap.size) → okk k := fun k hk => by
          rw [hokk, HOKX.out]
          have h2 := HGU.out
          exact ⟨⟨hk.1, by omega, by omega, by omega⟩, fun he => by have := Kd.N_base HO.out k he.symm; omega⟩
         obtain ⟨b, o, A1, c1, rfl, p0, p1, p2, hkid⟩ := ((HL.out.old HB.out).mono hold).at i hlt
         have hkn := kid_sz hlt
         have HTN := As (subl_next ts hlt)
         obtain ⟨y, hy⟩ : ∃ y, x.l.getD i z0 = y := ⟨_, rfl⟩
         rw [hy] at p0 p1 p2 hkid hkn HTN
         obtain ⟨W4, hW4⟩ : ∃ W4, wr.alloc (.cells #[.int .i64 y.k, .int .i64 y.n, .slice A1 y.l.length c1] 25) = W4 := ⟨_, rfl⟩
         have hb4 : Below wr.heap.size wr W4 := by rw [← hW4]; exact below_alloc (Below.refl _ _) _
         have hbd := below_step hb4 (below_drew1 (Below.refl W4.heap.size W4))
         have hga : W4.heap[wr.heap.size]? = some (.cells #[.int .i64 y.k, .int .i64 y.n, .slice A1 y.l.length c1] 25 (0, 0)) := by rw [← hW4]; exact heap_alloc_new _ _
         have HW4 := As hW4
         have HB4 := As (below_step HB.out hbd)
         have HK4 := As (hkid.below hbd)
         have HA4 := As ((((HA.out.old HB.out).mono hold)).below hbd)
         have HO4 := As (HO.out.below hbd)
         have HOK4 := As (show ∀ k, W4.drew.heap.size ≤ k → okk k from fun k hk => HOKr.out k (Nat.le_trans hbd.size hk))
         have HGU4d := As (blk_below HGU4.out hbd)
         have HGR4d := As (blk_below HGR4.out hbd)
         have HYN := As (show y.sz ≤ N by omega)
         have HYM := As (show y.sz ≤ 1000000 by omega)
         have HLI := As (show (subl ts (x.l.take i)).length ≤ 1000000000 by rw [subl_length, List.length_take]; have := HLL.out; omega)
         have a0 : W4.drew.cell? ⟨wr.heap.size, 0, none⟩ = some (.int .i64 y.k) := (blk_cell (blk_drew hga) 0).trans rfl
         have a1 : W4.drew.cell? ⟨wr.heap.size, 1, none⟩ = some (.int .i64 y.n) := (blk_cell (blk_drew hga) 1).trans rfl
         have a2 : W4.drew.cell? ⟨wr.heap.size, 2, none⟩ = some (.slice A1 y.l.length c1) := (blk_cell (blk_drew hga) 2).trans rfl
         have u42 : W4.drew.cell? ⟨gu, 2, none⟩ = some va := (blk_cell HGU4d.out 2).trans rfl
         have hne : gu ≠ wr.heap.size := by have := blk_lt HGU4.out; omega
         have hne' := Ne.symm hne
         have NE := As (show some gu ≠ va.ownBlock from fun he => by have h := HO.out.1 gu he.symm; rw [HOKX.out] at h; exact h.2.2.2 rfl)
         have NR := As (show some (w.heap.size + 1) ≠ va.ownBlock from fun he => by have h := HO.out.1 _ he.symm; rw [HOKX.out] at h; exact h.2.2.1 rfl)
         have NA := As (show some wr.heap.size ≠ va.ownBlock from fun he => by have h := Kd.N_lt HO.out _ he.symm; omega)
         have hal := blk_lt (blk_drew hga)
         clear hb4 hbd hga hW4 hkid hkn hy hokk hfr hold
         go_upto_region 7 with fail
         rw [HW4.out]
         go_region_law (first
          | ((refine tr_append_step (w0 := w) (base := w.heap.size) (by rfl) (.tmp 42) (.tmp 46) 23 25 (by rfl) Tryz.underlying23 info_typ va (subl ts (x.l.take i)) (y.sub ts) okx (by simp [Act.eval]) (by simp [Act.eval]) HV.out HOK5.out HO5.out HB5.out HB5.out.size HLI.out ?_); intro v7 w7 hr_ hb_ hg_; (rw [HTN.out] at hr_); (obtain ⟨A7, m7, c7, rfl⟩ := NTr.shape3 hr_); have HO7 := As hr_; have HB7 := As hb_; have HGU7 := As ((hg_.block _ (blk_lt HGU5.out) NE.out).trans HGU5.out); have HGR7 := As ((hg_.block _ (blk_lt HGR5.out) NR.out).trans HGR5.out); (have j42 : w7.cell? ⟨gu, 2, none⟩ = some va := (blk_cell HGU7.out 2).trans rfl); (have jf := blk_frozen HGU7.out 2); clear hr_ hb_ hg_)
          | (go_simp; go_at_call 71; ((with_reducible refine (IH.out y okk _ _ _ HYN.out HOK4.out HK4.out HA4.out HYM.out).mono ?_); rintro e w5 ⟨v5, rfl, hv, hb⟩; have HV := As hv; (obtain ⟨A5, c5, rfl⟩ := hv.shape); (rw [HOKK.out] at HV); have HB5 := As (below_step HB4.out hb); have HO5 := As (HO4.out.below hb); have HGU5 := As (blk_below HGU4d.out hb); have HGR5 := As (blk_below HGR4d.out hb); have HOK5 := As (show ∀ k, w5.heap.size ≤ k → okx k from fun k hk => by have h1 := HOK4.out k (Nat.le_trans hb.size hk); rw [HOKK.out] at h1; exact h1.1); (have k42 := pw_cell_below hb u42); (have hgl5 := blk_lt HGU5.out); clear hv hb)))
         all_goals
          (have HGU8 := As (blk_put (cs' := #[.int .i64 x.k, .int .i64 x.n, .slice A7 m7 c7]) HGU7.out 2 (.slice A7 m7 c7) rfl)
           have HGR8 := As (blk_far HGR7.out (p := ⟨gu, 2, none⟩) (by have := HGU.out; show w.heap.size + 1 ≠ gu; omega) (.slice A7 m7 c7))
           have HO8 := As (show NTr 25 (w7.setCell ⟨gu, 2, none⟩ (.slice A7 m7 c7)) w.heap.size okx (.slice A7 m7 c7) (subl ts (x.l.take (i + 1))) from Kd.N_far HO7.out (p := ⟨gu, 2, none⟩) (fun k hk => by rw [HOKX.out] at hk; exact hk.2.2.2) (.slice A7 m7 c7))
           have HB8 := As (below_set (g := gu) (j := 2) (v := .slice A7 m7 c7) HB7.out (by have := HGU.out; omega))
           go_wp2
           go_roundw
           case rel => exact ⟨i + 1, _, by go_num, by omega, HGU8, HGR8, HO8, HB8⟩
           case measure => simp [intOf]; omega)
       · have hlb : decide ((i : Int) < (x.l.length : Int)) = false := decide_eq_false (by omega)
         have he : i = x.l.length := by omega
         subst he
         rw [List.take_length] at HO
         obtain ⟨A9, m9, c9, rfl⟩ := NTr.shape3 HO.out
         have HIT := As (show ITr 25 wr okx (.agg #[.int .i64 x.k, .int .i64 x.n, .slice A9 m9 c9]) (x.sub ts) by rw [HR.out]; exact ITr.mk (NTr.lt HO.out))
         have q0 : wr.cell? ⟨gu, 0, none⟩ = some (.int .i64 x.k) := (blk_cell HGU4.out 0).trans rfl
         have q1 : wr.cell? ⟨gu, 1, none⟩ = some (.int .i64 x.n) := (blk_cell HGU4.out 1).trans rfl
         have q2 : wr.cell? ⟨gu, 2, none⟩ = some (.slice A9 m9 c9) := (blk_cell HGU4.out 2).trans rfl
         have r0 : wr.cell? ⟨w.heap.size + 1, 0, none⟩ = some (.int .i64 0) := (blk_cell HGR4.out 0).trans rfl
         have r1 : wr.cell? ⟨w.heap.size + 1, 1, none⟩ = some (.int .i64 0) := (blk_cell HGR4.out 1).trans rfl
         have r2 : wr.cell? ⟨w.heap.size + 1, 2, none⟩ = some (.slice none 0 0) := (blk_cell HGR4.out 2).trans rfl
         have f0 := blk_frozen HGR4.out 0
         have f1 := blk_frozen HGR4.out 1
         have f2 := blk_frozen HGR4.out 2
         have hgl := blk_lt HGR4.out
         go_wp2
         refine bodyPost_ret (v := .agg #[.int .i64 x.k, .int .i64 x.n, .slice A9 m9 c9]) (by simp [results, Tryz.results71, go_sem, hgl, r0, r1, r2]) rfl ⟨_, rfl, ?_, ?_⟩
         ·refine (HIT.out.step (fun k hk _ => ?_)).mono (fun k hk => ?_)
          · rw [HOKX.out] at hk
            rw [Below.heap_setCell _ _ _ _ hk.2.2.1, Below.heap_setCell _ _ _ _ hk.2.2.1, Below.heap_setCell _ _ _ _ hk.2.2.1]
          · rw [HOKX.out] at hk
            exact hk.1
         ·exact below_set (below_set (below_set HB.out (Nat.le_succ _)) (Nat.le_succ _)) (Nat.le_succ _))
/-
  The contracts of typing.clone and typing.Subst, whole.
-/
set_option maxRecDepth 100000 in
set_option maxHeartbeats 2000000 in
theorem clone_ty (x : Tr) (ok : Nat → Prop) (v : Value) (w : World) (hok : ∀ k, w.heap.size ≤ k → ok k) (hx : ITr 25 w ok v x) (h2 : x.sz ≤ 1000000) :
  Calls Tryz.prog 108 #[v] w (RetTr1 25 ok x w) := by
 have HX := As hx
 obtain ⟨A, c, rfl⟩ := hx.shape
 obtain ⟨okk, hokk⟩ : ∃ okk : Nat → Prop, okk = fun k => ok k ∧ k ≠ w.heap.size + 1 := ⟨_, rfl⟩
 obtain ⟨W1, hW1⟩ : ∃ W1, w.alloc (.cells #[.int .i64 x.k, .int .i64 x.n, .slice A x.l.length c] 25) = W1 := ⟨_, rfl⟩
 obtain ⟨W2, hWb⟩ : ∃ Wb, W1.alloc (.cells #[.int .i64 0, .int .i64 0, .slice none 0 0] 25) = Wb := ⟨_, rfl⟩
 have hW2 : (w.alloc (.cells #[.int .i64 x.k, .int .i64 x.n, .slice A x.l.length c] 25)).alloc (.cells #[.int .i64 0, .int .i64 0, .slice none 0 0] 25) = W2 := by rw [hW1]; exact hWb
 have hs1 : W1.heap.size = w.heap.size + 1 := by rw [← hW1]; show (w.heap.push _).size = _; simp
 have hb1 : Below w.heap.size w W1 := by rw [← hW1]; exact below_alloc (Below.refl _ _) _
 have hbb : Below W1.heap.size W1 W2 := by rw [← hWb]; exact below_alloc (Below.refl _ _) _
 have hb2 := below_step hb1 hbb
 have hg1 : W1.heap[w.heap.size]? = some (.cells #[.int .i64 x.k, .int .i64 x.n, .slice A x.l.length c] 25 (0, 0)) := by rw [← hW1]; exact heap_alloc_new _ _
 have hg2 : W2.heap[w.heap.size + 1]? = some (.cells #[.int .i64 0, .int .i64 0, .slice none 0 0] 25 (0, 0)) := by rw [← hs1, ← hWb]; exact heap_alloc_new _ _
 have hgp := (hbb.block _ (blk_lt hg1)).trans hg1
 have b0 : W2.cell? ⟨w.heap.size, 0, none⟩ = some (.int .i64 x.k) := (blk_cell hgp 0).trans rfl
 have b1 : W2.cell? ⟨w.heap.size, 1, none⟩ = some (.int .i64 x.n) := (blk_cell hgp 1).trans rfl
 have b2 : W2.cell? ⟨w.heap.size, 2, none⟩ = some (.slice A x.l.length c) := (blk_cell hgp 2).trans rfl
 have HW2 := As hW2
 have HB2 := As hb2
 have HG2 := As hg2
 have HOKK := As hokk
 have HOK2 := As (show ∀ k, W2.heap.size ≤ k → okk k from fun k hk => by rw [hokk]; have := blk_lt hg2; exact ⟨hok k (Nat.le_trans hb2.size hk), by omega⟩)
 have HK2 := As ((HX.out.old hb2).mono (ok' := okk) (fun k hk => by rw [hokk]; exact ⟨hk.1, by have := hk.2; omega⟩))
 have HSZ := As h2
 have HVAC := As (show ∀ i, i < ([] : List Tr).length → ∀ (ok' : Nat → Prop) (v' : Value) (w' : World), (∀ k, w'.heap.size ≤ k → ok' k) → ITr 25 w' ok' v' (([] : List Tr).getD i z0) → Calls Tryz.prog 108 #[v'] w' (RetTr1 25 ok' (([] : List Tr).getD i z0) w') from fun i hi => absurd hi (Nat.not_lt_zero _))
 have HSN := As (sub_nil x.sz x (Nat.le_refl _))
 clear hW2 hs1 hW1 hWb hb1 hbb hb2 hg1 hgp hg2 hok hokk hx
 go_enter Tryz.func108, Tryz.ntmps108
 go_upto_region 1 with fail
 rw [HW2.out]
 go_wp2_with fail
 with_reducible refine (subst_gen [] HVAC.out x.sz x okk _ _ _ (Nat.le_refl _) HOK2.out HK2.out (LTr.nil _ _ _) HSZ.out).mono ?_
 rintro e w3 ⟨v3, rfl, hv, hb⟩
 rw [HSN.out] at hv
 have HV := As hv
 obtain ⟨A4, c4, rfl⟩ := hv.shape
 have HB3 := As (below_step HB2.out hb)
 have hg3 := blk_below HG2.out hb
 have hgl := blk_lt hg3
 have r0 : w3.cell? ⟨w.heap.size + 1, 0, none⟩ = some (.int .i64 0) := (blk_cell hg3 0).trans rfl
 have r1 : w3.cell? ⟨w.heap.size + 1, 1, none⟩ = some (.int .i64 0) := (blk_cell hg3 1).trans rfl
 have r2 : w3.cell? ⟨w.heap.size + 1, 2, none⟩ = some (.slice none 0 0) := (blk_cell hg3 2).trans rfl
 have f0 := blk_frozen hg3 0
 have f1 := blk_frozen hg3 1
 have f2 := blk_frozen hg3 2
 clear hv hb hg3
 go_wp2
 refine bodyPost_ret (v := .agg #[.int .i64 x.k, .int .i64 x.n, .slice A4 x.l.length c4]) (by simp [results, Tryz.results108, go_sem, hgl, r0, r1, r2]) rfl ⟨_, rfl, ?_, ?_⟩
 ·refine (HV.out.step (fun k hk _ => ?_)).mono (fun k hk => ?_)
  ·rw [HOKK.out] at hk
   rw [Below.heap_setCell _ _ _ _ hk.2, Below.heap_setCell _ _ _ _ hk.2, Below.heap_setCell _ _ _ _ hk.2]
  ·rw [HOKK.out] at hk
   exact hk.1
 ·exact below_set (below_set (below_set HB3.out (Nat.le_succ _)) (Nat.le_succ _)) (Nat.le_succ _)
theorem sz_getD {ts : List Tr} {i : Nat} (h : i < ts.length) : (ts.getD i z0).sz ≤ szl ts := by
 have h1 := szl_next h
 have h2 := szl_le ts (i + 1)
 omega
theorem subst_ty (ts : List Tr) (x : Tr) (ok : Nat → Prop) (v va : Value) (w : World) (hok : ∀ k, w.heap.size ≤ k → ok k) (hx : ITr 25 w ok v x) (ha : LTr 25 w ok va ts) (h2 : x.sz ≤ 1000000) (h3 : szl ts ≤ 1000000) :
  Calls Tryz.prog 71 #[v, va] w (RetTr1 25 ok (x.sub ts) w) :=
 subst_gen ts (fun i hi ok' v' w' hok' hx' => clone_ty _ ok' v' w' hok' hx' (by have := sz_getD hi; omega)) x.sz x ok v va w (Nat.le_refl _) hok hx ha h2
/-
  Data types as they lie in memory.
-/
/-- A constructor. -/
structure Cn where
 s : ByteArray
 l : List Tr
/-- A data type. -/
structure Dt where
 s : ByteArray
 n : Int
 l : List Cn
def c0 : Cn := ⟨⟨#[]⟩, []⟩
def d0 : Dt := ⟨⟨#[]⟩, 0, []⟩
def kCn : Kd Cn := Kd.iso (Kd.pair Kd.string (Kd.slice 25 (kTr 25))) (fun x : Cn => (x.s, x.l))
def kDt : Kd Dt := Kd.iso (Kd.pair Kd.string (Kd.pair (Kd.int .i64) (Kd.slice 117 kCn))) (fun x : Dt => (x.s, x.n, x.l))
section
variable {w w1 W : World} {ok ok' : Nat → Prop}
theorem kCn_openF {x : Cn} {cs : List Value} (h : Kd.FK kCn W ok x cs) : ∃ A c, cs = [.string x.s, .slice A x.l.length c] ∧ x.l.length ≤ c ∧ Kd.F (kTr 25) W ok A x.l.length x.l := by
 obtain ⟨_, _, rfl, rfl, ⟨A, c, rfl, l1, _⟩⟩ := Kd.FK_now h
 refine ⟨A, c, rfl, l1, fun W' hW => ?_⟩
 obtain ⟨_, _, he, e1, ⟨A', c', rfl, _, g⟩⟩ := h W' hW
 have e1' : _ = [Value.string x.s] := e1
 rw [e1'] at he
 simp at he
 rw [he.1]
 exact g
theorem kDt_openF {x : Dt} {cs : List Value} (h : Kd.FK kDt W ok x cs) : ∃ A c, cs = [.string x.s, .int .i64 x.n, .slice A x.l.length c] ∧ x.l.length ≤ c ∧ Kd.F kCn W ok A x.l.length x.l := by
 obtain ⟨_, _, rfl, rfl, ⟨_, _, rfl, rfl, ⟨A, c, rfl, l1, _⟩⟩⟩ := Kd.FK_now h
 refine ⟨A, c, rfl, l1, fun W' hW => ?_⟩
 obtain ⟨_, _, he, e1, ⟨_, _, rfl, e2, ⟨A', c', rfl, _, g⟩⟩⟩ := h W' hW
 have e1' : _ = [Value.string x.s] := e1
 have e2' : _ = [Value.int .i64 x.n] := e2
 rw [e1', e2'] at he
 simp at he
 rw [he.1]
 exact g
end
def LCn (w : World) (ok : Nat → Prop) (v : Value) (xs : List Cn) : Prop := ∃ A c, v = .slice A xs.length c ∧ xs.length ≤ c ∧ Kd.F kCn w ok A xs.length xs
def LDt (w : World) (ok : Nat → Prop) (v : Value) (xs : List Dt) : Prop := ∃ A c, v = .slice A xs.length c ∧ xs.length ≤ c ∧ Kd.F kDt w ok A xs.length xs
section
variable {w w1 W : World} {ok ok' : Nat → Prop} {v : Value}
theorem LDt.step {xs : List Dt} (h : LDt w ok v xs) (hm : ∀ k, ok k → k < w.heap.size → w1.heap[k]? = w.heap[k]?) : LDt w1 ok v xs := by
 obtain ⟨A, c, e, hc, hF⟩ := h
 exact ⟨A, c, e, hc, Kd.F_step hF hm⟩
theorem LDt.below {xs : List Dt} (h : LDt w ok v xs) (hb : Below w.heap.size w w1) : LDt w1 ok v xs := h.step (fun k _ hlt => hb.block k hlt)
theorem LDt.mono {xs : List Dt} (h : LDt w ok v xs) (hok : ∀ k, ok k → ok' k) : LDt w ok' v xs := by
 obtain ⟨A, c, e, hc, hF⟩ := h
 exact ⟨A, c, e, hc, Kd.F_mono hF hok⟩
theorem LDt.old {xs : List Dt} (h : LDt w ok v xs) (hb : Below w.heap.size w w1) : LDt w1 (fun k => ok k ∧ k < w.heap.size) v xs := by
 obtain ⟨A, c, e, hc, hF⟩ := h
 exact ⟨A, c, e, hc, Kd.F_step (Kd.F_bound hF) (fun k hk _ => hb.block k hk.2)⟩
theorem LDt.max {xs : List Dt} (h : LDt w ok v xs) : xs.length ≤ 9223372036854775807 := by
 obtain ⟨A, c, _, _, hF⟩ := h
 exact Kd.F_max hF
theorem LCn.max {xs : List Cn} (h : LCn w ok v xs) : xs.length ≤ 9223372036854775807 := by
 obtain ⟨A, c, _, _, hF⟩ := h
 exact Kd.F_max hF
/-- A row's address has no spot. -/
theorem F_addr {α : Type} {d : Kd α} {A : Option Addr} {n : Nat} {xs : List α} (h : Kd.F d w ok A n xs) (z : α) (hd : 0 < d.sz) (i : Nat) (hi : i < n) : ∃ b o cs, A = some ⟨b, o, none⟩ ∧ cs.length = d.sz ∧ Kd.FK d w ok (xs.getD i z) cs ∧ ∀ j u, cs[j]? = some u → w.cell? ⟨b, o + (i * d.sz + j), none⟩ = some u := by
 obtain ⟨ad, cs, e, hlen, hK, hcell, hin⟩ := Kd.F_get h z (i : Int) (by omega) (by omega)
 rw [Int.toNat_natCast] at hK hcell
 obtain ⟨ad0, cc, e0, hlen0, _, hc0, _⟩ := Kd.F_get h z 0 (by omega) (by omega)
 rw [e] at e0
 injection e0 with e0
 subst e0
 have hsp := World.cell?_spot (hc0 0 _ (List.getElem?_eq_getElem (by rw [hlen0]; exact hd)))
 simp [Addr.add] at hsp
 obtain ⟨b, o, sp⟩ := ad
 simp at hsp
 subst hsp
 exact ⟨b, o, cs, e, hlen, hK, fun j u hu => by have := hcell j u hu; rwa [tr_add] at this⟩
theorem LCn.at {A : Option Addr} {m c : Nat} {xs : List Cn} (h : LCn w ok (.slice A m c) xs) (i : Nat) (hi : i < xs.length) :
  ∃ b o A1 c1, A = some ⟨b, o, none⟩ ∧ w.cell? ⟨b, o + i * 2, none⟩ = some (.string (xs.getD i c0).s) ∧ w.cell? ⟨b, o + i * 2 + 1, none⟩ = some (.slice A1 (xs.getD i c0).l.length c1) ∧ LTr 25 w ok (.slice A1 (xs.getD i c0).l.length c1) (xs.getD i c0).l := by
 obtain ⟨A', c', e, hc, hF⟩ := h
 simp at e
 obtain ⟨rfl, rfl, rfl⟩ := e
 obtain ⟨b, o, cs, e, hlen, hK, hcell⟩ := F_addr hF c0 (by show 0 < 2; decide) i hi
 obtain ⟨A1, c1, rfl, hl, hF1⟩ := kCn_openF hK
 exact ⟨b, o, A1, c1, e, hcell 0 _ rfl, hcell 1 _ rfl, A1, c1, rfl, hl, hF1⟩
theorem LDt.at {A : Option Addr} {m c : Nat} {xs : List Dt} (h : LDt w ok (.slice A m c) xs) (i : Nat) (hi : i < xs.length) :
  ∃ b o A1 c1, A = some ⟨b, o, none⟩ ∧ w.cell? ⟨b, o + i * 3, none⟩ = some (.string (xs.getD i d0).s) ∧ w.cell? ⟨b, o + i * 3 + 1, none⟩ = some (.int .i64 (xs.getD i d0).n) ∧ w.cell? ⟨b, o + i * 3 + 2, none⟩ = some (.slice A1 (xs.getD i d0).l.length c1) ∧ LCn w ok (.slice A1 (xs.getD i d0).l.length c1) (xs.getD i d0).l := by
 obtain ⟨A', c', e, hc, hF⟩ := h
 simp at e
 obtain ⟨rfl, rfl, rfl⟩ := e
 obtain ⟨b, o, cs, e, hlen, hK, hcell⟩ := F_addr hF d0 (by show 0 < 3; decide) i hi
 obtain ⟨A1, c1, rfl, hl, hF1⟩ := kDt_openF hK
 exact ⟨b, o, A1, c1, e, hcell 0 _ rfl, hcell 1 _ rfl, hcell 2 _ rfl, A1, c1, rfl, hl, hF1⟩
end
/-
  The contract of typing.Fields.
-/
section
variable {P : Program} {ops : Array Oper} {rest : List Oper} {o : Oper} {a : Act} {Q : Exit → Act → World → Prop}
/-- append(v, x), behind the slice [x]; the world but for v's row is as it was. -/
theorem tr_append2 {w0 W : World} {base : Nat} (hgd : o.guard = none) (s x : Operand) (t e : TypeId)
  (ho : o.op = .call { callee := .builtin .append, args := #[s, x], argTypes := #[t, t] })
  (ht : P.underlying t = some (.slice e)) (hinfo : (P.info? e).map (fun i => (i.zero, i.size, i.bytes)) = some (some zeroT, 3, 40))
  (v : Value) (xs : List Tr) (y : Tr) {i j : Int} {A : Option Addr} {m c : Nat} (ok : Nat → Prop) (hs : a.eval s = v) (hx : a.eval x = .slice (some ⟨W.heap.size, 0, none⟩) 1 1)
  (hp : ITr e W (fun k => ok k ∧ some k ≠ v.ownBlock) (.agg #[.int .i64 i, .int .i64 j, .slice A m c]) y) (hfresh : ∀ k, W.heap.size ≤ k → ok k)
  (HO : NTr e W base ok v xs) (HB : Below base w0 W) (hbase : base ≤ W.heap.size) (hl : xs.length ≤ 1000000000)
  (h : ∀ v1 w1, NTr e w1 base ok v1 (xs ++ [y]) → Below base w0 w1 → W.grownBy w1 v.ownBlock → wpList P ops Q rest (a.put o.dst v1) w1) :
  wpList P ops Q (o :: rest) a (W.alloc (.cells #[.int .i64 i, .int .i64 j, .slice A m c] e)) := by
 refine Kd.N_append (kTr e) base hgd s x t e zeroT 40 ho ht hinfo rfl (by show 0 < 3; decide) (by decide) v xs y [.int .i64 i, .int .i64 j, .slice A m c] ok (fun k => ok k ∧ some k ≠ v.ownBlock) hs hx hp.fk (fun k hk => hk) hfresh HO HB hbase (by omega) ?_
 intro v1 w1 h4 hb hg hat
 exact h v1 w1 h4 hb hg
end
def fldD (ds : List Dt) (x : Tr) : Dt := ds.getD x.n.toNat d0
def fldC (ds : List Dt) (x : Tr) (c : Int) : Cn := (fldD ds x).l.getD c.toNat c0
/-- A constructor of a data type's type. -/
def fldOk (ds : List Dt) (x : Tr) (c : Int) : Prop := x.k = 5 ∧ 0 ≤ x.n ∧ x.n < ds.length ∧ (x.l.length : Int) = (fldD ds x).n ∧ 0 ≤ c ∧ c < (fldD ds x).l.length
def short (l : List Tr) : Bool := l.all (fun t => decide (t.sz ≤ 200))
open Classical in
/-- The types of its fields. -/
noncomputable def fieldsP (ds : List Dt) (x : Tr) (c : Int) : Option (List Tr) := if fldOk ds x c then (if short (subl x.l (fldC ds x c).l) = true then some (subl x.l (fldC ds x c).l) else none) else none
/-- The types in the data are not too large. -/
def SmallD (ds : List Dt) : Prop := ∀ i j, ((ds.getD i d0).l.getD j c0).l.length ≤ 1000000 ∧ ∀ m, (((ds.getD i d0).l.getD j c0).l.getD m z0).sz ≤ 1000000
def RetFld (ok : Nat → Prop) (r : Option (List Tr)) (w0 : World) (e : Ending) (w' : World) : Prop := Below w0.heap.size w0 w' ∧ ((r = none ∧ e = .returned (.tuple #[.slice none 0 0, .bool false])) ∨ ∃ l v, r = some l ∧ e = .returned (.tuple #[v, .bool true]) ∧ LTr 25 w' ok v l)
theorem short_not {ts l : List Tr} {i : Nat} (hi : i < l.length) (h : 200 < ((l.getD i z0).sub ts).sz) : short (subl ts l) = false := by
 unfold short
 rw [subl_map, List.all_eq_false]
 refine ⟨(l.getD i z0).sub ts, List.mem_map.2 ⟨l.getD i z0, ?_, rfl⟩, by rw [decide_eq_false (by omega)]; decide⟩
 rw [List.getD_eq_getElem?_getD, List.getElem?_eq_getElem hi]
 exact List.getElem_mem hi
theorem short_upto {ts l : List Tr} (h : ∀ i, i < l.length → ((l.getD i z0).sub ts).sz ≤ 200) : short (subl ts l) = true := by
 unfold short
 rw [subl_map, List.all_eq_true]
 intro y hy
 obtain ⟨t, ht, rfl⟩ := List.mem_map.1 hy
 obtain ⟨i, hi, rfl⟩ := List.mem_iff_getElem.1 ht
 have := h i hi
 rw [List.getD_eq_getElem?_getD, List.getElem?_eq_getElem hi] at this
 simpa using this
theorem size_lit (x : Tr) (ok : Nat → Prop) (v : Value) (w : World) (h : ITr 25 w ok v x) : Calls Tryz.prog 67 #[v, .int .i64 201] w (RetN ((min x.sz 201 : Nat) : Int) w) := size_ty x.sz x ok v 201 w (Nat.le_refl _) h (by decide) (by decide)
set_option maxRecDepth 100000 in
set_option maxHeartbeats 4000000 in
theorem fields_ty' (ds : List Dt) (k xn : Int) (l : List Tr) (c : Int) (ok : Nat → Prop) (vd : Value) (A : Option Addr) (e : Nat) (w : World) (hok : ∀ k, w.heap.size ≤ k → ok k) (hd : LDt w ok vd ds) (hx : LTr 25 w ok (.slice A l.length e) l) (hs : SmallD ds) (h2 : szl l ≤ 1000000) :
  Calls Tryz.prog 38 #[vd, .agg #[.int .i64 k, .int .i64 xn, .slice A l.length e], .int .i64 c] w (RetFld ok (fieldsP ds ⟨k, xn, l⟩ c) w) := by
 have hmxd := hd.max
 have HD := As hd
 obtain ⟨D, dc, rfl, hdc, _⟩ := hd
 have HLX := As hx
 have hmx := hx.max
 obtain ⟨W1, hW1⟩ : ∃ W1, w.alloc (.cells #[.int .i64 k, .int .i64 xn, .slice A l.length e] 25) = W1 := ⟨_, rfl⟩
 have hb1 : Below w.heap.size w W1 := by rw [← hW1]; exact below_alloc (Below.refl _ _) _
 have hg1 : W1.heap[w.heap.size]? = some (.cells #[.int .i64 k, .int .i64 xn, .slice A l.length e] 25 (0, 0)) := by rw [← hW1]; exact heap_alloc_new _ _
 have b0 : W1.cell? ⟨w.heap.size, 0, none⟩ = some (.int .i64 k) := (blk_cell hg1 0).trans rfl
 have b1 : W1.cell? ⟨w.heap.size, 1, none⟩ = some (.int .i64 xn) := (blk_cell hg1 1).trans rfl
 have b2 : W1.cell? ⟨w.heap.size, 2, none⟩ = some (.slice A l.length e) := (blk_cell hg1 2).trans rfl
 have HW1 := As hW1
 have HB1 := As hb1
 have HG1 := As hg1
 have HOK := As hok
 have HSM := As hs
 have HSX := As h2
 clear hW1 hb1 hg1 hok hs h2 hx
 by_cases h1 : k = 5
 rotate_left
 ·have e1 : (k != 5) = true := by simpa using h1
  have HN := As (show fieldsP ds ⟨k, xn, l⟩ c = none from if_neg (fun h => h1 h.1))
  clear h1
  go_enter Tryz.func38, Tryz.ntmps38
  go_upto_region 1 with fail
  rw [HW1.out]
  go_wp2
  go_ret2
  exact ⟨HB1.out, .inl ⟨HN.out, rfl⟩⟩
 subst h1
 by_cases h2 : 0 ≤ xn
 rotate_left
 ·have e2 : decide (xn < 0) = true := decide_eq_true (by omega)
  have HN := As (show fieldsP ds ⟨5, xn, l⟩ c = none from if_neg (fun h => h2 h.2.1))
  go_enter Tryz.func38, Tryz.ntmps38
  go_upto_region 1 with fail
  rw [HW1.out]
  go_wp2
  go_ret2
  exact ⟨HB1.out, .inl ⟨HN.out, rfl⟩⟩
 obtain ⟨n, rfl⟩ := Int.eq_ofNat_of_zero_le h2
 have e2 : decide ((n : Int) < 0) = false := decide_eq_false (by omega)
 by_cases h3 : n < ds.length
 rotate_left
 ·have e3 : decide ((ds.length : Int) ≤ (n : Int)) = true := decide_eq_true (by omega)
  have e3n : decide (ds.length ≤ n) = true := decide_eq_true (by omega)
  have HN := As (show fieldsP ds ⟨5, (n : Int), l⟩ c = none from if_neg (fun h => h3 (by have h4 : (n : Int) < ds.length := h.2.2.1; omega)))
  go_enter Tryz.func38, Tryz.ntmps38
  go_upto_region 1 with fail
  rw [HW1.out]
  go_wp2
  go_ret2
  exact ⟨HB1.out, .inl ⟨HN.out, rfl⟩⟩
 have e3 : decide ((ds.length : Int) ≤ (n : Int)) = false := decide_eq_false (by omega)
 have e3n : decide (ds.length ≤ n) = false := decide_eq_false (by omega)
 obtain ⟨b, o, A1, c1, rfl, p0, p1, p2, hcons⟩ := (HD.out.old HB1.out).at n h3
 have hfd : fldD ds ⟨5, (n : Int), l⟩ = ds.getD n d0 := by unfold fldD; rw [Int.toNat_natCast]
 obtain ⟨dt, hdt⟩ : ∃ dt, ds.getD n d0 = dt := ⟨_, rfl⟩
 have HSM2 := As (HSM.out n)
 rw [hdt] at p0 p1 p2 hcons hfd HSM2
 have HFD := As hfd
 have hmc := hcons.max
 obtain ⟨W2, hW2⟩ : ∃ W2, W1.alloc (.cells #[.string dt.s, .int .i64 dt.n, .slice A1 dt.l.length c1] 68) = W2 := ⟨_, rfl⟩
 have hb2 : Below W1.heap.size W1 W2 := by rw [← hW2]; exact below_alloc (Below.refl _ _) _
 have hg2 : W2.heap[W1.heap.size]? = some (.cells #[.string dt.s, .int .i64 dt.n, .slice A1 dt.l.length c1] 68 (0, 0)) := by rw [← hW2]; exact heap_alloc_new _ _
 have HW2 := As hW2
 have HB2 := As (below_step HB1.out hb2)
 have HG2 := As (blk_below HG1.out hb2)
 have a0 : W2.cell? ⟨w.heap.size, 0, none⟩ = some (.int .i64 5) := (blk_cell HG2.out 0).trans rfl
 have a1 : W2.cell? ⟨w.heap.size, 1, none⟩ = some (.int .i64 (n : Int)) := (blk_cell HG2.out 1).trans rfl
 have a2 : W2.cell? ⟨w.heap.size, 2, none⟩ = some (.slice A l.length e) := (blk_cell HG2.out 2).trans rfl
 have d1 : W2.cell? ⟨W1.heap.size, 1, none⟩ = some (.int .i64 dt.n) := (blk_cell hg2 1).trans rfl
 have d2 : W2.cell? ⟨W1.heap.size, 2, none⟩ = some (.slice A1 dt.l.length c1) := (blk_cell hg2 2).trans rfl
 have HCN := As (show LCn W2 (fun k => ok k ∧ k < w.heap.size) (.slice A1 dt.l.length c1) dt.l from by obtain ⟨A', c', e', hc', hF'⟩ := hcons; exact ⟨A', c', e', hc', Kd.F_step hF' (fun k _ hk => hb2.block k hk)⟩)
 clear hW2 hb2 hg2 hcons hfd hdt h2
 by_cases h4 : (l.length : Int) = dt.n
 rotate_left
 ·have e4 : ((l.length : Int) != dt.n) = true := by simpa using h4
  have HN := As (show fieldsP ds ⟨5, (n : Int), l⟩ c = none from if_neg (fun h => h4 (by rw [← HFD.out]; exact h.2.2.2.1)))
  clear h4
  go_enter Tryz.func38, Tryz.ntmps38
  go_upto_region 1 with fail
  rw [HW1.out]
  go_upto_region 4 with fail
  rw [HW2.out]
  go_wp2
  go_ret2
  exact ⟨HB2.out, .inl ⟨HN.out, rfl⟩⟩
 have e4 : ((l.length : Int) != dt.n) = false := by simpa using h4
 have H4 := As h4
 clear h4
 by_cases h5 : 0 ≤ c
 rotate_left
 ·have e5 : decide (c < 0) = true := decide_eq_true (by omega)
  have HN := As (show fieldsP ds ⟨5, (n : Int), l⟩ c = none from if_neg (fun h => h5 h.2.2.2.2.1))
  go_enter Tryz.func38, Tryz.ntmps38
  go_upto_region 1 with fail
  rw [HW1.out]
  go_upto_region 4 with fail
  rw [HW2.out]
  go_wp2
  go_ret2
  exact ⟨HB2.out, .inl ⟨HN.out, rfl⟩⟩
 obtain ⟨q, rfl⟩ := Int.eq_ofNat_of_zero_le h5
 have e5 : decide ((q : Int) < 0) = false := decide_eq_false (by omega)
 by_cases h6 : q < dt.l.length
 rotate_left
 ·have e6 : decide ((dt.l.length : Int) ≤ (q : Int)) = true := decide_eq_true (by omega)
  have e6n : decide (dt.l.length ≤ q) = true := decide_eq_true (by omega)
  have HN := As (show fieldsP ds ⟨5, (n : Int), l⟩ (q : Int) = none from if_neg (fun h => h6 (by have h7 := h.2.2.2.2.2; rw [HFD.out] at h7; omega)))
  go_enter Tryz.func38, Tryz.ntmps38
  go_upto_region 1 with fail
  rw [HW1.out]
  go_upto_region 4 with fail
  rw [HW2.out]
  go_wp2
  go_ret2
  exact ⟨HB2.out, .inl ⟨HN.out, rfl⟩⟩
 have e6 : decide ((dt.l.length : Int) ≤ (q : Int)) = false := decide_eq_false (by omega)
 have e6n : decide (dt.l.length ≤ q) = false := decide_eq_false (by omega)
 go_enter Tryz.func38, Tryz.ntmps38
 go_upto_region 1 with fail
 rw [HW1.out]
 go_upto_region 4 with fail
 rw [HW2.out]
 go_upto_region 7 with fail
 obtain ⟨cb, co, A2, c2, rfl, g0, g1, hargs⟩ := HCN.out.at q h6
 have hfc : fldC ds ⟨5, (n : Int), l⟩ (q : Int) = dt.l.getD q c0 := by unfold fldC; rw [HFD.out, Int.toNat_natCast]
 have HSM3 := As (HSM2.out q)
 obtain ⟨cn, hcn⟩ : ∃ cn, dt.l.getD q c0 = cn := ⟨_, rfl⟩
 rw [hcn] at g0 g1 hargs hfc HSM3
 have HFO := As (show fldOk ds ⟨5, (n : Int), l⟩ (q : Int) from ⟨rfl, Int.natCast_nonneg _, by show (n : Int) < ds.length; omega, by rw [HFD.out]; exact H4.out, Int.natCast_nonneg _, by rw [HFD.out]; omega⟩)
 have HFP := As (show fieldsP ds ⟨5, (n : Int), l⟩ (q : Int) = if short (subl l cn.l) = true then some (subl l cn.l) else none by unfold fieldsP; rw [if_pos HFO.out, hfc])
 obtain ⟨cl, hcl⟩ : ∃ cl, cn.l = cl := ⟨_, rfl⟩
 rw [hcl] at g1 hargs HFP HSM3
 have HARo := As hargs
 have hmcl := hargs.max
 have HBb := As (Below.refl W2.heap.size W2)
 obtain ⟨okx, hokx⟩ : ∃ okx : Nat → Prop, okx = fun k => ok k ∧ k ≠ w.heap.size := ⟨_, rfl⟩
 have HOKX := As hokx
 have hgpl := blk_lt HG1.out
 have H2S := As (HB2.out.size)
 have hw2 : w.heap.size < W2.heap.size := blk_lt HG2.out
 have HAR0 := As (show LTr 25 w (fun k => ok k ∧ k < w.heap.size) (.slice A l.length e) l from HLX.out.bound)
 clear hargs hfc hcn hcl hokx hgpl
 go_wp2
 go_loopw [9, 57] (fun v9 v57 wr => ∃ i : Nat, v57 = .int .i64 i ∧ i ≤ cl.length ∧ Aside0 (NTr 25 wr W2.heap.size okx v9 (subl l (cl.take i))) ∧ Aside0 (∀ j, j < i → ((cl.getD j z0).sub l).sz ≤ 200) ∧ Aside0 (wr.heap[w.heap.size]? = some (.cells #[.int .i64 5, .int .i64 (n : Int), .slice A l.length e] 25 (0, 0))) ∧ Aside0 (Below W2.heap.size W2 wr)) (fun _ v57 _ => cl.length - (intOf v57).toNat)
 case atStart => exact ⟨0, rfl, Nat.zero_le _, ⟨by rw [List.take_zero, subl]; exact NTr.nil _ _ _ _⟩, ⟨fun j hj => absurd hj (Nat.not_lt_zero _)⟩, HG2, HBb⟩
 case round =>
  clear HBb
  obtain ⟨i, rfl, hi, HO, HK, HG, HB⟩ := hrel
  have HBW := As (below_weaken HB2.out HB2.out.size HB.out)
  by_cases hlt : i < cl.length
  ·have hlb : decide ((i : Int) < (cl.length : Int)) = true := decide_eq_true (by omega)
   obtain ⟨okk, hokk⟩ : ∃ okk : Nat → Prop, okk = fun k => okx k ∧ some k ≠ u9.ownBlock := ⟨_, rfl⟩
   have HOKK := As hokk
   have hfr : ∀ k, wr.heap.size ≤ k → okx k := fun k hk => by
    rw [HOKX.out]
    exact ⟨HOK.out k (Nat.le_trans HBW.out.size hk), by have := HB.out.size; omega⟩
   have HOKr := As (show ∀ k, wr.heap.size ≤ k → okk k from fun k hk => by rw [hokk]; exact ⟨hfr k hk, fun he => by have := Kd.N_lt HO.out k he.symm; omega⟩)
   have hold : ∀ k, (ok k ∧ k < w.heap.size) → okk k := fun k hk => by
    rw [hokk, HOKX.out]
    exact ⟨⟨hk.1, by omega⟩, fun he => by have := Kd.N_base HO.out k he.symm; omega⟩
   obtain ⟨tb, ty, A3, c3, rfl, x0, x1, x2, hkid⟩ := (HARo.out.below HB.out).at i hlt
   have HKY := As (hkid.mono hold)
   have HTN := As (subl_next l hlt)
   have HSY := As (HSM3.out.2 i)
   obtain ⟨y, hy⟩ : ∃ y, cl.getD i z0 = y := ⟨_, rfl⟩
   have HYY := As hy
   rw [hy] at x0 x1 x2 HKY HTN HSY
   have g0 : wr.cell? ⟨w.heap.size, 2, none⟩ = some (.slice A l.length e) := (blk_cell HG.out 2).trans rfl
   obtain ⟨W4, hW4⟩ : ∃ W4, wr.alloc (.cells #[.int .i64 y.k, .int .i64 y.n, .slice A3 y.l.length c3] 25) = W4 := ⟨_, rfl⟩
   have hb4 : Below wr.heap.size wr W4 := by rw [← hW4]; exact below_alloc (Below.refl _ _) _
   have hga : W4.heap[wr.heap.size]? = some (.cells #[.int .i64 y.k, .int .i64 y.n, .slice A3 y.l.length c3] 25 (0, 0)) := by rw [← hW4]; exact heap_alloc_new _ _
   have y0 : W4.cell? ⟨wr.heap.size, 0, none⟩ = some (.int .i64 y.k) := (blk_cell hga 0).trans rfl
   have y1 : W4.cell? ⟨wr.heap.size, 1, none⟩ = some (.int .i64 y.n) := (blk_cell hga 1).trans rfl
   have y2 : W4.cell? ⟨wr.heap.size, 2, none⟩ = some (.slice A3 y.l.length c3) := (blk_cell hga 2).trans rfl
   have HW4 := As hW4
   have HB4 := As (below_step HB.out hb4)
   have HY4 := As (HKY.out.below hb4)
   have HO4 := As (HO.out.below hb4)
   have HG4 := As (blk_below HG.out hb4)
   have HA4 := As (show LTr 25 W4 okk (.slice A l.length e) l from ((HLX.out.old (below_weaken HB2.out HB2.out.size HB4.out)).mono hold))
   have HOK4 := As (show ∀ k, W4.heap.size ≤ k → okk k from fun k hk => HOKr.out k (Nat.le_trans hb4.size hk))
   have h42 : W4.cell? ⟨w.heap.size, 2, none⟩ = some (.slice A l.length e) := (blk_cell HG4.out 2).trans rfl
   have HLI := As (show (subl l (cl.take i)).length ≤ 1000000000 by rw [subl_length, List.length_take]; have := HSM3.out.1; omega)
   have NE := As (show some w.heap.size ≠ u9.ownBlock from fun he => by have h := HO.out.1 _ he.symm; rw [HOKX.out] at h; exact h.2 rfl)
   clear hb4 hga hW4 hkid hy hfr hold hokk
   go_upto_region 10 with fail
   rw [HW4.out]
   go_wp2_with fail
   with_reducible refine (subst_ty l y okk _ _ _ HOK4.out HY4.out HA4.out HSY.out HSX.out).mono ?_
   rintro e5 w5 ⟨v5, rfl, hv, hb⟩
   obtain ⟨u, hu⟩ : ∃ u, y.sub l = u := ⟨_, rfl⟩
   rw [hu] at hv
   have HU := As hu
   have HV5 := As hv
   obtain ⟨A6, c6, rfl⟩ := hv.shape
   have HB5 := As (below_step HB4.out hb)
   have HO5 := As (HO4.out.below hb)
   have HG5 := As (blk_below HG4.out hb)
   obtain ⟨W6, hW6⟩ : ∃ W6, w5.alloc (.cells #[.int .i64 u.k, .int .i64 u.n, .slice A6 u.l.length c6] 25) = W6 := ⟨_, rfl⟩
   have hb6 : Below w5.heap.size w5 W6 := by rw [← hW6]; exact below_alloc (Below.refl _ _) _
   have hg6 : W6.heap[w5.heap.size]? = some (.cells #[.int .i64 u.k, .int .i64 u.n, .slice A6 u.l.length c6] 25 (0, 0)) := by rw [← hW6]; exact heap_alloc_new _ _
   have z0' : W6.cell? ⟨w5.heap.size, 0, none⟩ = some (.int .i64 u.k) := (blk_cell hg6 0).trans rfl
   have z1' : W6.cell? ⟨w5.heap.size, 1, none⟩ = some (.int .i64 u.n) := (blk_cell hg6 1).trans rfl
   have z2' : W6.cell? ⟨w5.heap.size, 2, none⟩ = some (.slice A6 u.l.length c6) := (blk_cell hg6 2).trans rfl
   have HW6 := As hW6
   have HB6 := As (below_step HB5.out hb6)
   have HV6 := As (HV5.out.below hb6)
   have HO6 := As (HO5.out.below hb6)
   have HG6 := As (blk_below HG5.out hb6)
   have HG6u := As hg6
   clear hv hb hb6 hW6 hu hg6 y0 y1 y2 h42 g0
   go_upto_region 11 with fail
   rw [HW6.out]
   go_wp2_with fail
   with_reducible refine (size_lit u okk _ _ HV6.out).mono ?_
   rintro e7 w7 ⟨rfl, hb⟩
   have HB7 := As (below_step HB6.out hb)
   obtain ⟨r, hr⟩ : ∃ r, min u.sz 201 = r := ⟨_, rfl⟩
   rw [hr]
   by_cases hbig : 200 < r
   ·have hbb : decide ((200 : Int) < (r : Int)) = true := decide_eq_true (by omega)
    have hbn : decide (200 < r) = true := decide_eq_true hbig
    have HN := As (show fieldsP ds ⟨5, (n : Int), l⟩ (q : Int) = none by
     rw [HFP.out, if_neg]
     rw [short_not (ts := l) hlt (by rw [HYY.out, HU.out]; omega)]
     decide)
    have HBF := As (below_weaken HB2.out HB2.out.size HB7.out)
    clear hb
    go_wp2
    go_ret2
    exact ⟨HBF.out, .inl ⟨HN.out, rfl⟩⟩
   ·have hbb : decide ((200 : Int) < (r : Int)) = false := decide_eq_false (by omega)
    have hbn : decide (200 < r) = false := decide_eq_false hbig
    have HSU := As (show u.sz ≤ 200 by omega)
    have HG7u := blk_below HG6u.out hb
    have q0 : w7.cell? ⟨w5.heap.size, 0, none⟩ = some (.int .i64 u.k) := (blk_cell HG7u 0).trans rfl
    have q1 : w7.cell? ⟨w5.heap.size, 1, none⟩ = some (.int .i64 u.n) := (blk_cell HG7u 1).trans rfl
    have q2 : w7.cell? ⟨w5.heap.size, 2, none⟩ = some (.slice A6 u.l.length c6) := (blk_cell HG7u 2).trans rfl
    have HV7 := As (HV6.out.below hb)
    rw [HOKK.out] at HV7
    have HO7 := As (HO6.out.below hb)
    have HG7 := As (blk_below HG6.out hb)
    have HOK7 := As (show ∀ k, w7.heap.size ≤ k → okx k from fun k hk => by
     rw [HOKX.out]
     have h8 := (below_weaken HB2.out HB2.out.size HB7.out).size
     have h9 := HB7.out.size
     exact ⟨HOK.out k (Nat.le_trans h8 hk), by omega⟩)
    rw [HU.out] at HTN
    clear hb HG7u z0' z1' z2'
    go_wp2_with ((with_reducible refine gate_builtin (b := .append) (xs := #[.tmp 68, .tmp 70]) rfl ?_); at_builtin; refine tr_append2 (w0 := W2) (base := W2.heap.size) rfl (.tmp 68) (.tmp 70) 23 25 rfl Tryz.underlying23 info_typ u9 (subl l (cl.take i)) u okx rfl rfl HV7.out HOK7.out HO7.out HB7.out HB7.out.size HLI.out ?_; intro v8 w8 hr_ hb_ hg_; rw [HTN.out] at hr_; have HO8 := As hr_; have HB8 := As hb_; have HG8 := As ((hg_.block _ (blk_lt HG7.out) NE.out).trans HG7.out); clear hr_ hb_ hg_)
    go_roundw
    case rel => exact ⟨i + 1, by go_num, by omega, HO8, ⟨fun j hj => by rcases Nat.lt_or_ge j i with h | h; exact HK.out j h; rw [show j = i by omega, HYY.out, HU.out]; exact HSU.out⟩, HG8, HB8⟩
    case measure => simp [intOf]; omega
  ·have hlb : decide ((i : Int) < (cl.length : Int)) = false := decide_eq_false (by omega)
   have he : i = cl.length := by omega
   subst he
   rw [List.take_length] at HO
   have HS := As (show fieldsP ds ⟨5, (n : Int), l⟩ (q : Int) = some (subl l cl) by rw [HFP.out, if_pos (short_upto (ts := l) HK.out)])
   go_wp2
   go_ret2
   exact ⟨HBW.out, .inr ⟨subl l cl, _, HS.out, rfl, (NTr.lt HO.out).mono (fun k hk => by rw [HOKX.out] at hk; exact hk.1)⟩⟩
theorem fields_ty (ds : List Dt) (x : Tr) (c : Int) (ok : Nat → Prop) (vd v : Value) (w : World) (hok : ∀ k, w.heap.size ≤ k → ok k) (hd : LDt w ok vd ds) (hx : ITr 25 w ok v x) (hs : SmallD ds) (h2 : szl x.l ≤ 1000000) :
  Calls Tryz.prog 38 #[vd, v, .int .i64 c] w (RetFld ok (fieldsP ds x c) w) := by
 obtain ⟨A, e, rfl⟩ := hx.shape
 exact fields_ty' ds x.k x.n x.l c ok vd A e w hok hd hx.kids.2.2.2 hs h2
/-
  The contract of scope.Recursive.
-/
theorem info_bool : (Tryz.prog.info? 4).map (fun i => (i.zero, i.size, i.bytes)) = some (some (.bool false), 1, 1) := by kernel_rfl
def argB (a : Tr) (j : Nat) : Bool := (a.k == 4) && (a.n == (j : Int)) && ((a.l.length : Int) == 0)
def preB (b : Bool) (l : List Tr) (i : Nat) : Bool := b && (List.range i).all (fun j => argB (l.getD j z0) j)
theorem preB_next (b : Bool) (l : List Tr) (i : Nat) : preB b l (i + 1) = (preB b l i && argB (l.getD i z0) i) := by
 unfold preB
 rw [List.range_succ, List.all_append]
 simp [Bool.and_assoc]
/-- An argument is the data type itself, at its own parameters. -/
def recB (n : Nat) (vars : Int) (t : Tr) : Bool := preB ((t.k == 5) && (t.n == (n : Int)) && ((t.l.length : Int) == vars)) t.l t.l.length
/-- A slice of booleans that reads as bs. -/
def LBs (w : World) (ok : Nat → Prop) (v : Value) (bs : List Bool) : Prop := ∃ A c, v = .slice A bs.length c ∧ bs.length ≤ c ∧ Kd.F Kd.bool w ok A bs.length bs
def RetBs (ok : Nat → Prop) (bs : List Bool) (w0 : World) (e : Ending) (w' : World) : Prop := ∃ v, e = .returned v ∧ LBs w' ok v bs ∧ Below w0.heap.size w0 w'
set_option maxRecDepth 100000 in
set_option maxHeartbeats 4000000 in
theorem recursive_law (ds : List Dt) (n q : Nat) (ok : Nat → Prop) (vd : Value) (w : World) (hok : ∀ k, w.heap.size ≤ k → ok k) (hd : LDt w ok vd ds) (hn : n < ds.length) (hq : q < (ds.getD n d0).l.length) (hl : ((ds.getD n d0).l.getD q c0).l.length ≤ 1000000) :
  Calls Tryz.prog 57 #[vd, .int .i64 (n : Int), .int .i64 (q : Int)] w (RetBs ok (((ds.getD n d0).l.getD q c0).l.map (recB n (ds.getD n d0).n)) w) := by
 have hmxd := hd.max
 have HD := As hd
 obtain ⟨D, dc, rfl, hdc, _⟩ := hd
 obtain ⟨b, o, A1, c1, rfl, p0, p1, p2, hcons⟩ := HD.out.at n hn
 obtain ⟨dt, hdt⟩ : ∃ dt, ds.getD n d0 = dt := ⟨_, rfl⟩
 rw [hdt] at p0 p1 p2 hcons hq hl ⊢
 have hmc := hcons.max
 obtain ⟨cb, co, A2, c2, rfl, g0, g1, hargs⟩ := hcons.at q hq
 obtain ⟨cl, hcl⟩ : ∃ cl, (dt.l.getD q c0).l = cl := ⟨_, rfl⟩
 rw [hcl] at g1 hargs hl ⊢
 have HAR := As hargs
 have hmcl := hargs.max
 have HOK := As hok
 have HB := As (Below.refl w.heap.size w)
 have HO := As (Kd.R_nil Kd.bool 4 w w.heap.size (fun _ => True))
 have e1 : decide ((n : Int) < 0) = false := decide_eq_false (by omega)
 have e2 : decide ((ds.length : Int) ≤ (n : Int)) = false := decide_eq_false (by omega)
 have e2n : decide (ds.length ≤ n) = false := decide_eq_false (by omega)
 have e3 : decide ((q : Int) < 0) = false := decide_eq_false (by omega)
 have e4 : decide ((dt.l.length : Int) ≤ (q : Int)) = false := decide_eq_false (by omega)
 have e4n : decide (dt.l.length ≤ q) = false := decide_eq_false (by omega)
 clear hcl hdt hargs hcons hok
 go_enter Tryz.func57, Tryz.ntmps57
 go_wp2
 go_loopw [7, 45] (fun v7 v45 wr => ∃ i : Nat, v45 = .int .i64 i ∧ i ≤ cl.length ∧ Aside0 (Kd.bool.R 4 wr w.heap.size (fun _ => True) v7 ((cl.take i).map (recB n dt.n))) ∧ Aside0 (Below w.heap.size w wr)) (fun _ v45 _ => cl.length - (intOf v45).toNat)
 case atStart => exact ⟨0, rfl, Nat.zero_le _, HO, HB⟩
 case round =>
  clear HB HO
  obtain ⟨i, rfl, hi, HO, HB⟩ := hrel
  by_cases hlt : i < cl.length
  ·have hlb : decide ((i : Int) < (cl.length : Int)) = true := decide_eq_true (by omega)
   obtain ⟨tb, ty, A3, c3, rfl, x0, x1, x2, hkid⟩ := (HAR.out.below HB.out).at i hlt
   obtain ⟨t, ht⟩ : ∃ t, cl.getD i z0 = t := ⟨_, rfl⟩
   have HTT := As ht
   rw [ht] at x0 x1 x2 hkid
   have HKL := As (hkid.kids.2.2.2)
   have hmt := hkid.kids.2.2.2.max
   obtain ⟨W4, hW4⟩ : ∃ W4, wr.alloc (.cells #[.int .i64 t.k, .int .i64 t.n, .slice A3 t.l.length c3] 25) = W4 := ⟨_, rfl⟩
   have hb4 : Below wr.heap.size wr W4 := by rw [← hW4]; exact below_alloc (Below.refl _ _) _
   have hga : W4.heap[wr.heap.size]? = some (.cells #[.int .i64 t.k, .int .i64 t.n, .slice A3 t.l.length c3] 25 (0, 0)) := by rw [← hW4]; exact heap_alloc_new _ _
   have y0 : W4.cell? ⟨wr.heap.size, 0, none⟩ = some (.int .i64 t.k) := (blk_cell hga 0).trans rfl
   have y1 : W4.cell? ⟨wr.heap.size, 1, none⟩ = some (.int .i64 t.n) := (blk_cell hga 1).trans rfl
   have y2 : W4.cell? ⟨wr.heap.size, 2, none⟩ = some (.slice A3 t.l.length c3) := (blk_cell hga 2).trans rfl
   have HW4 := As hW4
   have HB4 := As (below_step HB.out hb4)
   have HO4 := As (Kd.R_below HO.out hb4)
   have HL4 := As (HKL.out.below hb4)
   have pd1 := pw_cell_below HB4.out p1
   clear hb4 hga hW4 hkid ht
   go_upto_region 7 with fail
   rw [HW4.out]
   obtain ⟨b1, hb1⟩ : ∃ b1, (t.k == 5) = b1 := ⟨_, rfl⟩
   obtain ⟨b2, hb2⟩ : ∃ b2, (t.n == (n : Int)) = b2 := ⟨_, rfl⟩
   obtain ⟨b3, hb3⟩ : ∃ b3, ((t.l.length : Int) == dt.n) = b3 := ⟨_, rfl⟩
   go_cut [10] from 49 to 68 (fun v10 wx => v10 = .bool (b1 && b2 && b3) ∧ Aside0 (Below W4.heap.size W4 wx))
   case first =>
    cases b1 <;> cases b2 <;> cases b3 <;>
     (go_quiet (fail)
      go_wp2
      go_meet
      case rel => exact ⟨rfl, ⟨pw_below_drewN (Below.refl _ _) _⟩⟩)
   case rest =>
    obtain ⟨rfl, HC⟩ := hcut
    obtain ⟨wo, hwo⟩ : ∃ wo, wo = wc := ⟨wc, rfl⟩
    subst hwo
    replace y2 := pw_cell_below HC.out y2
    have HBc := As (below_step HB4.out HC.out)
    have HOc := As (Kd.R_below HO4.out HC.out)
    have HLc := As (HL4.out.below HC.out)
    obtain ⟨bb, hbb⟩ : ∃ bb, (b1 && b2 && b3) = bb := ⟨_, rfl⟩
    have HRB := As (show recB n dt.n t = preB bb t.l t.l.length by unfold recB; rw [hb1, hb2, hb3, hbb])
    rw [hbb]
    clear hb1 hb2 hb3 hbb y0 y1 pd1 x0 x1 x2
    go_wp2
    go_loopw [10, 72] (fun v10 v72 w2 => ∃ j : Nat, v72 = .int .i64 j ∧ v10 = .bool (preB bb t.l j) ∧ j ≤ t.l.length ∧ Aside0 (Kd.bool.R 4 w2 w.heap.size (fun _ => True) u7 ((cl.take i).map (recB n dt.n))) ∧ Aside0 (Below w.heap.size w w2) ∧ Aside0 (Below wo.heap.size wo w2)) (fun _ v72 _ => t.l.length - (intOf v72).toNat)
    case atStart => exact ⟨0, rfl, by unfold preB; simp, Nat.zero_le _, HOc, HBc, ⟨Below.refl _ _⟩⟩
    case round =>
     clear HOc HBc
     obtain ⟨j, rfl, rfl, hj, HO2, HB2, HBo⟩ := hrel
     by_cases hjl : j < t.l.length
     · have hjb : decide ((j : Int) < (t.l.length : Int)) = true := decide_eq_true (by omega)
       obtain ⟨ub, uo, A5, c5, rfl, z1, z2, z3, hk5⟩ := (HLc.out.below HBo.out).at j hjl
       obtain ⟨a, ha⟩ : ∃ a, t.l.getD j z0 = a := ⟨_, rfl⟩
       have HPN := As (preB_next bb t.l j)
       rw [ha] at z1 z2 z3 hk5 HPN
       have hma := hk5.kids.2.2.2.max
       have HA3 := As (show argB a j = ((a.k == 4) && (a.n == (j : Int)) && ((a.l.length : Int) == 0)) from rfl)
       obtain ⟨p, hp⟩ : ∃ p, preB bb t.l j = p := ⟨_, rfl⟩
       rw [hp] at HPN
       rw [hp]
       obtain ⟨a1, ha1⟩ : ∃ a1, (a.k == 4) = a1 := ⟨_, rfl⟩
       obtain ⟨a2, ha2⟩ : ∃ a2, (a.n == (j : Int)) = a2 := ⟨_, rfl⟩
       obtain ⟨a3, ha3⟩ : ∃ a3, ((a.l.length : Int) == 0) = a3 := ⟨_, rfl⟩
       rw [ha1, ha2, ha3] at HA3
       clear hk5 ha hp
       have HBn := As (below_alloc HB2.out (.cells #[.int .i64 a.k, .int .i64 a.n, .slice A5 a.l.length c5] 25))
       have HBon := As (below_alloc HBo.out (.cells #[.int .i64 a.k, .int .i64 a.n, .slice A5 a.l.length c5] 25))
       have HOn := As (Kd.R_alloc HO2.out (.cells #[.int .i64 a.k, .int .i64 a.n, .slice A5 a.l.length c5] 25))
       cases p <;> cases a1 <;> cases a2 <;> cases a3 <;>
        (go_wp2
         go_roundw
         case rel => exact ⟨j + 1, by go_num, by rw [HPN.out, HA3.out]; rfl, by omega, HOn, HBn, HBon⟩
         case measure => simp [intOf]; omega)
     · have hjb : decide ((j : Int) < (t.l.length : Int)) = false := decide_eq_false (by omega)
       have he : j = t.l.length := by omega
       subst he
       have HTN := As (show (cl.take i).map (recB n dt.n) ++ [preB bb t.l t.l.length] = (cl.take (i + 1)).map (recB n dt.n) by rw [← take_next hlt, List.map_append, HTT.out, ← HRB.out]; rfl)
       have HLI := As (show (((cl.take i).map (recB n dt.n)).length + 1) * 1 ≤ 140737488355328 by rw [List.length_map, List.length_take]; omega)
       obtain ⟨pb, hpb⟩ : ∃ pb, preB bb t.l t.l.length = pb := ⟨_, rfl⟩
       rw [hpb] at HTN ⊢
       clear hpb
       go_wp2_with ((with_reducible refine gate_builtin (b := .append) (xs := #[.tmp 96, .tmp 98]) rfl ?_); at_builtin; refine Kd.R_append Kd.bool (w0 := w) w.heap.size rfl (.tmp 96) (.tmp 98) 101 4 (.bool false) 1 rfl Tryz.underlying101 info_bool rfl (by decide) (by omega) u7 ((cl.take i).map (recB n dt.n)) pb [.bool pb] (fun _ => True) (fun _ => False) rfl rfl ?aP (fun _ hk => hk.elim) ?aF ?aO ?aB ?aS ?aL ?_; (case aP => exact rfl); (case aB => exact HB2.out); (case aF => exact (fun _ _ => trivial)); (case aO => exact HO2.out); (case aS => exact HB2.out.size); (case aL => exact HLI.out); intro v8 w8 ho_ hb_ hg_ hat_; rw [HTN.out] at ho_; have HO8 := As ho_; have HB8 := As hb_; clear ho_ hb_ hg_ hat_)
       go_roundw
       case rel => exact ⟨i + 1, by go_num, by omega, HO8, HB8⟩
       case measure => simp [intOf]; omega
  ·have hlb : decide ((i : Int) < (cl.length : Int)) = false := decide_eq_false (by omega)
   have he : i = cl.length := by omega
   subst he
   rw [List.take_length] at HO
   go_wp2
   go_ret
   obtain ⟨A9, c9, rfl⟩ := Kd.R_slice HO.out
   have hr := Kd.R_reads' HO.out
   have HT := Kd.R_tight rfl HO.out
   exact ⟨_, rfl, ⟨A9, c9, rfl, hr.2.1, Kd.F_mono (Kd.R_F HT) (fun k hk => HOK.out k (Kd.R_base HO.out k hk.symm))⟩, HB.out⟩
end Go.Proofs.YtldkcpgnccknpaaGreat
