/-
  The parts CoC, CoD, CoE, CoF: the contracts of the program's functions and the plain laws below them; each part's own remark says which.
-/
import Derived.Test.YtldkcpgnccknpaaGreatVF
import Derived.Laws.EntriesVeiled
import Derived.Deep.Cut
import Derived.Deep.RegionLaw
import Derived.Test.YtldkcpgnccknpaaGreatVD
set_option linter.unusedVariables false
set_option linter.unusedSimpArgs false
/-
  The contracts of core.program's methods at an empty program.
-/
namespace Go.Proofs.YtldkcpgnccknpaaGreat
open Go.RowKit Go.Proofs.YtldkcpgnccknpaaGreatW.PrintWords Go.Proofs.YtldkcpgnccknpaaGreatW.PrintMore Go.Proofs.YtldkcpgnccknpaaGreatW.PrintLast
set_option linter.unusedVariables false
/-- make([]T, 0). -/
theorem mk0 {P : Program} (t e : TypeId) (ht : P.underlying t = some (.slice e)) (z : Value) (h : (P.info? e).map (fun i => i.zero) = some (some z)) (W : World) : (Instr.makeSlice t (.int .i64 0) (.int .i64 0)).run P W = .ok (.slice (some ⟨W.heap.size, 0, none⟩) 0 0) (W.alloc (.cells #[] e)) := by
 obtain ⟨i, hi, hz⟩ := Option.map_eq_some_iff.1 h
 rw [run_make W t e i z ht hi hz .i64 .i64 0 0 (by omega) (by omega) (by simp) (by omega)]
 simp [madeCells, Array.range_zero']
/-- The block g holds a program without codes, variables and expressions. -/
def PB (w : World) (g : Nat) (x v5 v6 v7 v8 : Value) : Prop := w.heap[g]? = some (.cells #[x, .slice none 0 0, .slice none 0 0, .slice none 0 0, v5, v6, v7, v8] 110 (0, 0))
section
variable {w w1 : World} {g : Nat} {x v5 v6 v7 v8 : Value}
theorem PB.below (h : PB w g x v5 v6 v7 v8) (hb : Below w.heap.size w w1) : PB w1 g x v5 v6 v7 v8 := blk_below h hb
end
set_option maxRecDepth 100000 in
set_option maxHeartbeats 4000000 in
theorem codes_fn (g : Nat) (x v5 v6 v7 v8 : Value) (w : World) (h : PB w g x v5 v6 v7 v8) : Calls Tryz.prog 62 #[.pointer (some ⟨g, 0, none⟩)] w (RetB true w) := by
 obtain ⟨W1, hW1⟩ : ∃ W1, w.alloc (.map #[] 0) = W1 := ⟨_, rfl⟩
 have hb1 : Below w.heap.size w W1 := by rw [← hW1]; exact below_alloc (Below.refl _ _) _
 have c1 : W1.cell? ⟨g, 1, none⟩ = some (.slice none 0 0) := (blk_cell (h.below hb1) 1).trans rfl
 have HW1 := As hW1
 have HB1 := As hb1
 have hmm := @run_makeMap Tryz.prog
 clear hW1 hb1 h
 go_enter Tryz.func62, Tryz.ntmps62
 go_upto_region 2 with fail
 rw [HW1.out]
 go_wp2
 go_loopw [14] (fun v wr => v = .int .i64 0 ∧ W1 = wr) (fun _ _ => 0)
 case atStart => exact ⟨rfl, rfl⟩
 case round =>
  obtain ⟨rfl, rfl⟩ := hrel
  go_wp2
  go_ret
  exact RetB.mk rfl HB1.out
set_option maxRecDepth 100000 in
set_option maxHeartbeats 4000000 in
theorem forest_fn (g : Nat) (x : Value) (a5 : Option Addr) (c5 : Nat) (v6 v7 v8 : Value) (w : World) (h : PB w g x (.slice a5 0 c5) v6 v7 v8) : Calls Tryz.prog 63 #[.pointer (some ⟨g, 0, none⟩)] w (RetB true w) := by
 have c1 : w.cell? ⟨g, 1, none⟩ = some (.slice none 0 0) := (blk_cell h 1).trans rfl
 have c3 : w.cell? ⟨g, 3, none⟩ = some (.slice none 0 0) := (blk_cell h 3).trans rfl
 have c4 : w.cell? ⟨g, 4, none⟩ = some (.slice a5 0 c5) := (blk_cell h 4).trans rfl
 have HB1 := As (Below.refl w.heap.size w)
 obtain ⟨W1, hW1⟩ : ∃ W1, W1 = w := ⟨_, rfl⟩
 have HW1 := As hW1
 rw [← hW1] at c1 c3 c4
 rw [show Calls Tryz.prog 63 #[.pointer (some ⟨g, 0, none⟩)] w (RetB true w) = Calls Tryz.prog 63 #[.pointer (some ⟨g, 0, none⟩)] W1 (RetB true w) by rw [hW1]]
 clear h hW1
 go_enter Tryz.func63, Tryz.ntmps63
 go_wp2
 go_loopw [15] (fun v wr => v = .int .i64 0 ∧ W1 = wr) (fun _ _ => 0)
 case atStart => exact ⟨rfl, rfl⟩
 case round =>
  obtain ⟨rfl, rfl⟩ := hrel
  go_wp2
  go_loopw [37] (fun v wr => v = .int .i64 0 ∧ W1 = wr) (fun _ _ => 0)
  case atStart => exact ⟨rfl, rfl⟩
  case round =>
   obtain ⟨rfl, rfl⟩ := hrel
   go_wp2
   go_loopw [66] (fun v wr => v = .int .i64 0 ∧ W1 = wr) (fun _ _ => 0)
   case atStart => exact ⟨rfl, rfl⟩
   case round =>
    obtain ⟨rfl, rfl⟩ := hrel
    go_wp2
    go_ret
    exact RetB.mk rfl (by rw [HW1.out]; exact HB1.out)
set_option maxRecDepth 100000 in
set_option maxHeartbeats 4000000 in
theorem bound_fn (g : Nat) (x v5 v6 v7 v8 : Value) (w : World) (h : PB w g x v5 v6 v7 v8) : Calls Tryz.prog 64 #[.pointer (some ⟨g, 0, none⟩)] w (RetB true w) := by
 have hmk := mk0 (P := Tryz.prog) 101 4 Tryz.underlying101 (.bool false) (by kernel_rfl)
 obtain ⟨W1, hW1⟩ : ∃ W1, ((((w.alloc (.cells #[] 4)).alloc (.cells #[.slice (some ⟨w.heap.size, 0, none⟩) 0 0] 101)).alloc (.cells #[.int .i64 0] 3)).alloc (.cells #[.func (.func 97) #[] #[.pointer (some ⟨w.heap.size + 1, 0, none⟩), .pointer (some ⟨w.heap.size + 1 + 1, 0, none⟩)]] 85)) = W1 := ⟨_, rfl⟩
 have hb1 : Below w.heap.size w W1 := by rw [← hW1]; exact below_alloc (below_alloc (below_alloc (below_alloc (Below.refl _ _) _) _) _) _
 have d0 : W1.cell? ⟨w.heap.size + 1 + 1, 0, none⟩ = some (.int .i64 0) := by
  have hs : ((w.alloc (.cells #[] 4)).alloc (.cells #[.slice (some ⟨w.heap.size, 0, none⟩) 0 0] 101)).heap.size = w.heap.size + 1 + 1 := by show ((w.heap.push _).push _).size = _; simp
  have hg := heap_alloc_new ((w.alloc (.cells #[] 4)).alloc (.cells #[.slice (some ⟨w.heap.size, 0, none⟩) 0 0] 101)) (.cells #[.int .i64 0] 3)
  rw [hs] at hg
  rw [← hW1]
  exact (blk_cell (blk_below hg (below_alloc (Below.refl _ _) _)) 0).trans rfl
 have HB1 := As hb1
 have HW1 := As hW1
 have c1 : w.cell? ⟨g, 1, none⟩ = some (.slice none 0 0) := (blk_cell h 1).trans rfl
 have c2 : w.cell? ⟨g, 2, none⟩ = some (.slice none 0 0) := (blk_cell h 2).trans rfl
 have c3 : w.cell? ⟨g, 3, none⟩ = some (.slice none 0 0) := (blk_cell h 3).trans rfl
 have d1 : W1.cell? ⟨g, 1, none⟩ = some (.slice none 0 0) := (blk_cell (h.below hb1) 1).trans rfl
 have d2 : W1.cell? ⟨g, 2, none⟩ = some (.slice none 0 0) := (blk_cell (h.below hb1) 2).trans rfl
 have d3 : W1.cell? ⟨g, 3, none⟩ = some (.slice none 0 0) := (blk_cell (h.below hb1) 3).trans rfl
 clear hb1 hW1 h
 go_enter Tryz.func64, Tryz.ntmps64
 go_upto_region 4 with fail
 rw [HW1.out]
 go_wp2
 go_loopw [24] (fun v wr => v = .int .i64 0 ∧ W1 = wr) (fun _ _ => 0)
 case atStart => exact ⟨rfl, rfl⟩
 case round =>
  obtain ⟨rfl, rfl⟩ := hrel
  go_wp2
  go_loopw [47] (fun v wr => v = .int .i64 0 ∧ W1 = wr) (fun _ _ => 0)
  case atStart => exact ⟨rfl, rfl⟩
  case round =>
   obtain ⟨rfl, rfl⟩ := hrel
   go_upto_region 16 with fail
   go_quiet (fail)
   go_wp2
   go_ret
   exact RetB.mk rfl (pw_below_drewN HB1.out _)
/-
  The contract of core.Valid at a program of data types alone.
-/
set_option maxRecDepth 100000 in
set_option maxHeartbeats 4000000 in
theorem scopes_fn (g : Nat) (x v5 v6 v7 v8 : Value) (w : World) (h : PB w g x v5 v6 v7 v8) : Calls Tryz.prog 65 #[.pointer (some ⟨g, 0, none⟩)] w (fun e w' => e = .returned (.tuple #[]) ∧ Below g w w') := by
 have hmk := mk0 (P := Tryz.prog) 108 69 Tryz.underlying108 (.slice none 0 0) (by kernel_rfl)
 have hbx : Below w.heap.size w (w.alloc (.cells #[] 69)) := below_alloc (Below.refl _ _) _
 have hga : (w.alloc (.cells #[] 69)).heap[g]? = _ := h.below hbx
 have f7 := blk_frozen hga 7
 have k7 : (w.alloc (.cells #[] 69)).cell? ⟨g, 7, none⟩ = some v8 := (blk_cell hga 7).trans rfl
 have c1 : w.cell? ⟨g, 1, none⟩ = some (.slice none 0 0) := (blk_cell h 1).trans rfl
 have c3 : w.cell? ⟨g, 3, none⟩ = some (.slice none 0 0) := (blk_cell h 3).trans rfl
 obtain ⟨W1, hW1⟩ : ∃ W1, (w.setCell ⟨g, 7, none⟩ (.slice (some ⟨w.heap.size, 0, none⟩) 0 0)).alloc (.cells #[] 69) = W1 := ⟨_, rfl⟩
 have hlt := blk_lt h
 have hg1 : W1.heap[g]? = some (.cells #[x, .slice none 0 0, .slice none 0 0, .slice none 0 0, v5, v6, v7, .slice (some ⟨w.heap.size, 0, none⟩) 0 0] 110 (0, 0)) := by rw [← hW1]; exact blk_below (blk_put h 7 _ rfl) (below_alloc (Below.refl _ _) _)
 have HB1 := As (show Below g w W1 from by
  have h1 : Below g w (w.setCell ⟨g, 7, none⟩ (.slice (some ⟨w.heap.size, 0, none⟩) 0 0)) := ⟨rfl, rfl, rfl, by simp [World.setCell], fun k hk => Below.heap_setCell _ _ _ _ (show k ≠ g by omega)⟩
  rw [← hW1]
  exact below_then h1 (by rw [show (w.setCell ⟨g, 7, none⟩ (.slice (some ⟨w.heap.size, 0, none⟩) 0 0)).heap.size = w.heap.size by simp [World.setCell]]; omega) (below_alloc (Below.refl _ _) _))
 have d1 : W1.cell? ⟨g, 1, none⟩ = some (.slice none 0 0) := (blk_cell hg1 1).trans rfl
 have d3 : W1.cell? ⟨g, 3, none⟩ = some (.slice none 0 0) := (blk_cell hg1 3).trans rfl
 have HW1 := As hW1
 clear hW1 hbx hga h hg1
 go_enter Tryz.func65, Tryz.ntmps65
 go_upto_region 1 with fail
 rw [HW1.out]
 go_wp2
 go_loopw [24] (fun v wr => v = .int .i64 0 ∧ W1 = wr) (fun _ _ => 0)
 case atStart => exact ⟨rfl, rfl⟩
 case round =>
  obtain ⟨rfl, rfl⟩ := hrel
  go_wp2
  go_loopw [48] (fun v wr => v = .int .i64 0 ∧ W1 = wr) (fun _ _ => 0)
  case atStart => exact ⟨rfl, rfl⟩
  case round =>
   obtain ⟨rfl, rfl⟩ := hrel
   go_wp2
   refine bodyPost_end (v := .tuple #[]) (by simp [results, Tryz.results65, go_sem]) rfl ⟨rfl, HB1.out⟩
set_option maxRecDepth 100000 in
theorem index_nil (f : Value) (w : World) : Calls Tryz.prog 115 #[.slice none 0 0, f] w (fun e w' => e = .returned (.int .i64 (-1)) ∧ Below w.heap.size w w') := by
 obtain ⟨W1, hW1⟩ : ∃ W1, W1 = w := ⟨_, rfl⟩
 rw [← hW1]
 have HB := As (Below.refl W1.heap.size W1)
 clear hW1
 go_enter Tryz.func115, Tryz.ntmps115
 go_wp2
 go_loopw [8] (fun v wr => v = .int .i64 0 ∧ W1 = wr) (fun _ _ => 0)
 case atStart => exact ⟨rfl, rfl⟩
 case round =>
  obtain ⟨rfl, rfl⟩ := hrel
  go_wp2
  go_ret
  exact ⟨rfl, HB.out⟩
set_option maxRecDepth 100000 in
theorem contains_nil (f : Value) (w : World) : Calls Tryz.prog 94 #[.slice none 0 0, f] w (RetB false w) := by
 go_enter Tryz.func94, Tryz.ntmps94
 go_wp2_with fail
 with_reducible refine (index_nil _ _).mono ?_
 rintro e w1 ⟨rfl, hb⟩
 have HB := As hb
 clear hb
 go_wp2
 go_ret
 exact RetB.mk rfl HB.out
set_option maxRecDepth 100000 in
theorem all_nil (f : Fn) (xs ys : Array Value) (w : World) : Calls Tryz.prog 60 #[.slice none 0 0, .func f xs ys] w (RetB true w) := by
 have HB1 := As (below_alloc (Below.refl w.heap.size w) (.cells #[.func f xs ys] 106))
 go_enter Tryz.func60, Tryz.ntmps60
 go_wp2_with fail
 with_reducible refine (contains_nil _ _).mono ?_
 rintro e w1 ⟨rfl, hb⟩
 have HB := As (below_step HB1.out hb)
 clear hb
 go_wp2
 go_ret
 exact RetB.mk rfl HB.out
theorem pb_new (w : World) (o : Obj) (x v5 v6 v7 v8 : Value) : PB (((((w.alloc o).alloc o).alloc o).alloc (.cells #[x, .slice none 0 0, .slice none 0 0, .slice none 0 0, v5, v6, v7, v8] 110)).drew) (w.heap.size + 1 + 1 + 1) x v5 v6 v7 v8 := by
 have hs : (((w.alloc o).alloc o).alloc o).heap.size = w.heap.size + 1 + 1 + 1 := by show (((w.heap.push _).push _).push _).size = _; simp
 unfold PB
 rw [← hs]
 exact heap_alloc_new _ _
set_option maxRecDepth 100000 in
set_option maxHeartbeats 4000000 in
theorem core_fn (ds : List Dt) (ok : Nat → Prop) (vd : Value) (w : World) (hd : LDt w ok vd ds) : Calls Tryz.prog 35 #[.agg #[vd, .slice none 0 0, .slice none 0 0, .slice none 0 0]] w (RetB (vdB ds) w) := by
 obtain ⟨D, dc, rfl, hdc, hF⟩ := hd
 have hd : LDt w ok (.slice D ds.length dc) ds := ⟨D, dc, rfl, hdc, hF⟩
 obtain ⟨gc, hgc⟩ : ∃ gc, gc = w.heap.size := ⟨_, rfl⟩
 obtain ⟨W1, hW1⟩ : ∃ W1, w.alloc (.cells #[.slice D ds.length dc, .slice none 0 0, .slice none 0 0, .slice none 0 0] 78) = W1 := ⟨_, rfl⟩
 have hb1 : Below w.heap.size w W1 := by rw [← hW1]; exact below_alloc (Below.refl _ _) _
 have hg1 : W1.heap[gc]? = some (.cells #[.slice D ds.length dc, .slice none 0 0, .slice none 0 0, .slice none 0 0] 78 (0, 0)) := by rw [hgc, ← hW1]; exact heap_alloc_new _ _
 have c0 : W1.cell? ⟨gc, 0, none⟩ = some (.slice D ds.length dc) := (blk_cell hg1 0).trans rfl
 have c1 : W1.cell? ⟨gc, 1, none⟩ = some (.slice none 0 0) := (blk_cell hg1 1).trans rfl
 have c2 : W1.cell? ⟨gc, 2, none⟩ = some (.slice none 0 0) := (blk_cell hg1 2).trans rfl
 have c3 : W1.cell? ⟨gc, 3, none⟩ = some (.slice none 0 0) := (blk_cell hg1 3).trans rfl
 have HD1 := As (hd.below hb1)
 have HB1 := As hb1
 have HG1 := As hg1
 have HW1 := As hW1
 have HGC := As hgc
 have hmk1 := mk0 (P := Tryz.prog) 69 3 Tryz.underlying69 (.int .i64 0) (by kernel_rfl)
 clear hW1 hb1 hg1 hgc hF hd hdc
 go_enter Tryz.func35, Tryz.ntmps35
 go_upto_region 1 with fail
 rw [HW1.out, ← HGC.out]
 go_wp2_with fail
 with_reducible refine (validData_fn ds ok _ _ HD1.out).mono ?_
 rintro e w2 ⟨rfl, hb⟩
 have HB2 := As (below_step HB1.out hb)
 have HG2 := As (blk_below HG1.out hb)
 replace c0 := pw_cell_below hb c0
 replace c1 := pw_cell_below hb c1
 replace c2 := pw_cell_below hb c2
 replace c3 := pw_cell_below hb c3
 clear hb
 obtain ⟨q, hq⟩ : ∃ q, vdB ds = q := ⟨_, rfl⟩
 rw [hq]
 have HQ := As hq
 clear hq
 cases q with
 | false =>
  go_wp2
  go_ret
  exact RetB.mk HQ.out HB2.out
 | true =>
  go_wp2_with fail
  with_reducible refine (all_nil _ _ _ _).mono ?_
  rintro e w3 ⟨rfl, hb⟩
  have HB3 := As (below_step HB2.out hb)
  have HG3 := As (blk_below HG2.out hb)
  replace c0 := pw_cell_below hb c0
  replace c1 := pw_cell_below hb c1
  replace c2 := pw_cell_below hb c2
  replace c3 := pw_cell_below hb c3
  clear hb
  have HB0 := As (Below.refl w3.heap.size w3)
  go_upto_region 5 with fail
  go_cut [3] from 34 to 48 (fun v wx => ∃ (g : Nat) (x : Value) (a5 a6 a7 : Option Addr), v = .pointer (some ⟨g, 0, none⟩) ∧ Aside0 (w3.heap.size ≤ g ∧ PB wx g x (.slice a5 0 0) (.slice a6 0 0) (.slice a7 0 0) (.slice none 0 0) ∧ Below w3.heap.size w3 wx))
  case first =>
   go_region_held3 (fun w' => w'.cell? ⟨gc, 0, none⟩ = some (.slice D ds.length dc) ∧ w'.cell? ⟨gc, 1, none⟩ = some (.slice none 0 0) ∧ w'.cell? ⟨gc, 2, none⟩ = some (.slice none 0 0) ∧ w'.cell? ⟨gc, 3, none⟩ = some (.slice none 0 0)) (first | exact ⟨c0, c1, c2, c3⟩ | exact ⟨pw_cell_below (by with_reducible (repeat (first | exact HB0.out | apply below_alloc | apply below_drew1))) c0, pw_cell_below (by with_reducible (repeat (first | exact HB0.out | apply below_alloc | apply below_drew1))) c1, pw_cell_below (by with_reducible (repeat (first | exact HB0.out | apply below_alloc | apply below_drew1))) c2, pw_cell_below (by with_reducible (repeat (first | exact HB0.out | apply below_alloc | apply below_drew1))) c3⟩) (fail)
   all_goals
    (go_wp2
     go_meet
     case rel => exact ⟨_, _, _, _, _, rfl, ⟨by omega, pb_new _ _ _ _ _ _ _, below_drew1 (below_alloc (below_alloc (below_alloc (below_alloc (Below.refl _ _) _) _) _) _)⟩⟩)
  case rest =>
   obtain ⟨g, x, a5, a6, a7, rfl, HR⟩ := hcut
   have HB4 := As (below_step HB3.out HR.out.2.2)
   have HP4 := As HR.out.2.1
   replace c0 := pw_cell_below HR.out.2.2 c0
   replace c1 := pw_cell_below HR.out.2.2 c1
   replace c2 := pw_cell_below HR.out.2.2 c2
   replace c3 := pw_cell_below HR.out.2.2 c3
   have HG4 := As (blk_below HG3.out HR.out.2.2)
   have HLE := As (show w.heap.size ≤ g ∧ gc < g from ⟨Nat.le_trans HB3.out.size HR.out.1, Nat.lt_of_lt_of_le (blk_lt HG3.out) HR.out.1⟩)
   clear HR HB0 HG3 HB3
   go_wp2_with fail
   with_reducible refine (codes_fn g x _ _ _ _ _ HP4.out).mono ?_
   rintro e w5 ⟨rfl, hb⟩
   have HB5 := As (below_step HB4.out hb)
   have HP5 := As (HP4.out.below hb)
   have HG5 := As (blk_below HG4.out hb)
   clear hb c0 c1 c2 c3
   go_wp2_with fail
   with_reducible refine (forest_fn g x _ _ _ _ _ _ HP5.out).mono ?_
   rintro e w6 ⟨rfl, hb⟩
   have HB6 := As (below_step HB5.out hb)
   have HP6 := As (HP5.out.below hb)
   have HG6 := As (blk_below HG5.out hb)
   clear hb
   go_wp2_with fail
   with_reducible refine (bound_fn g x _ _ _ _ _ HP6.out).mono ?_
   rintro e w7 ⟨rfl, hb⟩
   have HB7 := As (below_step HB6.out hb)
   have HP7 := As (HP6.out.below hb)
   have HG7 := As (blk_below HG6.out hb)
   clear hb
   go_wp2_with fail
   with_reducible refine (scopes_fn g x _ _ _ _ _ HP7.out).mono ?_
   rintro e w8 ⟨rfl, hb⟩
   have HB8 := As (HB7.out.trans (c := w8) ⟨hb.os, hb.tape, hb.output, hb.size, fun k hk => hb.block k (by have := HLE.out.1; omega)⟩)
   have hg8 := (hb.block gc HLE.out.2).trans HG7.out
   have c1 : w8.cell? ⟨gc, 1, none⟩ = some (.slice none 0 0) := (blk_cell hg8 1).trans rfl
   have c3 : w8.cell? ⟨gc, 3, none⟩ = some (.slice none 0 0) := (blk_cell hg8 3).trans rfl
   clear hb hg8
   go_wp2
   go_loopw [67] (fun v wr => v = .int .i64 0 ∧ w8 = wr) (fun _ _ => 0)
   case atStart => exact ⟨rfl, rfl⟩
   case round =>
    obtain ⟨rfl, rfl⟩ := hrel
    go_wp2
    go_loopw [78] (fun v wr => v = .int .i64 0 ∧ w8 = wr) (fun _ _ => 0)
    case atStart => exact ⟨rfl, rfl⟩
    case round =>
      obtain ⟨rfl, rfl⟩ := hrel
      go_wp2
      go_ret
      exact RetB.mk HQ.out HB8.out
/-
  The contracts of index.trivial, Trivial and fit.ground.
-/
/-- An index as its two cells. -/
def kIx : Kd (Int × (Option Addr × Nat × Nat)) := Kd.pair (Kd.int .i64) (Kd.scalar (fun x : Option Addr × Nat × Nat => .slice x.1 x.2.1 x.2.2) (fun _ => rfl))
abbrev zeroI : Value := .agg #[.int .i64 0, .slice none 0 0]
theorem info_ix : (Tryz.prog.info? 98).map (fun i => (i.zero, i.size, i.bytes)) = some (some zeroI, 2, 32) := by kernel_rfl
def NIx (w : World) (base : Nat) (v : Value) (xs : List (Int × (Option Addr × Nat × Nat))) : Prop := Kd.N kIx 98 w base (fun k => base ≤ k) v xs
theorem kIx_mkF (W : World) (ok : Nat → Prop) (i : Int) (A : Option Addr) (n c : Nat) : Kd.FK kIx W ok (i, (A, n, c)) [.int .i64 i, .slice A n c] := fun W' hW => ⟨[.int .i64 i], [.slice A n c], rfl, rfl, rfl⟩
section
variable {P : Program} {ops : Array Oper} {o : Oper} {a : Act} {Q : Exit → Act → World → Prop} {Kc : Act → World → Prop}
theorem ix_append_step {W : World} {base : Nat} (hw : Region.wanted o (yielded ops a.tmps) = true) (s x : Operand) (t e : TypeId)
  (ho : o.op = .call { callee := .builtin .append, args := #[s, x], argTypes := #[t, t] })
  (ht : P.underlying t = some (.slice e)) (he : e = 98) (hinfo : (P.info? e).map (fun i => (i.zero, i.size, i.bytes)) = some (some zeroI, 2, 32))
  (v : Value) (xs : List (Int × (Option Addr × Nat × Nat))) {i : Int} {A : Option Addr} {m c : Nat} (hs : a.eval s = v) (hx : a.eval x = .slice (some ⟨W.heap.size, 0, none⟩) 1 1)
  (HO : NIx W base v xs) (hbase : base ≤ W.heap.size) (hl : xs.length ≤ 1000000000)
  (h : ∀ v1 w1, NIx w1 base v1 (xs ++ [(i, (A, m, c))]) → W.grownBy w1 v.ownBlock → Kc (a.put o.dst v1) w1) :
  if Region.wanted o (yielded ops a.tmps) = true then Oper.wp P o a (W.alloc (.cells #[.int .i64 i, .slice A m c] e)) Kc Q else Kc (a.put o.dst undef) (W.alloc (.cells #[.int .i64 i, .slice A m c] e)) := by
 subst he
 refine Kd.N_append_step kIx (w0 := W) base hw s x t _ zeroI 32 ho ht hinfo rfl (by show 0 < 2; decide) (by decide) v xs (i, (A, m, c)) [.int .i64 i, .slice A m c] (fun k => base ≤ k) (fun k => base ≤ k ∧ some k ≠ v.ownBlock) hs hx (kIx_mkF _ _ i A m c) (fun k hk => hk) (fun _ hk => Nat.le_trans hbase hk) HO ⟨rfl, rfl, rfl, Nat.le_refl _, fun _ _ => rfl⟩ hbase (by omega) ?_
 intro v1 w1 h4 hb hg hat
 exact h v1 w1 h4 hg
end
def RetIx (w0 : World) (e : Ending) (w' : World) : Prop := ∃ A n c, e = .returned (.agg #[.int .i64 0, .slice A n c]) ∧ Below w0.heap.size w0 w'
set_option maxRecDepth 100000 in
set_option maxHeartbeats 4000000 in
theorem trivial_fn (N : Nat) : ∀ (x : Tr) (ok : Nat → Prop) (v : Value) (w : World), x.sz ≤ N → x.sz ≤ 1000000 → ITr 25 w ok v x → Calls Tryz.prog 91 #[v] w (RetIx w) := by
 induction N with
 | zero => intro x ok v w h; have := x.sz_eq; omega
 | succ N ih =>
  intro x ok v w hN hM hx
  obtain ⟨A, c, rfl⟩ := hx.shape
  have hmx := (hx.kids.2.2.2).max
  have HL := As hx.kids.2.2.2
  have hll : x.l.length ≤ 1000000 := by have := length_le_szl x.l; have := x.sz_eq; omega
  have HLL := As hll
  have IH := As ih
  obtain ⟨W1, hW1⟩ : ∃ W1, w.alloc (.cells #[.int .i64 x.k, .int .i64 x.n, .slice A x.l.length c] 25) = W1 := ⟨_, rfl⟩
  obtain ⟨W2, hW2⟩ : ∃ W2, W1.alloc (.cells #[.int .i64 0, .slice none 0 0] 98) = W2 := ⟨_, rfl⟩
  obtain ⟨W3, hW3⟩ : ∃ W3, W2.alloc (.cells #[.int .i64 0, .slice none 0 0] 98) = W3 := ⟨_, rfl⟩
  obtain ⟨gx, hgx⟩ : ∃ gx, gx = w.heap.size := ⟨_, rfl⟩
  obtain ⟨gr, hgr⟩ : ∃ gr, gr = w.heap.size + 1 := ⟨_, rfl⟩
  obtain ⟨gi, hgi⟩ : ∃ gi, gi = w.heap.size + 1 + 1 := ⟨_, rfl⟩
  have hs1 : W1.heap.size = gr := by rw [hgr, ← hW1]; show (w.heap.push _).size = _; simp
  have hs2 : W2.heap.size = gi := by rw [hgi, ← hW2]; show (W1.heap.push _).size = _; simp; omega
  have hs3 : W3.heap.size = gi + 1 := by rw [← hW3]; show (W2.heap.push _).size = _; simp; omega
  have hb1 : Below w.heap.size w W1 := by rw [← hW1]; exact below_alloc (Below.refl _ _) _
  have hb12 : Below W1.heap.size W1 W2 := by rw [← hW2]; exact below_alloc (Below.refl _ _) _
  have hb23 : Below W2.heap.size W2 W3 := by rw [← hW3]; exact below_alloc (Below.refl _ _) _
  have hg1 : W1.heap[gx]? = some (.cells #[.int .i64 x.k, .int .i64 x.n, .slice A x.l.length c] 25 (0, 0)) := by rw [hgx, ← hW1]; exact heap_alloc_new _ _
  have hg2 : W2.heap[gr]? = some (.cells #[.int .i64 0, .slice none 0 0] 98 (0, 0)) := by rw [← hs1, ← hW2]; exact heap_alloc_new _ _
  have hg3 : W3.heap[gi]? = some (.cells #[.int .i64 0, .slice none 0 0] 98 (0, 0)) := by rw [← hs2, ← hW3]; exact heap_alloc_new _ _
  have hG1 := blk_below hg1 (below_step hb12 hb23)
  have hG2 := blk_below hg2 hb23
  have a0 : W3.cell? ⟨gx, 0, none⟩ = some (.int .i64 x.k) := (blk_cell hG1 0).trans rfl
  have a2 : W3.cell? ⟨gx, 2, none⟩ = some (.slice A x.l.length c) := (blk_cell hG1 2).trans rfl
  have HW3 := As (show ((w.alloc (.cells #[.int .i64 x.k, .int .i64 x.n, .slice A x.l.length c] 25)).alloc (.cells #[.int .i64 0, .slice none 0 0] 98)).alloc (.cells #[.int .i64 0, .slice none 0 0] 98) = W3 by rw [hW1, hW2]; exact hW3)
  have HB3 := As (below_step (below_step hb1 hb12) hb23)
  have HG2 := As hG2
  have HG3 := As hg3
  have HGX := As hgx
  have HGR := As hgr
  have HGI := As hgi
  have HLE := As (show w.heap.size < gr ∧ gr < gi by omega)
  have HS3 := As hs3
  have HO := As (Kd.N_nil kIx 98 W3 (gi + 1) (fun k => gi + 1 ≤ k))
  clear hW1 hW2 hW3 hs1 hs2 hs3 hb1 hb12 hb23 hg1 hg2 hg3 hG1 hG2 hgx hgr hgi hx ih
  go_enter Tryz.func91, Tryz.ntmps91
  go_upto_region 2 with fail
  rw [HW3.out, ← HGI.out, ← HGR.out, ← HGX.out]
  by_cases h6 : x.k = 6
  ·have h6b : (x.k == 6) = true := beq_iff_eq.2 h6
   clear h6
   go_wp2
   go_loopw [12] (fun v12 wr => ∃ (i : Nat) (u : Value) (ys : List (Int × (Option Addr × Nat × Nat))), v12 = .int .i64 i ∧ i ≤ x.l.length ∧ Aside0 (ys.length = i) ∧ Aside0 (NIx wr (gi + 1) u ys) ∧ Aside0 (wr.heap[gr]? = some (.cells #[.int .i64 0, .slice none 0 0] 98 (0, 0))) ∧ Aside0 (wr.heap[gi]? = some (.cells #[.int .i64 0, u] 98 (0, 0))) ∧ Aside0 (Below w.heap.size w wr)) (fun v12 _ => x.l.length - (intOf v12).toNat)
   case atStart => exact ⟨0, _, [], rfl, Nat.zero_le _, ⟨rfl⟩, HO, HG2, HG3, HB3⟩
   case round =>
    clear HO HG2 HG3 HB3 HS3 a0 a2
    obtain ⟨i, u, ys, rfl, hi, HYS, HO, HG2, HG3, HB⟩ := hrel
    by_cases hlt : i < x.l.length
    ·have hlb : decide ((i : Int) < (x.l.length : Int)) = true := decide_eq_true (by omega)
     obtain ⟨b, o, A1, c1, rfl, p0, p1, p2, hkid⟩ := (HL.out.below HB.out).at i hlt
     have hkn := kid_sz hlt
     obtain ⟨y, hy⟩ : ∃ y, x.l.getD i z0 = y := ⟨_, rfl⟩
     rw [hy] at p0 p1 p2 hkid hkn
     obtain ⟨W4, hW4⟩ : ∃ W4, wr.alloc (.cells #[.int .i64 y.k, .int .i64 y.n, .slice A1 y.l.length c1] 25) = W4 := ⟨_, rfl⟩
     have hb4 : Below wr.heap.size wr W4 := by rw [← hW4]; exact below_alloc (Below.refl _ _) _
     have hbd := below_step hb4 (below_drew1 (Below.refl W4.heap.size W4))
     have hga : W4.heap[wr.heap.size]? = some (.cells #[.int .i64 y.k, .int .i64 y.n, .slice A1 y.l.length c1] 25 (0, 0)) := by rw [← hW4]; exact heap_alloc_new _ _
     have HW4 := As hW4
     have HB4 := As (below_step HB.out hbd)
     have HK4 := As (hkid.below hbd)
     have HO4 := As (Kd.N_below HO.out hbd)
     have HG2d := As (blk_below HG2.out hbd)
     have HG3d := As (blk_below HG3.out hbd)
     have HYN := As (show y.sz ≤ N by omega)
     have HYM := As (show y.sz ≤ 1000000 by omega)
     have HLI := As (show ys.length ≤ 1000000000 by have := HYS.out; have := HLL.out; omega)
     have e0 : W4.drew.cell? ⟨wr.heap.size, 0, none⟩ = some (.int .i64 y.k) := (blk_cell (blk_drew hga) 0).trans rfl
     have e1 : W4.drew.cell? ⟨wr.heap.size, 1, none⟩ = some (.int .i64 y.n) := (blk_cell (blk_drew hga) 1).trans rfl
     have e2 : W4.drew.cell? ⟨wr.heap.size, 2, none⟩ = some (.slice A1 y.l.length c1) := (blk_cell (blk_drew hga) 2).trans rfl
     have u1 : W4.drew.cell? ⟨gi, 1, none⟩ = some u := (blk_cell HG3d.out 1).trans rfl
     have hne : gi ≠ wr.heap.size := by have := blk_lt HG3.out; omega
     have hne' := Ne.symm hne
     have NI := As (show some gi ≠ u.ownBlock from fun he => by have h := Kd.N_base HO.out gi he.symm; omega)
     have NR := As (show some gr ≠ u.ownBlock from fun he => by have h := Kd.N_base HO.out gr he.symm; have := HLE.out; omega)
     have hal := blk_lt (blk_drew hga)
     clear hb4 hbd hga hW4 hkid hkn hy HG2 HG3 HO
     go_upto_region 6 with fail
     rw [HW4.out]
     go_region_law (first
      | ((refine ix_append_step (base := gi + 1) (by rfl) (.tmp 17) (.tmp 20) 96 98 (by rfl) Tryz.underlying96 rfl info_ix u ys (by simp [Act.eval]) (by simp [Act.eval]) HO5.out HS5.out HLI.out ?_); intro v7 w7 hr_ hg_; (obtain ⟨ys2, hy2⟩ : ∃ z, z = ys ++ [((0 : Int), (A5, n5, c5))] := ⟨_, rfl⟩); rw [← hy2] at hr_; have HY8 := As (show ys2.length = i + 1 by rw [hy2, List.length_append, HYS.out]; rfl); clear hy2; (obtain ⟨A7, c7, rfl⟩ := Kd.N_slice hr_); have HO7 := As hr_; have HB7 := As (HB5.out.grown hg_ HB5.out.size (fun k hk => by have := Kd.N_base HO5.out k hk; have := HLE.out; omega)); have HG27 := As ((hg_.block _ (blk_lt HG25.out) NR.out).trans HG25.out); have HG37 := As ((hg_.block _ (blk_lt HG35.out) NI.out).trans HG35.out); (have j1 : w7.cell? ⟨gi, 1, none⟩ = some u := (blk_cell HG37.out 1).trans rfl); (have jf := blk_frozen HG37.out 1); clear hr_ hg_)
      | (go_simp; go_at_call 91; ((with_reducible refine (IH.out y ok _ _ HYN.out HYM.out HK4.out).mono ?_); rintro e w5 ⟨A5, n5, c5, rfl, hb⟩; have HB5 := As (below_step HB4.out hb); have HO5 := As (Kd.N_below HO4.out hb); have HG25 := As (blk_below HG2d.out hb); have HG35 := As (blk_below HG3d.out hb); have HS5 := As (show gi + 1 ≤ w5.heap.size from blk_lt HG35.out); (have k1 := pw_cell_below hb u1); (have hgl5 := blk_lt HG35.out); clear hb)))
     all_goals
      (have HG38 := As (blk_put (cs' := #[.int .i64 0, .slice A7 ys2.length c7]) HG37.out 1 (.slice A7 ys2.length c7) rfl)
       have HG28 := As (blk_far HG27.out (p := ⟨gi, 1, none⟩) (by have := HLE.out; show gr ≠ gi; omega) (.slice A7 ys2.length c7))
       have HO8 := As (show NIx (w7.setCell ⟨gi, 1, none⟩ (.slice A7 ys2.length c7)) (gi + 1) (.slice A7 ys2.length c7) ys2 from Kd.N_far HO7.out (p := ⟨gi, 1, none⟩) (fun k hk => by show k ≠ gi; omega) _)
       have HB8 := As (below_set (g := gi) (j := 1) (v := .slice A7 ys2.length c7) HB7.out (by have := HLE.out; omega))
       go_wp2
       go_roundw
       case rel => exact ⟨i + 1, _, _, by go_num, by omega, HY8, HO8, HG28, HG38, HB8⟩
       case measure => simp [intOf]; omega)
    ·have hlb : decide ((i : Int) < (x.l.length : Int)) = false := decide_eq_false (by omega)
     obtain ⟨A9, c9, rfl⟩ := Kd.N_slice HO.out
     have r0 : wr.cell? ⟨gr, 0, none⟩ = some (.int .i64 0) := (blk_cell HG2.out 0).trans rfl
     have r1 : wr.cell? ⟨gr, 1, none⟩ = some (.slice none 0 0) := (blk_cell HG2.out 1).trans rfl
     have i0 : wr.cell? ⟨gi, 0, none⟩ = some (.int .i64 0) := (blk_cell HG3.out 0).trans rfl
     have i1 : wr.cell? ⟨gi, 1, none⟩ = some (.slice A9 ys.length c9) := (blk_cell HG3.out 1).trans rfl
     have f0 := blk_frozen HG2.out 0
     have f1 := blk_frozen HG2.out 1
     have hgl := blk_lt HG2.out
     go_wp2
     refine bodyPost_ret (v := .agg #[.int .i64 0, .slice A9 ys.length c9]) (by simp [results, Tryz.results91, go_sem, hgl, r0, r1]) rfl ⟨_, _, _, rfl, ?_⟩
     have hle : w.heap.size ≤ gr := by have := HLE.out; omega
     exact below_set (below_set HB.out hle) hle
  ·have h6b : (x.k == 6) = false := beq_eq_false_iff_ne.2 h6
   clear h6
   have r0 : W3.cell? ⟨gr, 0, none⟩ = some (.int .i64 0) := (blk_cell HG2.out 0).trans rfl
   have r1 : W3.cell? ⟨gr, 1, none⟩ = some (.slice none 0 0) := (blk_cell HG2.out 1).trans rfl
   have i0 : W3.cell? ⟨gi, 0, none⟩ = some (.int .i64 0) := (blk_cell HG3.out 0).trans rfl
   have i1 : W3.cell? ⟨gi, 1, none⟩ = some (.slice none 0 0) := (blk_cell HG3.out 1).trans rfl
   have f0 := blk_frozen HG2.out 0
   have f1 := blk_frozen HG2.out 1
   have hgl := blk_lt HG2.out
   go_wp2
   refine bodyPost_ret (v := .agg #[.int .i64 0, .slice none 0 0]) (by simp [results, Tryz.results91, go_sem, hgl, r0, r1]) rfl ⟨_, _, _, rfl, ?_⟩
   have hle : w.heap.size ≤ gr := by have := HLE.out; omega
   exact below_set (below_set HB3.out hle) hle
/-
  The contracts of known, index.Trivial, fit.ground and value.HasType.
-/
/-- The data types and the type are valid. -/
noncomputable def knB (ds : List Dt) (t : Tr) : Bool := vdB ds && t.ok ds 0
set_option maxRecDepth 100000 in
set_option maxHeartbeats 4000000 in
theorem known_ix (ds : List Dt) (t : Tr) (ok : Nat → Prop) (vd vt : Value) (w : World) (hd : LDt w ok vd ds) (ht : ITr 25 w ok vt t) : Calls Tryz.prog 90 #[vd, vt] w (RetB (knB ds t) w) := by
 obtain ⟨At, ct, rfl⟩ := ht.shape
 obtain ⟨D, dc, rfl, hdc, hF⟩ := hd
 have hd : LDt w ok (.slice D ds.length dc) ds := ⟨D, dc, rfl, hdc, hF⟩
 obtain ⟨W1, hW1⟩ : ∃ W1, w.alloc (.cells #[.int .i64 t.k, .int .i64 t.n, .slice At t.l.length ct] 25) = W1 := ⟨_, rfl⟩
 have hb1 : Below w.heap.size w W1 := by rw [← hW1]; exact below_alloc (Below.refl _ _) _
 have hg1 : W1.heap[w.heap.size]? = some (.cells #[.int .i64 t.k, .int .i64 t.n, .slice At t.l.length ct] 25 (0, 0)) := by rw [← hW1]; exact heap_alloc_new _ _
 have a0 : W1.cell? ⟨w.heap.size, 0, none⟩ = some (.int .i64 t.k) := (blk_cell hg1 0).trans rfl
 have a1 : W1.cell? ⟨w.heap.size, 1, none⟩ = some (.int .i64 t.n) := (blk_cell hg1 1).trans rfl
 have a2 : W1.cell? ⟨w.heap.size, 2, none⟩ = some (.slice At t.l.length ct) := (blk_cell hg1 2).trans rfl
 have HD1 := As (hd.below hb1)
 have HT1 := As (ht.below hb1)
 have HW1 := As hW1
 have HB1 := As hb1
 clear hW1 hb1 hg1 hd ht hF
 go_enter Tryz.func90, Tryz.ntmps90
 go_upto_region 1 with fail
 rw [HW1.out]
 go_wp2_with fail
 with_reducible refine (core_fn ds ok _ _ HD1.out).mono ?_
 rintro e w2 ⟨rfl, hb⟩
 have HB2 := As (below_step HB1.out hb)
 have HD2 := As (HD1.out.below hb)
 have HT2 := As (HT1.out.below hb)
 replace a0 := pw_cell_below hb a0
 replace a1 := pw_cell_below hb a1
 replace a2 := pw_cell_below hb a2
 clear hb
 obtain ⟨q, hq⟩ : ∃ q, vdB ds = q := ⟨_, rfl⟩
 have HQ := As (show knB ds t = (q && t.ok ds 0) by unfold knB; rw [hq])
 rw [hq]
 clear hq
 cases q with
 | false =>
  go_wp2
  go_ret
  exact RetB.mk HQ.out HB2.out
 | true =>
  go_wp2_with fail
  with_reducible refine (Valid_ty ds 0 t ok _ _ _ HD2.out HT2.out).mono ?_
  rintro e w3 ⟨rfl, hb⟩
  have HB3 := As (below_step HB2.out hb)
  clear hb
  go_wp2
  go_ret
  exact RetB.mk HQ.out HB3.out
set_option maxRecDepth 100000 in
set_option maxHeartbeats 4000000 in
theorem known_val (ds : List Dt) (t : Tr) (ok : Nat → Prop) (vd vt : Value) (w : World) (hd : LDt w ok vd ds) (ht : ITr 25 w ok vt t) : Calls Tryz.prog 17 #[vd, vt] w (RetB (knB ds t) w) := by
 obtain ⟨At, ct, rfl⟩ := ht.shape
 obtain ⟨D, dc, rfl, hdc, hF⟩ := hd
 have hd : LDt w ok (.slice D ds.length dc) ds := ⟨D, dc, rfl, hdc, hF⟩
 obtain ⟨W1, hW1⟩ : ∃ W1, w.alloc (.cells #[.int .i64 t.k, .int .i64 t.n, .slice At t.l.length ct] 25) = W1 := ⟨_, rfl⟩
 have hb1 : Below w.heap.size w W1 := by rw [← hW1]; exact below_alloc (Below.refl _ _) _
 have hg1 : W1.heap[w.heap.size]? = some (.cells #[.int .i64 t.k, .int .i64 t.n, .slice At t.l.length ct] 25 (0, 0)) := by rw [← hW1]; exact heap_alloc_new _ _
 have a0 : W1.cell? ⟨w.heap.size, 0, none⟩ = some (.int .i64 t.k) := (blk_cell hg1 0).trans rfl
 have a1 : W1.cell? ⟨w.heap.size, 1, none⟩ = some (.int .i64 t.n) := (blk_cell hg1 1).trans rfl
 have a2 : W1.cell? ⟨w.heap.size, 2, none⟩ = some (.slice At t.l.length ct) := (blk_cell hg1 2).trans rfl
 have HD1 := As (hd.below hb1)
 have HT1 := As (ht.below hb1)
 have HW1 := As hW1
 have HB1 := As hb1
 clear hW1 hb1 hg1 hd ht hF
 go_enter Tryz.func17, Tryz.ntmps17
 go_upto_region 1 with fail
 rw [HW1.out]
 go_wp2_with fail
 with_reducible refine (core_fn ds ok _ _ HD1.out).mono ?_
 rintro e w2 ⟨rfl, hb⟩
 have HB2 := As (below_step HB1.out hb)
 have HD2 := As (HD1.out.below hb)
 have HT2 := As (HT1.out.below hb)
 replace a0 := pw_cell_below hb a0
 replace a1 := pw_cell_below hb a1
 replace a2 := pw_cell_below hb a2
 clear hb
 obtain ⟨q, hq⟩ : ∃ q, vdB ds = q := ⟨_, rfl⟩
 have HQ := As (show knB ds t = (q && t.ok ds 0) by unfold knB; rw [hq])
 rw [hq]
 clear hq
 cases q with
 | false =>
  go_wp2
  go_ret
  exact RetB.mk HQ.out HB2.out
 | true =>
  go_wp2_with fail
  with_reducible refine (Valid_ty ds 0 t ok _ _ _ HD2.out HT2.out).mono ?_
  rintro e w3 ⟨rfl, hb⟩
  have HB3 := As (below_step HB2.out hb)
  clear hb
  go_wp2
  go_ret
  exact RetB.mk HQ.out HB3.out
set_option maxRecDepth 100000 in
set_option maxHeartbeats 4000000 in
theorem Trivial_fn (ds : List Dt) (t : Tr) (ok : Nat → Prop) (vd vt : Value) (w : World) (hd : LDt w ok vd ds) (ht : ITr 25 w ok vt t) : Calls Tryz.prog 56 #[vd, vt] w (fun e w' => ∃ A n c, e = .returned (.tuple #[.agg #[.int .i64 0, .slice A n c], .bool (knB ds t)]) ∧ Below w.heap.size w w') := by
 obtain ⟨At, ct, rfl⟩ := ht.shape
 obtain ⟨W1, hW1⟩ : ∃ W1, w.alloc (.cells #[.int .i64 t.k, .int .i64 t.n, .slice At t.l.length ct] 25) = W1 := ⟨_, rfl⟩
 obtain ⟨W2, hW2⟩ : ∃ W2, W1.alloc (.cells #[.int .i64 0, .slice none 0 0] 98) = W2 := ⟨_, rfl⟩
 obtain ⟨gx, hgx⟩ : ∃ gx, gx = w.heap.size := ⟨_, rfl⟩
 obtain ⟨gr, hgr⟩ : ∃ gr, gr = w.heap.size + 1 := ⟨_, rfl⟩
 have hs1 : W1.heap.size = gr := by rw [hgr, ← hW1]; show (w.heap.push _).size = _; simp
 have hb1 : Below w.heap.size w W1 := by rw [← hW1]; exact below_alloc (Below.refl _ _) _
 have hb12 : Below W1.heap.size W1 W2 := by rw [← hW2]; exact below_alloc (Below.refl _ _) _
 have hg1 : W1.heap[gx]? = some (.cells #[.int .i64 t.k, .int .i64 t.n, .slice At t.l.length ct] 25 (0, 0)) := by rw [hgx, ← hW1]; exact heap_alloc_new _ _
 have hg2 : W2.heap[gr]? = some (.cells #[.int .i64 0, .slice none 0 0] 98 (0, 0)) := by rw [← hs1, ← hW2]; exact heap_alloc_new _ _
 have hG1 := blk_below hg1 hb12
 have a0 : W2.cell? ⟨gx, 0, none⟩ = some (.int .i64 t.k) := (blk_cell hG1 0).trans rfl
 have a1 : W2.cell? ⟨gx, 1, none⟩ = some (.int .i64 t.n) := (blk_cell hG1 1).trans rfl
 have a2 : W2.cell? ⟨gx, 2, none⟩ = some (.slice At t.l.length ct) := (blk_cell hG1 2).trans rfl
 have hb2 := below_step hb1 hb12
 have HD2 := As (hd.below hb2)
 have HT2 := As (ht.below hb2)
 have HW2 := As (show (w.alloc (.cells #[.int .i64 t.k, .int .i64 t.n, .slice At t.l.length ct] 25)).alloc (.cells #[.int .i64 0, .slice none 0 0] 98) = W2 by rw [hW1]; exact hW2)
 have HB2 := As hb2
 have HG2 := As hg2
 have HGX := As hgx
 have HGR := As hgr
 have HLE := As (show w.heap.size ≤ gr by omega)
 clear hW1 hW2 hs1 hb1 hb12 hg1 hg2 hG1 hgx hgr hb2 hd ht
 go_enter Tryz.func56, Tryz.ntmps56
 go_upto_region 1 with fail
 rw [HW2.out, ← HGR.out, ← HGX.out]
 go_wp2_with fail
 with_reducible refine (known_ix ds t ok _ _ _ HD2.out HT2.out).mono ?_
 rintro e w3 ⟨rfl, hb⟩
 have HB3 := As (below_step HB2.out hb)
 have HT3 := As (HT2.out.below hb)
 have HG3 := As (blk_below HG2.out hb)
 replace a0 := pw_cell_below hb a0
 replace a1 := pw_cell_below hb a1
 replace a2 := pw_cell_below hb a2
 clear hb
 obtain ⟨q, hq⟩ : ∃ q, knB ds t = q := ⟨_, rfl⟩
 rw [hq]
 have HQ := As hq
 clear hq
 cases q with
 | false =>
  have r0 : w3.cell? ⟨gr, 0, none⟩ = some (.int .i64 0) := (blk_cell HG3.out 0).trans rfl
  have r1 : w3.cell? ⟨gr, 1, none⟩ = some (.slice none 0 0) := (blk_cell HG3.out 1).trans rfl
  have f0 := blk_frozen HG3.out 0
  have f1 := blk_frozen HG3.out 1
  have hgl := blk_lt HG3.out
  go_wp2
  refine bodyPost_ret (v := .tuple #[.agg #[.int .i64 0, .slice none 0 0], .bool false]) (by simp [results, Tryz.results56, go_sem, hgl, r0, r1]) rfl ⟨_, _, _, by rw [HQ.out], ?_⟩
  exact below_set (below_set HB3.out HLE.out) HLE.out
 | true =>
  have HSZ := As (show t.sz ≤ 1000000 by have h1 := HQ.out; unfold knB at h1; rw [Bool.and_eq_true] at h1; have := (Tr.ok_iff.1 h1.2).1; omega)
  go_wp2_with fail
  with_reducible refine (trivial_fn t.sz t ok _ _ (Nat.le_refl _) HSZ.out HT3.out).mono ?_
  rintro e w4 ⟨A4, n4, c4, rfl, hb⟩
  have HB4 := As (below_step HB3.out hb)
  have hg4 := blk_below HG3.out hb
  have r0 : w4.cell? ⟨gr, 0, none⟩ = some (.int .i64 0) := (blk_cell hg4 0).trans rfl
  have r1 : w4.cell? ⟨gr, 1, none⟩ = some (.slice none 0 0) := (blk_cell hg4 1).trans rfl
  have f0 := blk_frozen hg4 0
  have f1 := blk_frozen hg4 1
  have hgl := blk_lt hg4
  clear hb hg4
  go_wp2
  refine bodyPost_ret (v := .tuple #[.agg #[.int .i64 0, .slice A4 n4 c4], .bool true]) (by simp [results, Tryz.results56, go_sem, hgl, r0, r1]) rfl ⟨_, _, _, by rw [HQ.out], ?_⟩
  exact below_set (below_set HB4.out HLE.out) HLE.out
set_option maxRecDepth 100000 in
set_option maxHeartbeats 4000000 in
theorem ground_fn (ds : List Dt) (t : Tr) (ok : Nat → Prop) (vd vt : Value) (w : World) (hd : LDt w ok vd ds) (ht : ITr 25 w ok vt t) : Calls Tryz.prog 31 #[vd, vt] w (RetB (knB ds t) w) := by
 obtain ⟨At, ct, rfl⟩ := ht.shape
 obtain ⟨W1, hW1⟩ : ∃ W1, w.alloc (.cells #[.int .i64 t.k, .int .i64 t.n, .slice At t.l.length ct] 25) = W1 := ⟨_, rfl⟩
 have hb1 : Below w.heap.size w W1 := by rw [← hW1]; exact below_alloc (Below.refl _ _) _
 have hg1 : W1.heap[w.heap.size]? = some (.cells #[.int .i64 t.k, .int .i64 t.n, .slice At t.l.length ct] 25 (0, 0)) := by rw [← hW1]; exact heap_alloc_new _ _
 have a0 : W1.cell? ⟨w.heap.size, 0, none⟩ = some (.int .i64 t.k) := (blk_cell hg1 0).trans rfl
 have a1 : W1.cell? ⟨w.heap.size, 1, none⟩ = some (.int .i64 t.n) := (blk_cell hg1 1).trans rfl
 have a2 : W1.cell? ⟨w.heap.size, 2, none⟩ = some (.slice At t.l.length ct) := (blk_cell hg1 2).trans rfl
 have HD1 := As (hd.below hb1)
 have HT1 := As (ht.below hb1)
 have HW1 := As hW1
 have HB1 := As hb1
 clear hW1 hb1 hg1 hd ht
 go_enter Tryz.func31, Tryz.ntmps31
 go_upto_region 1 with fail
 rw [HW1.out]
 go_wp2_with fail
 with_reducible refine (Trivial_fn ds t ok _ _ _ HD1.out HT1.out).mono ?_
 rintro e w3 ⟨A3, n3, c3, rfl, hb⟩
 have HB3 := As (below_alloc (below_step HB1.out hb) (.cells #[.int .i64 0, .slice A3 n3 c3] 98))
 clear hb
 go_wp2
 go_ret
 exact RetB.mk rfl HB3.out
/-- A value has a type: the whole test. -/
noncomputable def htB (ds : List Dt) (x t : Tr) : Bool := knB ds t && decide (x.sz ≤ 5000) && x.has ds t
set_option maxRecDepth 100000 in
set_option maxHeartbeats 4000000 in
theorem HasType_fn (ds : List Dt) (x t : Tr) (ok : Nat → Prop) (vd vx vt : Value) (w : World) (hok : ∀ k, w.heap.size ≤ k → ok k) (hd : LDt w ok vd ds) (hx : ITr 28 w ok vx x) (ht : ITr 25 w ok vt t) : Calls Tryz.prog 7 #[vd, vx, vt] w (RetB (htB ds x t) w) := by
 obtain ⟨Ax, cx, rfl⟩ := hx.shape
 obtain ⟨At, ct, rfl⟩ := ht.shape
 obtain ⟨D, dc, rfl, hdc, hF⟩ := hd
 have hd : LDt w ok (.slice D ds.length dc) ds := ⟨D, dc, rfl, hdc, hF⟩
 obtain ⟨W1, hW1⟩ : ∃ W1, w.alloc (.cells #[.int .i64 x.k, .int .i64 x.n, .slice Ax x.l.length cx] 28) = W1 := ⟨_, rfl⟩
 obtain ⟨W2, hW2⟩ : ∃ W2, W1.alloc (.cells #[.int .i64 t.k, .int .i64 t.n, .slice At t.l.length ct] 25) = W2 := ⟨_, rfl⟩
 obtain ⟨gx, hgx⟩ : ∃ gx, gx = w.heap.size := ⟨_, rfl⟩
 obtain ⟨gt, hgt⟩ : ∃ gt, gt = w.heap.size + 1 := ⟨_, rfl⟩
 have hs1 : W1.heap.size = gt := by rw [hgt, ← hW1]; show (w.heap.push _).size = _; simp
 have hb1 : Below w.heap.size w W1 := by rw [← hW1]; exact below_alloc (Below.refl _ _) _
 have hb12 : Below W1.heap.size W1 W2 := by rw [← hW2]; exact below_alloc (Below.refl _ _) _
 have hg1 : W1.heap[gx]? = some (.cells #[.int .i64 x.k, .int .i64 x.n, .slice Ax x.l.length cx] 28 (0, 0)) := by rw [hgx, ← hW1]; exact heap_alloc_new _ _
 have hg2 : W2.heap[gt]? = some (.cells #[.int .i64 t.k, .int .i64 t.n, .slice At t.l.length ct] 25 (0, 0)) := by rw [← hs1, ← hW2]; exact heap_alloc_new _ _
 have hG1 := blk_below hg1 hb12
 have a0 : W2.cell? ⟨gx, 0, none⟩ = some (.int .i64 x.k) := (blk_cell hG1 0).trans rfl
 have a1 : W2.cell? ⟨gx, 1, none⟩ = some (.int .i64 x.n) := (blk_cell hG1 1).trans rfl
 have a2 : W2.cell? ⟨gx, 2, none⟩ = some (.slice Ax x.l.length cx) := (blk_cell hG1 2).trans rfl
 have b0 : W2.cell? ⟨gt, 0, none⟩ = some (.int .i64 t.k) := (blk_cell hg2 0).trans rfl
 have b1 : W2.cell? ⟨gt, 1, none⟩ = some (.int .i64 t.n) := (blk_cell hg2 1).trans rfl
 have b2 : W2.cell? ⟨gt, 2, none⟩ = some (.slice At t.l.length ct) := (blk_cell hg2 2).trans rfl
 have hb2 := below_step hb1 hb12
 have HD2 := As (hd.below hb2)
 have HX2 := As (hx.below hb2)
 have HT2 := As (ht.below hb2)
 have HW2 := As (show (w.alloc (.cells #[.int .i64 x.k, .int .i64 x.n, .slice Ax x.l.length cx] 28)).alloc (.cells #[.int .i64 t.k, .int .i64 t.n, .slice At t.l.length ct] 25) = W2 by rw [hW1]; exact hW2)
 have HB2 := As hb2
 have HGX := As hgx
 have HGT := As hgt
 have HOK := As hok
 clear hW1 hW2 hs1 hb1 hb12 hg1 hg2 hG1 hgx hgt hb2 hd ht hx hF hok
 go_enter Tryz.func7, Tryz.ntmps7
 go_upto_region 1 with fail
 rw [HW2.out, ← HGT.out, ← HGX.out]
 go_wp2_with fail
 with_reducible refine (known_val ds t ok _ _ _ HD2.out HT2.out).mono ?_
 rintro e w3 ⟨rfl, hb⟩
 have HB3 := As (below_step HB2.out hb)
 have HD3 := As (HD2.out.below hb)
 have HX3 := As (HX2.out.below hb)
 have HT3 := As (HT2.out.below hb)
 replace a0 := pw_cell_below hb a0
 replace a1 := pw_cell_below hb a1
 replace a2 := pw_cell_below hb a2
 replace b0 := pw_cell_below hb b0
 replace b1 := pw_cell_below hb b1
 replace b2 := pw_cell_below hb b2
 clear hb
 obtain ⟨q, hq⟩ : ∃ q, knB ds t = q := ⟨_, rfl⟩
 have HE := As (show htB ds x t = (q && decide (x.sz ≤ 5000) && x.has ds t) by unfold htB; rw [hq])
 rw [hq]
 have HQ := As hq
 clear hq
 cases q with
 | false =>
  have HF := As (show htB ds x t = false by rw [HE.out]; simp)
  go_wp2
  go_ret
  exact RetB.mk HF.out HB3.out
 | true =>
  have HN := nodes_val x.sz x ok _ 5001 w3 (Nat.le_refl _) HX3.out (by decide) (by decide)
  rw [show ((5001 : Nat) : Int) = 5001 from rfl] at HN
  have HN' := As HN
  clear HN
  go_wp2_with fail
  with_reducible refine HN'.out.mono ?_
  rintro e w4 ⟨rfl, hb⟩
  obtain ⟨m, hm⟩ : ∃ m : Nat, min x.sz 5001 = m := ⟨_, rfl⟩
  have HB4 := As (below_step HB3.out hb)
  have HD4 := As (HD3.out.below hb)
  have HX4 := As (HX3.out.below hb)
  have HT4 := As (HT3.out.below hb)
  replace a0 := pw_cell_below hb a0
  replace a1 := pw_cell_below hb a1
  replace a2 := pw_cell_below hb a2
  replace b0 := pw_cell_below hb b0
  replace b1 := pw_cell_below hb b1
  replace b2 := pw_cell_below hb b2
  rw [hm]
  by_cases hs : x.sz ≤ 5000
  ·have hmb : decide ((m : Int) ≤ 5000) = true := decide_eq_true (by omega)
   have hmn : decide (m ≤ 5000) = true := decide_eq_true (by omega)
   have HF := As (show htB ds x t = x.has ds t by rw [HE.out, decide_eq_true hs]; rfl)
   have HV := As (show VD ds ∧ t.ok ds 0 = true from by
    have h1 := HQ.out
    unfold knB at h1
    rw [Bool.and_eq_true] at h1
    exact ⟨((vdB_iff ds).1 h1.1).vd, h1.2⟩)
   have HOK4 := As (show ∀ k, w4.heap.size ≤ k → ok k from fun k hk => HOK.out k (Nat.le_trans HB4.out.size hk))
   clear hb hm hs HN'
   go_wp2_with fail
   with_reducible refine (has_val ds HV.out.1 x.sz x t ok _ _ _ _ (Nat.le_refl _) HOK4.out HD4.out HX4.out HT4.out HV.out.2).mono ?_
   rintro e w5 ⟨rfl, hb⟩
   have HB5 := As (below_step HB4.out hb)
   clear hb
   go_wp2
   go_ret
   exact RetB.mk HF.out HB5.out
  ·have hmb : decide ((m : Int) ≤ 5000) = false := decide_eq_false (by omega)
   have hmn : decide (m ≤ 5000) = false := decide_eq_false (by omega)
   have HF := As (show htB ds x t = false by rw [HE.out, decide_eq_false hs]; simp)
   clear hb hm hs HN'
   go_wp2
   go_ret
   exact RetB.mk HF.out HB4.out
end Go.Proofs.YtldkcpgnccknpaaGreat
