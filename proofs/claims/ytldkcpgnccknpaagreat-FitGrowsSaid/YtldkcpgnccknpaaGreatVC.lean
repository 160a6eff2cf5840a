/-
  The parts ValL, ValM, ValN, ValO, ValP, ValQ: the contracts of the program's functions and the plain laws below them; each part's own remark says which.
-/
import Derived.Test.YtldkcpgnccknpaaGreatVB
import Derived.Deep.RegionWith
set_option linter.unusedVariables false
set_option linter.unusedSimpArgs false
/-
  The contract of fit.shape.
-/
namespace Go.Proofs.YtldkcpgnccknpaaGreat
open Go.RowKit Go.Proofs.YtldkcpgnccknpaaGreatW.PrintWords Go.Proofs.YtldkcpgnccknpaaGreatW.PrintMore Go.Proofs.YtldkcpgnccknpaaGreatW.PrintLast
set_option linter.unusedVariables false
theorem info_int : (Tryz.prog.info? 3).map (fun i => (i.zero, i.size, i.bytes)) = some (some (.int .i64 0), 1, 8) := by kernel_rfl
/-- The places that are not, and that are, true. -/
def pay (bs : List Bool) (i : Nat) : List Int := ((List.range i).filter (fun j => !(bs.getD j false))).map (fun (j : Nat) => (j : Int))
def rcs (bs : List Bool) (i : Nat) : List Int := ((List.range i).filter (fun j => bs.getD j false)).map (fun (j : Nat) => (j : Int))
theorem pay_next (bs : List Bool) (i : Nat) : pay bs (i + 1) = pay bs i ++ (if bs.getD i false = true then [] else [(i : Int)]) := by
 unfold pay
 rw [List.range_succ, List.filter_append, List.map_append, List.filter_cons, List.filter_nil]
 cases h : bs.getD i false
 ·rfl
 ·rfl
theorem rcs_next (bs : List Bool) (i : Nat) : rcs bs (i + 1) = rcs bs i ++ (if bs.getD i false = true then [(i : Int)] else []) := by
 unfold rcs
 rw [List.range_succ, List.filter_append, List.map_append, List.filter_cons, List.filter_nil]
 cases h : bs.getD i false
 ·rfl
 ·rfl
theorem pay_length (bs : List Bool) (i : Nat) : (pay bs i).length ≤ i := by
 unfold pay
 rw [List.length_map]
 have := List.length_filter_le (fun j => !(bs.getD j false)) (List.range i)
 simpa using this
theorem rcs_length (bs : List Bool) (i : Nat) : (rcs bs i).length ≤ i := by
 unfold rcs
 rw [List.length_map]
 have := List.length_filter_le (fun j => bs.getD j false) (List.range i)
 simpa using this
/-- A slice of integers that reads as l. -/
def LIn (w : World) (ok : Nat → Prop) (v : Value) (l : List Int) : Prop := ∃ A c, v = .slice A l.length c ∧ l.length ≤ c ∧ Kd.F (Kd.int .i64) w ok A l.length l
theorem own_lin {w : World} {base : Nat} {ok : Nat → Prop} {v : Value} {l : List Int} (h : (Kd.int .i64).R 3 w base (fun _ => True) v l) (hok : ∀ k, base ≤ k → ok k) : LIn w ok v l := by
 obtain ⟨A, c, rfl⟩ := Kd.R_slice h
 exact ⟨A, c, rfl, (Kd.R_reads' h).2.1, Kd.F_mono (Kd.R_F (Kd.R_tight rfl h)) (fun k hk => hok k (Kd.R_base h k hk.symm))⟩
def recsOf (ds : List Dt) (n q : Nat) : List Bool := ((ds.getD n d0).l.getD q c0).l.map (recB n (ds.getD n d0).n)
/-- Two rows of the call's own that share no block. -/
def Dj (v v' : Value) : Prop := ∀ k, v.ownBlock = some k → v'.ownBlock = some k → False
theorem below_grown {w W w1 : World} {row : Option Nat} (h : Below w.heap.size w W) (hg : W.grownBy w1 row) (hr : ∀ k, row = some k → w.heap.size ≤ k) : Below w.heap.size w w1 := h.grown hg h.size hr
def RetShape (ok : Nat → Prop) (fs : List Tr) (bs : List Bool) (w0 : World) (e : Ending) (w' : World) : Prop := ∃ v1 v2 v3, e = .returned (.tuple #[v1, v2, v3]) ∧ LTr 25 w' ok v1 fs ∧ LIn w' ok v2 (pay bs bs.length) ∧ LIn w' ok v3 (rcs bs bs.length) ∧ Below w0.heap.size w0 w'
theorem LBs.at {w : World} {ok : Nat → Prop} {A : Option Addr} {m c : Nat} {bs : List Bool} (h : LBs w ok (.slice A m c) bs) (i : Nat) (hi : i < bs.length) : ∃ b o, A = some ⟨b, o, none⟩ ∧ w.cell? ⟨b, o + i, none⟩ = some (.bool (bs.getD i false)) := by
 obtain ⟨A', c', e, hc, hF⟩ := h
 simp at e
 obtain ⟨rfl, rfl, rfl⟩ := e
 obtain ⟨b, o, cs, e, hlen, hK, hcell⟩ := F_addr hF false (by show 0 < 1; decide) i hi
 have hK' : cs = [.bool (bs.getD i false)] := Kd.FK_now hK
 subst hK'
 refine ⟨b, o, e, ?_⟩
 have := hcell 0 _ rfl
 have hs : Kd.bool.sz = 1 := rfl
 rw [hs, Nat.mul_one, Nat.add_zero] at this
 exact this
set_option maxRecDepth 100000 in
set_option maxHeartbeats 4000000 in
theorem shape_law (ds : List Dt) (k : Int) (n q : Nat) (l : List Tr) (ok : Nat → Prop) (vd : Value) (A : Option Addr) (e : Nat) (w : World) (hok : ∀ k, w.heap.size ≤ k → ok k) (hd : LDt w ok vd ds) (hx : LTr 25 w ok (.slice A l.length e) l) (hs : SmallD ds) (h2 : szl l ≤ 1000000) (hn : n < ds.length) (hq : q < (ds.getD n d0).l.length) :
  Calls Tryz.prog 32 #[vd, .agg #[.int .i64 k, .int .i64 (n : Int), .slice A l.length e], .int .i64 (q : Int)] w (RetShape ok ((fieldsP ds ⟨k, (n : Int), l⟩ (q : Int)).getD []) (recsOf ds n q) w) := by
 have HD := As hd
 have HLX := As hx
 have HOK := As hok
 obtain ⟨W1, hW1⟩ : ∃ W1, w.alloc (.cells #[.int .i64 k, .int .i64 (n : Int), .slice A l.length e] 25) = W1 := ⟨_, rfl⟩
 have hb1 : Below w.heap.size w W1 := by rw [← hW1]; exact below_alloc (Below.refl _ _) _
 have hg1 : W1.heap[w.heap.size]? = some (.cells #[.int .i64 k, .int .i64 (n : Int), .slice A l.length e] 25 (0, 0)) := by rw [← hW1]; exact heap_alloc_new _ _
 have b0 : W1.cell? ⟨w.heap.size, 0, none⟩ = some (.int .i64 k) := (blk_cell hg1 0).trans rfl
 have b1 : W1.cell? ⟨w.heap.size, 1, none⟩ = some (.int .i64 (n : Int)) := (blk_cell hg1 1).trans rfl
 have b2 : W1.cell? ⟨w.heap.size, 2, none⟩ = some (.slice A l.length e) := (blk_cell hg1 2).trans rfl
 have HW1 := As hW1
 have HB1 := As hb1
 have HG1 := As hg1
 have HOK1 := As (show ∀ k, W1.heap.size ≤ k → ok k from fun k hk => hok k (Nat.le_trans hb1.size hk))
 have HD1 := As (hd.below hb1)
 have HL1 := As (hx.below hb1)
 have HSM := As hs
 have HSX := As h2
 have HCL := As ((hs n q).1)
 have HN := As hn
 have HQ := As hq
 clear hW1 hb1 hg1 hok hs h2 hx hd hn hq
 go_enter Tryz.func32, Tryz.ntmps32
 go_upto_region 1 with fail
 rw [HW1.out]
 go_wp2_with fail
 with_reducible refine (fields_ty' ds k (n : Int) l (q : Int) ok _ _ _ _ HOK1.out HD1.out HL1.out HSM.out HSX.out).mono ?_
 rintro e2 w2 ⟨hb, hcase⟩
 obtain ⟨fs, hfs⟩ : ∃ fs, (fieldsP ds ⟨k, (n : Int), l⟩ (q : Int)).getD [] = fs := ⟨_, rfl⟩
 obtain ⟨vf, bf, he, hvf⟩ : ∃ vf bf, e2 = .returned (.tuple #[vf, .bool bf]) ∧ LTr 25 w2 ok vf fs := by
  rcases hcase with ⟨h1, rfl⟩ | ⟨l', v', h1, rfl, h3⟩
  ·rw [h1] at hfs
   exact ⟨_, _, rfl, by rw [← hfs]; exact LTr.nil _ _ _⟩
  ·rw [h1] at hfs
   exact ⟨_, _, rfl, by rw [← hfs]; exact h3⟩
 subst he
 have HVF := As hvf
 have HB2 := As (below_step HB1.out hb)
 have HD2 := As (HD1.out.below hb)
 have HG2 := As (blk_below HG1.out hb)
 have HOK2 := As (show ∀ k, w2.heap.size ≤ k → ok k from fun k hk => HOK.out k (Nat.le_trans HB2.out.size hk))
 have c1 : w2.cell? ⟨w.heap.size, 1, none⟩ = some (.int .i64 (n : Int)) := (blk_cell HG2.out 1).trans rfl
 have HFS := As hfs
 clear hb hcase hvf hfs b0 b1 b2
 go_wp2_with fail
 with_reducible refine (recursive_law ds n q ok _ _ HOK2.out HD2.out HN.out HQ.out HCL.out).mono ?_
 rintro e3 w3 ⟨v3, rfl, hv, hb⟩
 have hbl : (recsOf ds n q).length ≤ 1000000 := by unfold recsOf; rw [List.length_map]; exact HCL.out
 obtain ⟨bs, hbs⟩ : ∃ bs, recsOf ds n q = bs := ⟨_, rfl⟩
 rw [show (((ds.getD n d0).l.getD q c0).l.map (recB n (ds.getD n d0).n)) = bs from hbs] at hv
 rw [hbs] at hbl
 have HBS := As hbs
 have HVB := As hv
 obtain ⟨Ab, cb, rfl, _, _⟩ := hv
 have HB3 := As (below_step HB2.out hb)
 have HVF3 := As (HVF.out.below hb)
 have HB3' := As (Below.refl w3.heap.size w3)
 have HP := As (Kd.R_nil (Kd.int .i64) 3 w3 w3.heap.size (fun _ => True))
 clear hb hbs c1
 have HOKw3 := As (show ∀ k, w3.heap.size ≤ k → ok k from fun k hk => HOK.out k (Nat.le_trans HB3.out.size hk))
 have HDJ := As (show Dj (.slice none 0 0) (.slice none 0 0) from fun k h => by simp [Value.ownBlock] at h)
 go_wp2
 go_loopw [7, 8, 24] (fun v7 v8 v24 wr => ∃ i : Nat, v24 = .int .i64 i ∧ i ≤ bs.length ∧ Aside0 ((Kd.int .i64).R 3 wr w3.heap.size (fun _ => True) v7 (pay bs i)) ∧ Aside0 ((Kd.int .i64).R 3 wr w3.heap.size (fun _ => True) v8 (rcs bs i)) ∧ Aside0 (Dj v7 v8) ∧ Aside0 (LTr 25 wr (fun k => ok k ∧ k < w3.heap.size) vf fs) ∧ Aside0 (Below w3.heap.size w3 wr)) (fun _ _ v24 _ => bs.length - (intOf v24).toNat)
 case atStart => exact ⟨0, rfl, Nat.zero_le _, HP, HP, HDJ, ⟨HVF3.out.bound⟩, HB3'⟩
 case round =>
  clear HP HDJ HB3' HVF3
  obtain ⟨i, rfl, hi, HO7, HO8, HDJ, HVF, HB⟩ := hrel
  have HBW := As (below_weaken HB3.out HB3.out.size HB.out)
  by_cases hlt : i < bs.length
  ·have hlb : decide ((i : Int) < (bs.length : Int)) = true := decide_eq_true (by omega)
   obtain ⟨rb, ro, rfl, p0⟩ := HVB.out.at i hlt
   replace p0 := pw_cell_below HB.out p0
   have HPN := As (pay_next bs i)
   have HRN := As (rcs_next bs i)
   have HL7 := As (show ((pay bs i).length + 1) * 8 ≤ 140737488355328 by have := pay_length bs i; omega)
   have HL8 := As (show ((rcs bs i).length + 1) * 8 ≤ 140737488355328 by have := rcs_length bs i; omega)
   obtain ⟨bt, hbt⟩ : ∃ bt, bs.getD i false = bt := ⟨_, rfl⟩
   rw [hbt] at p0 HPN HRN
   clear hbt
   cases bt with
   | true =>
    have HP2 := As (show pay bs (i + 1) = pay bs i by rw [HPN.out, if_pos rfl, List.append_nil])
    have HR2 := As (show rcs bs i ++ [(i : Int)] = rcs bs (i + 1) by rw [HRN.out, if_pos rfl])
    go_wp2_with ((with_reducible refine gate_builtin (b := .append) (xs := #[.tmp 30, .tmp 32]) rfl ?_); at_builtin; refine Kd.R_append (Kd.int .i64) (w0 := w3) w3.heap.size rfl (.tmp 30) (.tmp 32) 69 3 (.int .i64 0) 8 rfl Tryz.underlying69 info_int rfl (by decide) (by omega) u8 (rcs bs i) (i : Int) [.int .i64 (i : Int)] (fun _ => True) (fun _ => False) rfl rfl ?aP (fun _ hk => hk.elim) ?aF ?aO ?aB ?aS ?aL ?_; (case aP => exact rfl); (case aB => exact HB.out); (case aF => exact (fun _ _ => trivial)); (case aO => exact HO8.out); (case aS => exact HB.out.size); (case aL => exact HL8.out); intro v9 w9 ho_ hb_ hg_ hat_; rw [HR2.out] at ho_; have HO9 := As ho_; have HB9 := As hb_; have HG9 := As hg_; have HA9 := As hat_; clear ho_ hb_ hg_ hat_)
    have HK7 := As (show (Kd.int .i64).R 3 w9 w3.heap.size (fun _ => True) u7 (pay bs (i + 1)) by rw [HP2.out]; exact Kd.R_mono (Kd.R_step (Kd.R_tight rfl HO7.out) (fun k hk hl => HG9.out.block k hl (fun he => HDJ.out k hk.symm he.symm))) (fun _ _ => trivial))
    have HD9 := As (show Dj u7 v9 from fun k h1 h2 => by rcases HA9.out with h | ⟨b, h, hb⟩ <;> rw [h] at h2; exact HDJ.out k h1 h2; injection h2 with h2; have := Kd.R_lt HO7.out k h1; omega)
    have HB10 := As (below_grown HB.out HG9.out (show ∀ k, u8.ownBlock = some k → w3.heap.size ≤ k from fun k hk => Kd.R_base HO8.out k hk))
    have HV9 := As (HVF.out.step (w1 := w9) (fun k hk hl => HB10.out.block k hk.2 |>.trans (HB.out.block k hk.2).symm))
    go_roundw
    case rel => exact ⟨i + 1, by go_num, by omega, HK7, HO9, HD9, HV9, HB10⟩
    case measure => simp [intOf]; omega
   | false =>
    have HP2 := As (show rcs bs (i + 1) = rcs bs i by rw [HRN.out, if_neg (by decide), List.append_nil])
    have HR2 := As (show pay bs i ++ [(i : Int)] = pay bs (i + 1) by rw [HPN.out, if_neg (by decide)])
    go_wp2_with ((with_reducible refine gate_builtin (b := .append) (xs := #[.tmp 34, .tmp 36]) rfl ?_); at_builtin; refine Kd.R_append (Kd.int .i64) (w0 := w3) w3.heap.size rfl (.tmp 34) (.tmp 36) 69 3 (.int .i64 0) 8 rfl Tryz.underlying69 info_int rfl (by decide) (by omega) u7 (pay bs i) (i : Int) [.int .i64 (i : Int)] (fun _ => True) (fun _ => False) rfl rfl ?aP (fun _ hk => hk.elim) ?aF ?aO ?aB ?aS ?aL ?_; (case aP => exact rfl); (case aB => exact HB.out); (case aF => exact (fun _ _ => trivial)); (case aO => exact HO7.out); (case aS => exact HB.out.size); (case aL => exact HL7.out); intro v9 w9 ho_ hb_ hg_ hat_; rw [HR2.out] at ho_; have HO9 := As ho_; have HB9 := As hb_; have HG9 := As hg_; have HA9 := As hat_; clear ho_ hb_ hg_ hat_)
    have HK7 := As (show (Kd.int .i64).R 3 w9 w3.heap.size (fun _ => True) u8 (rcs bs (i + 1)) by rw [HP2.out]; exact Kd.R_mono (Kd.R_step (Kd.R_tight rfl HO8.out) (fun k hk hl => HG9.out.block k hl (fun he => HDJ.out k he.symm hk.symm))) (fun _ _ => trivial))
    have HD9 := As (show Dj v9 u8 from fun k h1 h2 => by rcases HA9.out with h | ⟨b, h, hb⟩ <;> rw [h] at h1; exact HDJ.out k h1 h2; injection h1 with h1; have := Kd.R_lt HO8.out k h2; omega)
    have HB10 := As (below_grown HB.out HG9.out (show ∀ k, u7.ownBlock = some k → w3.heap.size ≤ k from fun k hk => Kd.R_base HO7.out k hk))
    have HV9 := As (HVF.out.step (w1 := w9) (fun k hk hl => HB10.out.block k hk.2 |>.trans (HB.out.block k hk.2).symm))
    go_roundw
    case rel => exact ⟨i + 1, by go_num, by omega, HO9, HK7, HD9, HV9, HB10⟩
    case measure => simp [intOf]; omega
  ·have hlb : decide ((i : Int) < (bs.length : Int)) = false := decide_eq_false (by omega)
   have he : i = bs.length := by omega
   subst he
   go_wp2
   refine bodyPost_ret (v := .tuple #[vf, u7, u8]) (by simp [results, Tryz.results32, go_sem]) rfl ?_
   rw [HFS.out, HBS.out]
   exact ⟨_, _, _, rfl, HVF.out.mono (fun k hk => hk.1), own_lin HO7.out HOKw3.out, own_lin HO8.out HOKw3.out, HBW.out⟩
/-
  Rows of trees that the call makes: an element read, an element stored; make.
-/
section
variable {T : TypeId} {w w1 W : World} {base : Nat} {ok ok' : Nat → Prop} {v : Value} {xs : List Tr}
theorem NTr.form (h : NTr T w base ok v xs) (hp : 0 < xs.length) : ∃ g cap, v = .slice (some ⟨g, 0, none⟩) xs.length cap ∧ base ≤ g ∧ g < w.heap.size := by
 obtain ⟨g, cap, e, h1, h2, _⟩ := Kd.N_form h hp
 exact ⟨g, cap, e, h1, h2⟩
/-- The cells of place i. -/
theorem NTr.at {g n c : Nat} (h : NTr T w base ok (.slice (some ⟨g, 0, none⟩) n c) xs) (i : Nat) (hi : i < xs.length) :
  ∃ u0 u1 u2, w.cell? ⟨g, i * 3, none⟩ = some u0 ∧ w.cell? ⟨g, i * 3 + 1, none⟩ = some u1 ∧ w.cell? ⟨g, i * 3 + 2, none⟩ = some u2 ∧ w.frozen? ⟨g, i * 3, none⟩ = false ∧ w.frozen? ⟨g, i * 3 + 1, none⟩ = false ∧ w.frozen? ⟨g, i * 3 + 2, none⟩ = false := by
 have hn := (Kd.N_reads' h).1
 obtain ⟨cs, hcl, hK, hcc, hfr⟩ := Kd.N_elem h z0 (i : Int) (by omega) (by omega)
 rw [Int.toNat_natCast] at hK hcc hfr
 obtain ⟨A1, c1, rfl, _, _⟩ := kTr_openF hK
 exact ⟨_, _, _, hcc 0 _ rfl, hcc 1 _ rfl, hcc 2 _ rfl, hfr 0, hfr 1, hfr 2⟩
def put3t (w : World) (g o : Nat) (c0 c1 c2 : Value) : World := ((w.setCell ⟨g, o, none⟩ c0).setCell ⟨g, o + 1, none⟩ c1).setCell ⟨g, o + 2, none⟩ c2
/-- Place i is y then. -/
theorem NTr.put {g n cp : Nat} (h : NTr T w base ok (.slice (some ⟨g, 0, none⟩) n cp) xs) (i : Nat) (hi : i < xs.length) {y : Tr} {a b : Int} {A : Option Addr} {m c : Nat} (hy : ITr T w (fun k => ok k ∧ k ≠ g) (.agg #[.int .i64 a, .int .i64 b, .slice A m c]) y) :
  NTr T (put3t w g (i * 3) (.int .i64 a) (.int .i64 b) (.slice A m c)) base ok (.slice (some ⟨g, 0, none⟩) n cp) (xs.set i y) := by
 have hn := (Kd.N_reads' h).1
 obtain ⟨cs, hcl, hK, hcc, hfr⟩ := Kd.N_elem h z0 (i : Int) (by omega) (by omega)
 have hlen : cs.length = 3 := hcl
 have hput := Kd.N_seg h (i : Int) (by omega) (by omega) (c := cs) (seg := [.int .i64 a, .int .i64 b, .slice A m c]) (j := 0) (x' := y) (okp := fun k => ok k ∧ k ≠ g) hcl hcc (Nat.le_refl 3) (by
  rw [List.take_zero, List.nil_append, List.drop_eq_nil_of_le (by rw [hlen]; exact Nat.le_refl 3), List.append_nil]
  exact hy.fk) (fun k hk => hk)
 rw [Int.toNat_natCast] at hput
 exact hput.1
theorem below_put3t {B : Nat} {W0 : World} {g o : Nat} (hb : Below B W0 w) (hg : B ≤ g) (c0 c1 c2 : Value) : Below B W0 (put3t w g o c0 c1 c2) := ((hb.setCell hg _).setCell hg _).setCell hg _
theorem heap_put3t {g o k : Nat} (hne : k ≠ g) (c0 c1 c2 : Value) : (put3t w g o c0 c1 c2).heap[k]? = w.heap[k]? := by
 unfold put3t
 rw [Below.heap_setCell _ _ _ _ hne, Below.heap_setCell _ _ _ _ hne, Below.heap_setCell _ _ _ _ hne]
theorem fk_z0 (w : World) (ok : Nat → Prop) : Kd.FK (kTr T) w ok z0 [.int .i64 0, .int .i64 0, .slice none 0 0] := kTr_mkF w ok z0 (Nat.le_refl 0) (Kd.F_nil _ _ _)
end
section
variable {P : Program} {ops : Array Oper} {rest : List Oper} {o : Oper} {a : Act} {Q : Exit → Act → World → Prop}
/-- make([]T, n), T a tree's type -/
theorem tr_make {w0 W : World} {base : Nat} (e : Nat) (hgd : o.guard = none) {N' : Tmp} (hd : o.dst = some N') (t : TypeId) (x y : Operand) (ho : o.op = .makeSlice t x y) (n : Nat) (hx : a.eval x = .int .i64 n) (hy : a.eval y = .int .i64 n)
  (ht : P.underlying t = some (.slice e)) (hinfo : (P.info? e).map (fun i => (i.zero, i.size, i.bytes)) = some (some zeroT, 3, 40)) {ok : Nat → Prop} (hfresh : ok W.heap.size) (hl : n ≤ 1000000000) (HB : Below base w0 W) (hbase : base ≤ W.heap.size)
  (h : ∀ v1 w1, NTr e w1 base ok v1 (List.replicate n z0) → Below base w0 w1 → W.grownBy w1 none → (∃ b, v1.ownBlock = some b ∧ W.heap.size ≤ b) → wpList P ops Q rest (a.put o.dst v1) w1) : wpList P ops Q (o :: rest) a W := by
 refine Kd.N_make (kTr e) base e hgd hd t x y ho n hx hy ht zeroT 40 hinfo rfl (by show 0 < 3; decide) (by decide) z0 (ok := ok) (okp := fun _ => False) (fk_z0 _ _) (fun _ hk => hk.elim) hfresh (by omega) (by rw [Int.toNat_natCast]; omega) HB hbase ?_
 intro v1 w1 h1 hb hg hat
 rw [Int.toNat_natCast] at h1
 exact h v1 w1 h1 hb hg hat
end
/-- The fields' places, filled from the payload. -/
def place (F : Nat) (pl : List Int) (ps : List Tr) : Nat → List Tr
 | 0 => List.replicate F z0
 | i + 1 => (place F pl ps i).set (pl.getD i 0).toNat (ps.getD i z0)
theorem place_length (F : Nat) (pl : List Int) (ps : List Tr) : ∀ i, (place F pl ps i).length = F
 | 0 => by simp [place]
 | i + 1 => by rw [place, List.length_set, place_length F pl ps i]
/-- One step of a chain. -/
def stepT (con : Int) (F : Nat) (pl : List Int) (ps : List Tr) (r : Nat) (v : Tr) : Tr := ⟨5, con, (place F pl ps pl.length).set r v⟩
def chainT (con : Int) (F : Nat) (pl : List Int) (ps : List Tr) (r : Nat) (v : Tr) : Nat → Tr
 | 0 => v
 | n + 1 => stepT con F pl ps r (chainT con F pl ps r v n)
theorem LIn.at {w : World} {ok : Nat → Prop} {A : Option Addr} {m c : Nat} {l : List Int} (h : LIn w ok (.slice A m c) l) (i : Nat) (hi : i < l.length) : ∃ b o, A = some ⟨b, o, none⟩ ∧ w.cell? ⟨b, o + i, none⟩ = some (.int .i64 (l.getD i 0)) := by
 obtain ⟨A', c', e, hc, hF⟩ := h
 simp at e
 obtain ⟨rfl, rfl, rfl⟩ := e
 obtain ⟨b, o, cs, e, hlen, hK, hcell⟩ := F_addr hF 0 (by show 0 < 1; decide) i hi
 have hK' : cs = [.int .i64 (l.getD i 0)] := Kd.FK_now hK
 subst hK'
 refine ⟨b, o, e, ?_⟩
 have := hcell 0 _ rfl
 have hs : (Kd.int IntKind.i64).sz = 1 := rfl
 rw [hs, Nat.mul_one, Nat.add_zero] at this
 exact this
theorem LIn.below {w w1 : World} {ok : Nat → Prop} {v : Value} {l : List Int} (h : LIn w ok v l) (hb : Below w.heap.size w w1) : LIn w1 ok v l := by
 obtain ⟨A, c, e, hc, hF⟩ := h
 exact ⟨A, c, e, hc, Kd.F_step hF (fun k _ hk => hb.block k hk)⟩
theorem LIn.bound {w : World} {ok : Nat → Prop} {v : Value} {l : List Int} (h : LIn w ok v l) : LIn w (fun k => ok k ∧ k < w.heap.size) v l := by
 obtain ⟨A, c, e, hc, hF⟩ := h
 exact ⟨A, c, e, hc, Kd.F_bound hF⟩
theorem LIn.step {w w1 : World} {ok : Nat → Prop} {v : Value} {l : List Int} (h : LIn w ok v l) (hm : ∀ k, ok k → k < w.heap.size → w1.heap[k]? = w.heap[k]?) : LIn w1 ok v l := by
 obtain ⟨A, c, e, hc, hF⟩ := h
 exact ⟨A, c, e, hc, Kd.F_step hF hm⟩
/-
  The contract of fit.chain.
-/
theorem pay_range {bs : List Bool} {i j : Nat} (h : j < (pay bs i).length) : ∃ p : Nat, (pay bs i).getD j 0 = (p : Int) ∧ p < i := by
 have h1 : (pay bs i)[j]'h ∈ pay bs i := List.getElem_mem h
 unfold pay at h1
 obtain ⟨p, hp, he⟩ := List.mem_map.1 h1
 refine ⟨p, ?_, List.mem_range.1 (List.mem_filter.1 hp).1⟩
 rw [List.getD_eq_getElem?_getD, List.getElem?_eq_getElem h]
 exact he.symm
theorem heap_size_set' (w : World) (p : Addr) (u : Value) : (w.setCell p u).heap.size = w.heap.size := by
 unfold World.setCell
 split <;> simp
set_option maxRecDepth 100000 in
set_option maxHeartbeats 4000000 in
theorem chain_val (ds : List Dt) (k : Int) (n q : Nat) (l ps : List Tr) (x : Tr) (m r : Nat) (fs : List Tr) (bs : List Bool) (ok : Nat → Prop) (vd vp : Value) (A B : Option Addr) (e be : Nat) (w : World) (hok : ∀ k, w.heap.size ≤ k → ok k) (hd : LDt w ok vd ds)
  (hx : LTr 25 w ok (.slice A l.length e) l) (hp : LTr 28 w ok vp ps) (he : ITr 28 w ok (.agg #[.int .i64 x.k, .int .i64 x.n, .slice B x.l.length be]) x)
  (hs : SmallD ds) (h2 : szl l ≤ 1000000) (hn : n < ds.length) (hq : q < (ds.getD n d0).l.length) (hfs : (fieldsP ds ⟨k, (n : Int), l⟩ (q : Int)).getD [] = fs) (hbs : recsOf ds n q = bs) (hfl : fs.length = bs.length)
  (hpl : ps.length = (pay bs bs.length).length) (hrl : rcs bs bs.length = [(r : Int)]) (hr : r < bs.length) (hps : szl ps ≤ 1000000) (hxs : x.sz ≤ 1000000) (hm : m ≤ 1000000) :
  Calls Tryz.prog 16 #[vd, .agg #[.int .i64 k, .int .i64 (n : Int), .slice A l.length e], .int .i64 (q : Int), vp, .agg #[.int .i64 x.k, .int .i64 x.n, .slice B x.l.length be], .int .i64 (m : Int)] w (RetTr1 28 ok (chainT (q : Int) bs.length (pay bs bs.length) ps r x m) w) := by
 have HD := As hd
 have HLX := As hx
 have HP := As hp
 have HE := As he
 have HOK := As hok
 have hmp := hp.max
 have hbl : bs.length ≤ 1000000 := by rw [← hbs]; unfold recsOf; rw [List.length_map]; exact (hs n q).1
 obtain ⟨Ap, cp, rfl, hcp, _⟩ := hp
 obtain ⟨W1, hW1⟩ : ∃ W1, w.alloc (.cells #[.int .i64 k, .int .i64 (n : Int), .slice A l.length e] 25) = W1 := ⟨_, rfl⟩
 obtain ⟨W2, hW2⟩ : ∃ W2, W1.alloc (.cells #[.int .i64 x.k, .int .i64 x.n, .slice B x.l.length be] 28) = W2 := ⟨_, rfl⟩
 obtain ⟨W3, hW3⟩ : ∃ W3, W2.alloc (.cells #[.int .i64 0, .int .i64 0, .slice none 0 0] 28) = W3 := ⟨_, rfl⟩
 have hWW : ((w.alloc (.cells #[.int .i64 k, .int .i64 (n : Int), .slice A l.length e] 25)).alloc (.cells #[.int .i64 x.k, .int .i64 x.n, .slice B x.l.length be] 28)).alloc (.cells #[.int .i64 0, .int .i64 0, .slice none 0 0] 28) = W3 := by rw [hW1, hW2]; exact hW3
 have hs1 : W1.heap.size = w.heap.size + 1 := by rw [← hW1]; show (w.heap.push _).size = _; simp
 have hs2 : W2.heap.size = w.heap.size + 2 := by rw [← hW2]; show (W1.heap.push _).size = _; simp; omega
 have hb1 : Below w.heap.size w W1 := by rw [← hW1]; exact below_alloc (Below.refl _ _) _
 have hb12 : Below W1.heap.size W1 W2 := by rw [← hW2]; exact below_alloc (Below.refl _ _) _
 have hb23 : Below W2.heap.size W2 W3 := by rw [← hW3]; exact below_alloc (Below.refl _ _) _
 have hg1 : W1.heap[w.heap.size]? = some (.cells #[.int .i64 k, .int .i64 (n : Int), .slice A l.length e] 25 (0, 0)) := by rw [← hW1]; exact heap_alloc_new _ _
 have hg2 : W2.heap[w.heap.size + 1]? = some (.cells #[.int .i64 x.k, .int .i64 x.n, .slice B x.l.length be] 28 (0, 0)) := by rw [← hs1, ← hW2]; exact heap_alloc_new _ _
 have hg3 : W3.heap[w.heap.size + 2]? = some (.cells #[.int .i64 0, .int .i64 0, .slice none 0 0] 28 (0, 0)) := by rw [← hs2, ← hW3]; exact heap_alloc_new _ _
 have hG7 := blk_below hg1 (below_step hb12 hb23)
 have hG10 := blk_below hg2 hb23
 have HWW := As hWW
 have HB3 := As (below_step (below_step hb1 hb12) hb23)
 have HG7 := As hG7
 have HG10 := As hG10
 have HGR := As hg3
 obtain ⟨okz, hokz⟩ : ∃ okz : Nat → Prop, okz = fun k => ok k ∧ k ≠ w.heap.size ∧ k ≠ w.heap.size + 1 ∧ k ≠ w.heap.size + 2 := ⟨_, rfl⟩
 have HOKZ := As hokz
 have hold : ∀ k, (ok k ∧ k < w.heap.size) → okz k := fun k hk => by rw [hokz]; exact ⟨hk.1, by omega, by omega, by omega⟩
 have HFR := As (show ∀ k, W3.heap.size ≤ k → okz k from fun k hk => by
  have := blk_lt hg3
  rw [hokz]
  exact ⟨hok k (Nat.le_trans HB3.out.size hk), by omega, by omega, by omega⟩)
 have HD3 := As ((hd.old HB3.out).mono hold)
 have HL3 := As ((hx.old HB3.out).mono hold)
 have HP3 := As ((HP.out.old HB3.out).mono hold)
 have HE3 := As ((he.old HB3.out).mono hold)
 have t0 : W3.cell? ⟨w.heap.size, 0, none⟩ = some (.int .i64 k) := (blk_cell hG7 0).trans rfl
 have t1 : W3.cell? ⟨w.heap.size, 1, none⟩ = some (.int .i64 (n : Int)) := (blk_cell hG7 1).trans rfl
 have t2 : W3.cell? ⟨w.heap.size, 2, none⟩ = some (.slice A l.length e) := (blk_cell hG7 2).trans rfl
 have HSM := As hs
 have HSX := As h2
 have HN := As hn
 have HQ := As hq
 have HFS := As hfs
 have HBS := As hbs
 have HFL := As hfl
 have HPLN := As hpl
 have HRL := As hrl
 have HPS := As hps
 have HXS := As hxs
 clear hWW hW1 hW2 hW3 hs1 hs2 hb1 hb12 hb23 hg1 hg2 hg3 hG7 hG10 hokz hold hok hd hx he hs h2 hn hq hfs hbs hfl hpl hrl hps hxs
 go_enter Tryz.func16, Tryz.ntmps16
 go_upto_region 1 with fail
 rw [HWW.out]
 go_wp2_with fail
 with_reducible refine (shape_law ds k n q l okz _ _ _ _ HFR.out HD3.out HL3.out HSM.out HSX.out HN.out HQ.out).mono ?_
 rintro e4 w4 ⟨v1, v2, v3, rfl, hv1, hv2, hv3, hb⟩
 rw [HFS.out] at hv1
 rw [HBS.out] at hv2 hv3
 obtain ⟨pl, hpl⟩ : ∃ pl, pay bs bs.length = pl := ⟨_, rfl⟩
 have HPR := As (fun j (h : j < (pay bs bs.length).length) => pay_range h)
 have hpll : pl.length ≤ 1000000 := by rw [← hpl]; have := pay_length bs bs.length; omega
 rw [hpl] at hv2 HPLN HPR
 rw [HRL.out] at hv3
 have HPL := As hpl
 have HV2 := As hv2
 have HV3 := As hv3
 obtain ⟨A13, c13, rfl, _, _⟩ := hv1
 obtain ⟨A14, c14, rfl, _, _⟩ := hv2
 obtain ⟨A15, c15, rfl, _, _⟩ := hv3
 have HB4 := As (below_step HB3.out hb)
 have HP4 := As (HP3.out.below hb)
 have HE4 := As (HE3.out.below hb)
 have HG10' := blk_below HG10.out hb
 have HGR4 := As (blk_below HGR.out hb)
 have HFR4 := As (show ∀ k, w4.heap.size ≤ k → okz k from fun k hk => HFR.out k (Nat.le_trans hb.size hk))
 have s0 : w4.cell? ⟨w.heap.size + 1, 0, none⟩ = some (.int .i64 x.k) := (blk_cell HG10' 0).trans rfl
 have s1 : w4.cell? ⟨w.heap.size + 1, 1, none⟩ = some (.int .i64 x.n) := (blk_cell HG10' 1).trans rfl
 have s2 : w4.cell? ⟨w.heap.size + 1, 2, none⟩ = some (.slice B x.l.length be) := (blk_cell HG10' 2).trans rfl
 clear hb t0 t1 t2 HG10' hpl
 rw [HFL.out]
 go_upto_region 2 with fail
 go_wp2_with fail
 with_reducible refine (clone_val x.sz x okz _ _ (Nat.le_refl _) HFR4.out HE4.out HXS.out).mono ?_
 rintro e5 w5 ⟨v5, rfl, hv, hb⟩
 have HV5 := As hv
 obtain ⟨A5, c5, rfl⟩ := hv.shape
 obtain ⟨gr, hgr⟩ : ∃ gr, gr = w.heap.size + 2 := ⟨_, rfl⟩
 obtain ⟨gv, hgv⟩ : ∃ gv, gv = w5.heap.size := ⟨_, rfl⟩
 obtain ⟨W6, hW6⟩ : ∃ W6, w5.alloc (.cells #[.int .i64 x.k, .int .i64 x.n, .slice A5 x.l.length c5] 28) = W6 := ⟨_, rfl⟩
 have hb6 : Below w5.heap.size w5 W6 := by rw [← hW6]; exact below_alloc (Below.refl _ _) _
 have HGR5 := blk_below HGR4.out hb
 have HGV6 := As (show W6.heap[gv]? = some (.cells #[.int .i64 x.k, .int .i64 x.n, .slice A5 x.l.length c5] 28 (0, 0)) by rw [hgv, ← hW6]; exact heap_alloc_new _ _)
 have HGR6 := As (show W6.heap[gr]? = some (.cells #[.int .i64 0, .int .i64 0, .slice none 0 0] 28 (0, 0)) by rw [hgr]; exact blk_below HGR5 hb6)
 have hgrv : gr < gv := by rw [hgr, hgv]; exact blk_lt HGR5
 have HB5 := As (below_step HB4.out hb)
 have HB6 := As hb6
 have HV6 := As (((hv.bound).step (w1 := W6) (fun k hk _ => hb6.block k hk.2)))
 have HP5 := As ((HP4.out.below hb).bound)
 have HI2 := As ((HV2.out.below hb).bound)
 have HI3 := As ((HV3.out.below hb).bound)
 have HGVE := As hgv
 have HGRE := As hgr
 have HFR5 := As (show ∀ k, w5.heap.size ≤ k → okz k from fun k hk => HFR4.out k (Nat.le_trans hb.size hk))
 have HW6 := As hW6
 rw [show w.heap.size + 1 + 1 = gr from hgr.symm]
 clear hv hb hb6 hW6 HGR5 s0 s1 s2 hgr
 go_upto_region 3 with fail
 rw [HW6.out, ← hgv]
 clear hgv
 go_wp2
 go_loopw [31] (fun v31 wr => ∃ (i : Nat) (y : Tr) (Ay : Option Addr) (cy : Nat), v31 = .int .i64 i ∧ i ≤ m ∧ Aside0 (y = chainT (q : Int) bs.length pl ps r x i) ∧ Aside0 (wr.heap[gv]? = some (.cells #[.int .i64 y.k, .int .i64 y.n, .slice Ay y.l.length cy] 28 (0, 0))) ∧ Aside0 (wr.heap[gr]? = some (.cells #[.int .i64 0, .int .i64 0, .slice none 0 0] 28 (0, 0))) ∧ Aside0 (ITr 28 wr (fun k => okz k ∧ k ≠ gv) (.agg #[.int .i64 y.k, .int .i64 y.n, .slice Ay y.l.length cy]) y) ∧ Aside0 (Below w5.heap.size w5 wr)) (fun v31 _ => m - (intOf v31).toNat)
 case atStart => exact ⟨0, x, A5, c5, rfl, Nat.zero_le _, ⟨rfl⟩, HGV6, HGR6, ⟨HV6.out.mono (fun k hk => ⟨hk.1, by have := HGVE.out; have := hk.2; omega⟩)⟩, HB6⟩
 case round =>
  clear HGV6 HGR6 HV6 HB6
  obtain ⟨i, y, Ay, cy, rfl, hi, HY, HGV, HGR, HIY, HB⟩ := hrel
  have HBW := As (below_weaken HB5.out HB5.out.size HB.out)
  have hgvl := blk_lt HGV.out
  by_cases hlt : i < m
  ·have hlb : decide ((i : Int) < (m : Int)) = true := decide_eq_true (by omega)
   obtain ⟨okk, hokk⟩ : ∃ okk : Nat → Prop, okk = fun k => okz k ∧ k ≠ gv := ⟨_, rfl⟩
   have HOKK := As hokk
   rw [← hokk] at HIY
   have HFRr := As (show ∀ k, wr.heap.size ≤ k → okk k from fun k hk => by rw [hokk]; exact ⟨HFR5.out k (Nat.le_trans HB.out.size hk), by omega⟩)
   have HFRc := As (HFRr.out _ (Nat.le_refl _))
   have HNF := As (show bs.length ≤ 1000000000 by omega)
   clear hokk
   go_wp2_with ((with_reducible refine gate_dst (N := 35) rfl ?_); refine tr_make (w0 := w5) (base := w5.heap.size) 28 rfl (N' := 35) rfl 26 _ _ rfl bs.length rfl rfl Tryz.underlying26 info_val HFRc.out HNF.out HB.out HB.out.size ?_; intro v7 w7 ho_ hb_ hg_ hat_; have HO7 := As ho_; have HB7 := As hb_; have HG7 := As hg_; have HA7 := As hat_; clear ho_ hb_ hg_ hat_)
   obtain ⟨gk, ck, rfl, hgk0, hgk1⟩ := HO7.out.form (by rw [List.length_replicate]; omega)
   rw [List.length_replicate] at HO7 ⊢
   have hgk2 : wr.heap.size ≤ gk := by
    obtain ⟨b, hb, hle⟩ := HA7.out
    have : gk = b := by simpa [Value.ownBlock] using hb
    omega
   have HGV7 := As ((HG7.out.block _ hgvl (by simp)).trans HGV.out)
   have HGR7 := As ((HG7.out.block _ (blk_lt HGR.out) (by simp)).trans HGR.out)
   have HIY7 := As (show ITr 28 w7 (fun k => okk k ∧ k < gk) (.agg #[.int .i64 y.k, .int .i64 y.n, .slice Ay y.l.length cy]) y from (HIY.out.bound.step (w1 := w7) (fun k hk _ => HG7.out.block k hk.2 (by simp))).mono (fun k hk => ⟨hk.1, by have := hk.2; omega⟩))
   have HO7' := As (show NTr 28 w7 w5.heap.size okk (.slice (some ⟨gk, 0, none⟩) bs.length ck) (place bs.length pl ps 0) from HO7.out)
   clear HO7 HG7 HA7
   obtain ⟨wo, hwo⟩ : ∃ wo, wo = wr := ⟨wr, rfl⟩
   subst hwo
   go_wp2
   go_loopw [38] (fun v38 wi => ∃ j : Nat, v38 = .int .i64 j ∧ j ≤ pl.length ∧ Aside0 (NTr 28 wi w5.heap.size okk (.slice (some ⟨gk, 0, none⟩) bs.length ck) (place bs.length pl ps j)) ∧ Aside0 (wi.heap[gv]? = some (.cells #[.int .i64 y.k, .int .i64 y.n, .slice Ay y.l.length cy] 28 (0, 0))) ∧ Aside0 (wi.heap[gr]? = some (.cells #[.int .i64 0, .int .i64 0, .slice none 0 0] 28 (0, 0))) ∧ Aside0 (ITr 28 wi (fun k => okk k ∧ k < gk) (.agg #[.int .i64 y.k, .int .i64 y.n, .slice Ay y.l.length cy]) y) ∧ Aside0 (gk < wi.heap.size) ∧ Aside0 (Below w5.heap.size w5 wi)) (fun v38 _ => pl.length - (intOf v38).toNat)
   case atStart => exact ⟨0, rfl, Nat.zero_le _, HO7', HGV7, HGR7, HIY7, ⟨hgk1⟩, HB7⟩
   case round =>
    clear HO7' HGV7 HGR7 HIY7 HB7
    obtain ⟨j, rfl, hj, HO, HGVi, HGRi, HIYi, HGK, HBi⟩ := hrel
    by_cases hjl : j < pl.length
    ·have hjb : decide ((j : Int) < (pl.length : Int)) = true := decide_eq_true (by omega)
     obtain ⟨p, hp1, hp2⟩ := HPR.out j hjl
     obtain ⟨ib, io, rfl, i0⟩ := (HI2.out.step (w1 := wr) (fun k hk _ => HBi.out.block k hk.2)).at j hjl
     rw [hp1] at i0
     have hjp : j < ps.length := by rw [HPLN.out]; exact hjl
     obtain ⟨pb, po, A8, c8, rfl, z1, z2, z3, hkid⟩ := (HP5.out.step (w1 := wr) (fun k hk _ => HBi.out.block k hk.2)).at j hjp
     obtain ⟨z, hz⟩ : ∃ z, ps.getD j z0 = z := ⟨_, rfl⟩
     have HPLC := As (show (place bs.length pl ps j).set p z = place bs.length pl ps (j + 1) by show _ = (place bs.length pl ps j).set (pl.getD j 0).toNat (ps.getD j z0); rw [hp1, hz, Int.toNat_natCast])
     rw [hz] at z1 z2 z3 hkid
     have HZS := As (show z.sz ≤ 1000000 by rw [← hz]; have := sz_getD hjp; have := HPS.out; omega)
     obtain ⟨okc, hokc⟩ : ∃ okc : Nat → Prop, okc = fun k => okk k ∧ k ≠ gk := ⟨_, rfl⟩
     have HOKC := As hokc
     have HFRc := As (show ∀ k, wr.heap.size ≤ k → okc k from fun k hk => by
      rw [hokc, HOKK.out]
      have h1 := HBi.out.size
      have h2 := HGK.out
      have h3 := blk_lt HGVi.out
      exact ⟨⟨HFR5.out k (by omega), by omega⟩, by omega⟩)
     have HK9 := As (hkid.mono (ok' := okc) (fun k hk => by rw [hokc, HOKK.out]; have := HGVE.out; exact ⟨⟨hk.1, by have := hk.2; omega⟩, by have := hk.2; omega⟩))
     have hpp : decide ((p : Int) < (bs.length : Int)) = true := decide_eq_true (by omega)
     clear hkid hz hokc
     go_wp2_with fail
     with_reducible refine (clone_val z.sz z okc _ _ (Nat.le_refl _) HFRc.out HK9.out HZS.out).mono ?_
     rintro e9 w9 ⟨v9, rfl, hv, hb⟩
     have HV9 := As hv
     obtain ⟨A9, c9, rfl⟩ := hv.shape
     rw [HOKC.out] at HV9
     have HO9 := As (HO.out.below hb)
     obtain ⟨_, _, _, k0, k1, k2, f0, f1, f2⟩ := HO9.out.at p (by rw [place_length]; exact hp2)
     have HGV9 := blk_below HGVi.out hb
     have HGR9 := blk_below HGRi.out hb
     have HIY9 := HIYi.out.below hb
     have HGK9 := Nat.lt_of_lt_of_le HGK.out hb.size
     have hgkv : gk ≠ gv := by omega
     have hgkr : gk ≠ gr := by omega
     have HOP := As (HO9.out.put p (by rw [place_length]; exact hp2) HV9.out)
     rw [HPLC.out] at HOP
     have HGVp := As ((heap_put3t (w := w9) (g := gk) (o := p * 3) (Ne.symm hgkv) (.int .i64 z.k) (.int .i64 z.n) (.slice A9 z.l.length c9)).trans HGV9)
     have HGRp := As ((heap_put3t (w := w9) (g := gk) (o := p * 3) (Ne.symm hgkr) (.int .i64 z.k) (.int .i64 z.n) (.slice A9 z.l.length c9)).trans HGR9)
     have HIYp := As (HIY9.step (w1 := put3t w9 gk (p * 3) (.int .i64 z.k) (.int .i64 z.n) (.slice A9 z.l.length c9)) (fun k hk _ => heap_put3t (by have := hk.2; omega) _ _ _))
     have HGKp := As (show gk < (put3t w9 gk (p * 3) (.int .i64 z.k) (.int .i64 z.n) (.slice A9 z.l.length c9)).heap.size by unfold put3t; simp only [heap_size_set']; exact HGK9)
     have HBp := As (below_put3t (g := gk) (o := p * 3) (below_step HBi.out hb) hgk0 (.int .i64 z.k) (.int .i64 z.n) (.slice A9 z.l.length c9))
     clear hv hb HGV9 HGR9 HIY9
     go_wp2
     go_roundw
     case rel => exact ⟨j + 1, by go_num, by omega, HOP, HGVp, HGRp, HIYp, HGKp, HBp⟩
     case measure => simp [intOf]; omega
    ·have hjb : decide ((j : Int) < (pl.length : Int)) = false := decide_eq_false (by omega)
     have he : j = pl.length := by omega
     subst he
     have hbd := below_drew1 (Below.refl wr.heap.size wr)
     obtain ⟨jb, jo, rfl, j0⟩ := (HI3.out.step (w1 := wr) (fun k hk _ => HBi.out.block k hk.2)).at 0 (by simp)
     replace j0 : wr.cell? ⟨jb, jo, none⟩ = some (.int .i64 (r : Int)) := j0
     obtain ⟨_, _, _, k0, k1, k2, f0, f1, f2⟩ := HO.out.at r (by rw [place_length]; exact hr)
     have q0 : wr.cell? ⟨gv, 0, none⟩ = some (.int .i64 y.k) := (blk_cell HGVi.out 0).trans rfl
     have q1 : wr.cell? ⟨gv, 1, none⟩ = some (.int .i64 y.n) := (blk_cell HGVi.out 1).trans rfl
     have q2 : wr.cell? ⟨gv, 2, none⟩ = some (.slice Ay y.l.length cy) := (blk_cell HGVi.out 2).trans rfl
     have g0 := blk_frozen HGVi.out 0
     have g1 := blk_frozen HGVi.out 1
     have g2 := blk_frozen HGVi.out 2
     have hgkl := HGK.out
     have hgkv : gk ≠ gv := by omega
     have hgvk := Ne.symm hgkv
     have hgkr : gk ≠ gr := by omega
     have hgvr : gv ≠ gr := by omega
     have hgvi := blk_lt HGVi.out
     have hrb : decide ((r : Int) < (bs.length : Int)) = true := decide_eq_true (by omega)
     have HIYd := As (HIYi.out.mono (ok' := fun k => okk k ∧ k ≠ gk) (fun k hk => ⟨hk.1, by have := hk.2; omega⟩))
     obtain ⟨W9, hW9⟩ : ∃ W9, put3t wr gk (r * 3) (.int .i64 y.k) (.int .i64 y.n) (.slice Ay y.l.length cy) = W9 := ⟨_, rfl⟩
     have hops := HO.out.put r (by rw [place_length]; exact hr) HIYd.out
     have hgv9 := (heap_put3t (w := wr) (g := gk) (o := r * 3) hgvk (.int .i64 y.k) (.int .i64 y.n) (.slice Ay y.l.length cy)).trans HGVi.out
     have hgr9 := (heap_put3t (w := wr) (g := gk) (o := r * 3) (Ne.symm hgkr) (.int .i64 y.k) (.int .i64 y.n) (.slice Ay y.l.length cy)).trans HGRi.out
     have hb9 := below_put3t (g := gk) (o := r * 3) HBi.out hgk0 (.int .i64 y.k) (.int .i64 y.n) (.slice Ay y.l.length cy)
     have HL9 : LTr 28 W9 okk (.slice (some ⟨gk, 0, none⟩) bs.length ck) ((place bs.length pl ps pl.length).set r y) := by rw [← hW9]; exact NTr.lt hops
     obtain ⟨y', hy'⟩ : ∃ y', stepT (q : Int) bs.length pl ps r y = y' := ⟨_, rfl⟩
     have hyl : y'.l.length = bs.length := by rw [← hy']; show ((place bs.length pl ps pl.length).set r y).length = _; rw [List.length_set, place_length]
     have hyk : y'.k = 5 := by rw [← hy']; rfl
     have hyn : y'.n = (q : Int) := by rw [← hy']; rfl
     have hiy : ITr 28 W9 okk (.agg #[.int .i64 5, .int .i64 (q : Int), .slice (some ⟨gk, 0, none⟩) bs.length ck]) y' := by rw [← hy']; exact ITr.mk HL9
     rw [hW9] at hgv9 hgr9 hb9
     have HW9 := As (show ((wr.setCell ⟨gk, r * 3, none⟩ (.int .i64 y.k)).setCell ⟨gk, r * 3 + 1, none⟩ (.int .i64 y.n)).setCell ⟨gk, r * 3 + 2, none⟩ (.slice Ay y.l.length cy) = W9 from hW9)
     have d0 : W9.cell? ⟨gv, 0, none⟩ = some (.int .i64 y.k) := (blk_cell hgv9 0).trans rfl
     have d1 : W9.cell? ⟨gv, 1, none⟩ = some (.int .i64 y.n) := (blk_cell hgv9 1).trans rfl
     have d2 : W9.cell? ⟨gv, 2, none⟩ = some (.slice Ay y.l.length cy) := (blk_cell hgv9 2).trans rfl
     have e0 := blk_frozen hgv9 0
     have e1 := blk_frozen hgv9 1
     have e2 := blk_frozen hgv9 2
     have hgv9l := blk_lt hgv9
     have HY1 := As (show y' = chainT (q : Int) bs.length pl ps r x (i + 1) by rw [← hy', HY.out]; rfl)
     have HGV1 := As (show (((W9.setCell ⟨gv, 0, none⟩ (.int .i64 5)).setCell ⟨gv, 1, none⟩ (.int .i64 (q : Int))).setCell ⟨gv, 2, none⟩ (.slice (some ⟨gk, 0, none⟩) bs.length ck)).drew.heap[gv]? = some (.cells #[.int .i64 y'.k, .int .i64 y'.n, .slice (some ⟨gk, 0, none⟩) y'.l.length ck] 28 (0, 0)) by
      rw [hyl, hyk, hyn]
      exact blk_drew (blk_put (blk_put (blk_put hgv9 0 (.int .i64 5) rfl) 1 (.int .i64 (q : Int)) rfl) 2 (.slice (some ⟨gk, 0, none⟩) bs.length ck) rfl))
     have HGR1 := As (show (((W9.setCell ⟨gv, 0, none⟩ (.int .i64 5)).setCell ⟨gv, 1, none⟩ (.int .i64 (q : Int))).setCell ⟨gv, 2, none⟩ (.slice (some ⟨gk, 0, none⟩) bs.length ck)).drew.heap[gr]? = some (.cells #[.int .i64 0, .int .i64 0, .slice none 0 0] 28 (0, 0)) from blk_drew (blk_far (blk_far (blk_far hgr9 (p := ⟨gv, 0, none⟩) (Ne.symm hgvr) _) (p := ⟨gv, 1, none⟩) (Ne.symm hgvr) _) (p := ⟨gv, 2, none⟩) (Ne.symm hgvr) _))
     have HIY1 := As (show ITr 28 (((W9.setCell ⟨gv, 0, none⟩ (.int .i64 5)).setCell ⟨gv, 1, none⟩ (.int .i64 (q : Int))).setCell ⟨gv, 2, none⟩ (.slice (some ⟨gk, 0, none⟩) bs.length ck)).drew (fun k => okz k ∧ k ≠ gv) (.agg #[.int .i64 y'.k, .int .i64 y'.n, .slice (some ⟨gk, 0, none⟩) y'.l.length ck]) y' by
      rw [hyl, hyk, hyn]
      refine (ITr.below (hiy.step (w1 := ((W9.setCell ⟨gv, 0, none⟩ (.int .i64 5)).setCell ⟨gv, 1, none⟩ (.int .i64 (q : Int))).setCell ⟨gv, 2, none⟩ (.slice (some ⟨gk, 0, none⟩) bs.length ck)) (fun k hk _ => ?_)) (below_drew1 (Below.refl _ _))).mono (fun k hk => by rw [HOKK.out] at hk; exact hk)
      rw [HOKK.out] at hk
      rw [Below.heap_setCell _ _ _ _ hk.2, Below.heap_setCell _ _ _ _ hk.2, Below.heap_setCell _ _ _ _ hk.2])
     have HB1 := As (show Below w5.heap.size w5 (((W9.setCell ⟨gv, 0, none⟩ (.int .i64 5)).setCell ⟨gv, 1, none⟩ (.int .i64 (q : Int))).setCell ⟨gv, 2, none⟩ (.slice (some ⟨gk, 0, none⟩) bs.length ck)).drew from below_drew1 (below_set (below_set (below_set hb9 (Nat.le_of_eq HGVE.out.symm)) (Nat.le_of_eq HGVE.out.symm)) (Nat.le_of_eq HGVE.out.symm)))
     clear hbd hops hgv9 hgr9 hb9 HL9 hy' hyl hyk hyn hiy hW9
     go_upto_region 11 with fail
     go_region_with fail
     all_goals
      (rw [HW9.out]
       go_wp2
       go_roundw
       case rel => exact ⟨i + 1, y', _, ck, by go_num, by omega, HY1, HGV1, HGR1, HIY1, HB1⟩
       case measure => simp [intOf]; omega)
  ·have hlb : decide ((i : Int) < (m : Int)) = false := decide_eq_false (by omega)
   have he : i = m := by omega
   subst he
   have q0 : wr.cell? ⟨gv, 0, none⟩ = some (.int .i64 y.k) := (blk_cell HGV.out 0).trans rfl
   have q1 : wr.cell? ⟨gv, 1, none⟩ = some (.int .i64 y.n) := (blk_cell HGV.out 1).trans rfl
   have q2 : wr.cell? ⟨gv, 2, none⟩ = some (.slice Ay y.l.length cy) := (blk_cell HGV.out 2).trans rfl
   have r0 : wr.cell? ⟨gr, 0, none⟩ = some (.int .i64 0) := (blk_cell HGR.out 0).trans rfl
   have r1 : wr.cell? ⟨gr, 1, none⟩ = some (.int .i64 0) := (blk_cell HGR.out 1).trans rfl
   have r2 : wr.cell? ⟨gr, 2, none⟩ = some (.slice none 0 0) := (blk_cell HGR.out 2).trans rfl
   have f0 := blk_frozen HGR.out 0
   have f1 := blk_frozen HGR.out 1
   have f2 := blk_frozen HGR.out 2
   have hgl := blk_lt HGR.out
   go_wp2
   refine bodyPost_ret (v := .agg #[.int .i64 y.k, .int .i64 y.n, .slice Ay y.l.length cy]) (by simp [results, Tryz.results16, go_sem, hgl, r0, r1, r2]) rfl ⟨_, rfl, ?_, ?_⟩
   ·rw [HPL.out, ← HY.out]
    refine (HIY.out.step (fun k hk _ => ?_)).mono (fun k hk => ?_)
    ·have h1 := hk.1
     rw [HOKZ.out] at h1
     have hne : k ≠ gr := by rw [HGRE.out]; exact h1.2.2.2
     rw [Below.heap_setCell _ _ _ _ hne, Below.heap_setCell _ _ _ _ hne, Below.heap_setCell _ _ _ _ hne]
    ·have h1 := hk.1
     rw [HOKZ.out] at h1
     exact h1.1
   ·have hle : w.heap.size ≤ gr := by rw [HGRE.out]; omega
    exact below_set (below_set (below_set HBW.out hle) hle) hle
/-
  The contracts of slices.IndexFunc and ContainsFunc at the program's closures over types.
-/
set_option maxRecDepth 100000 in
set_option maxHeartbeats 2000000 in
theorem index_valid (p : Tr → Bool) (ok : Nat → Prop) (v : Value) (k0 k1 : Value) (xs : List Tr) (w : World) (h : LTr 25 w ok v xs)
  (hf : ∀ i, i < xs.length → ∀ (v' : Value) (w' : World), Below w.heap.size w w' → ITr 25 w' ok v' (xs.getD i z0) → Calls Tryz.prog 107 #[v', k0, k1] w' (RetB (p (xs.getD i z0)) w')) :
  Calls Tryz.prog 115 #[v, .func (.func 107) #[] #[k0, k1]] w (fun e w' => ∃ r : Int, e = .returned (.int .i64 r) ∧ decide (0 ≤ r) = xs.any p ∧ Below w.heap.size w w') := by
 have hmx := h.max
 have HL := As h
 obtain ⟨A, c, rfl, _, _⟩ := h
 have HB := As (Below.refl w.heap.size w)
 have HFN := As hf
 clear hf
 go_enter Tryz.func115, Tryz.ntmps115
 go_wp2
 go_loopw [8] (fun v8 wr => ∃ i : Nat, v8 = .int .i64 i ∧ i ≤ xs.length ∧ Aside0 (∀ j, j < i → p (xs.getD j z0) = false) ∧ Aside0 (Below w.heap.size w wr)) (fun v8 _ => xs.length - (intOf v8).toNat)
 case atStart => exact ⟨0, rfl, Nat.zero_le _, ⟨fun j hj => absurd hj (Nat.not_lt_zero _)⟩, HB⟩
 case round =>
  clear HB
  obtain ⟨i, rfl, hi, HK, HB⟩ := hrel
  by_cases hlt : i < xs.length
  ·have hlb : decide ((i : Int) < (xs.length : Int)) = true := decide_eq_true (by omega)
   obtain ⟨b, o, A1, c1, rfl, p0, p1, p2, hkid⟩ := (HL.out.below HB.out).at i hlt
   have HK2 := As hkid
   have HFi := As (HFN.out i hlt)
   obtain ⟨y, hy⟩ : ∃ y, xs.getD i z0 = y := ⟨_, rfl⟩
   have HYY := As hy
   rw [hy] at p0 p1 p2 HK2 HFi
   clear hkid hy
   go_wp2_with fail
   with_reducible refine (HFi.out _ _ HB.out HK2.out).mono ?_
   rintro e w3 ⟨rfl, hb⟩
   have HB3 := As (below_step HB.out hb)
   obtain ⟨q, hq⟩ : ∃ q, p y = q := ⟨_, rfl⟩
   have HQ := As hq
   rw [hq]
   clear hb hq
   cases q with
   | true =>
    have hA := As (show xs.any p = true by
     rw [List.any_eq_true]
     refine ⟨y, ?_, HQ.out⟩
     rw [← HYY.out, List.getD_eq_getElem?_getD, List.getElem?_eq_getElem hlt]
     exact List.getElem_mem hlt)
    go_wp2
    go_ret
    exact ⟨(i : Int), rfl, by rw [hA.out]; exact decide_eq_true (by omega), HB3.out⟩
   | false =>
    go_wp2
    go_roundw
    case rel => exact ⟨i + 1, by go_num, by omega, ⟨fun j hj => by rcases Nat.lt_or_ge j i with h | h; exact HK.out j h; rw [show j = i by omega, HYY.out]; exact HQ.out⟩, HB3⟩
    case measure => simp [intOf]; omega
  ·have hlb : decide ((i : Int) < (xs.length : Int)) = false := decide_eq_false (by omega)
   have hA := As (show xs.any p = false by
    rw [List.any_eq_false]
    intro y hy
    obtain ⟨j, hj, rfl⟩ := List.mem_iff_getElem.1 hy
    have h1 := HK.out j (by omega)
    rw [List.getD_eq_getElem?_getD, List.getElem?_eq_getElem hj] at h1
    simpa using h1)
   go_wp2
   go_ret
   exact ⟨-1, rfl, by rw [hA.out]; decide, HB.out⟩
set_option maxHeartbeats 1000000 in
theorem contains_valid (p : Tr → Bool) (ok : Nat → Prop) (v : Value) (k0 k1 : Value) (xs : List Tr) (w : World) (h : LTr 25 w ok v xs)
  (hf : ∀ i, i < xs.length → ∀ (v' : Value) (w' : World), Below w.heap.size w w' → ITr 25 w' ok v' (xs.getD i z0) → Calls Tryz.prog 107 #[v', k0, k1] w' (RetB (p (xs.getD i z0)) w')) :
  Calls Tryz.prog 94 #[v, .func (.func 107) #[] #[k0, k1]] w (RetB (xs.any p) w) := by
 have H := As h
 have HFN := As hf
 clear h hf
 go_enter Tryz.func94, Tryz.ntmps94
 go_wp2_with fail
 with_reducible refine (index_valid p ok _ k0 k1 xs _ H.out HFN.out).mono ?_
 rintro e w3 ⟨r, rfl, hr, hb⟩
 have HB := As hb
 have HR := As hr.symm
 clear hb hr
 go_wp2
 go_ret
 exact RetB.mk HR.out HB.out
set_option maxRecDepth 100000 in
set_option maxHeartbeats 2000000 in
theorem index_mentions (p : Tr → Bool) (ok : Nat → Prop) (v : Value) (k0 : Value) (xs : List Tr) (w : World) (h : LTr 25 w ok v xs)
  (hf : ∀ i, i < xs.length → ∀ (v' : Value) (w' : World), Below w.heap.size w w' → ITr 25 w' ok v' (xs.getD i z0) → Calls Tryz.prog 114 #[v', k0] w' (RetB (p (xs.getD i z0)) w')) :
  Calls Tryz.prog 115 #[v, .func (.func 114) #[] #[k0]] w (fun e w' => ∃ r : Int, e = .returned (.int .i64 r) ∧ decide (0 ≤ r) = xs.any p ∧ Below w.heap.size w w') := by
 have hmx := h.max
 have HL := As h
 obtain ⟨A, c, rfl, _, _⟩ := h
 have HB := As (Below.refl w.heap.size w)
 have HFN := As hf
 clear hf
 go_enter Tryz.func115, Tryz.ntmps115
 go_wp2
 go_loopw [8] (fun v8 wr => ∃ i : Nat, v8 = .int .i64 i ∧ i ≤ xs.length ∧ Aside0 (∀ j, j < i → p (xs.getD j z0) = false) ∧ Aside0 (Below w.heap.size w wr)) (fun v8 _ => xs.length - (intOf v8).toNat)
 case atStart => exact ⟨0, rfl, Nat.zero_le _, ⟨fun j hj => absurd hj (Nat.not_lt_zero _)⟩, HB⟩
 case round =>
  clear HB
  obtain ⟨i, rfl, hi, HK, HB⟩ := hrel
  by_cases hlt : i < xs.length
  ·have hlb : decide ((i : Int) < (xs.length : Int)) = true := decide_eq_true (by omega)
   obtain ⟨b, o, A1, c1, rfl, p0, p1, p2, hkid⟩ := (HL.out.below HB.out).at i hlt
   have HK2 := As hkid
   have HFi := As (HFN.out i hlt)
   obtain ⟨y, hy⟩ : ∃ y, xs.getD i z0 = y := ⟨_, rfl⟩
   have HYY := As hy
   rw [hy] at p0 p1 p2 HK2 HFi
   clear hkid hy
   go_wp2_with fail
   with_reducible refine (HFi.out _ _ HB.out HK2.out).mono ?_
   rintro e w3 ⟨rfl, hb⟩
   have HB3 := As (below_step HB.out hb)
   obtain ⟨q, hq⟩ : ∃ q, p y = q := ⟨_, rfl⟩
   have HQ := As hq
   rw [hq]
   clear hb hq
   cases q with
   | true =>
    have hA := As (show xs.any p = true by
     rw [List.any_eq_true]
     refine ⟨y, ?_, HQ.out⟩
     rw [← HYY.out, List.getD_eq_getElem?_getD, List.getElem?_eq_getElem hlt]
     exact List.getElem_mem hlt)
    go_wp2
    go_ret
    exact ⟨(i : Int), rfl, by rw [hA.out]; exact decide_eq_true (by omega), HB3.out⟩
   | false =>
    go_wp2
    go_roundw
    case rel => exact ⟨i + 1, by go_num, by omega, ⟨fun j hj => by rcases Nat.lt_or_ge j i with h | h; exact HK.out j h; rw [show j = i by omega, HYY.out]; exact HQ.out⟩, HB3⟩
    case measure => simp [intOf]; omega
  ·have hlb : decide ((i : Int) < (xs.length : Int)) = false := decide_eq_false (by omega)
   have hA := As (show xs.any p = false by
    rw [List.any_eq_false]
    intro y hy
    obtain ⟨j, hj, rfl⟩ := List.mem_iff_getElem.1 hy
    have h1 := HK.out j (by omega)
    rw [List.getD_eq_getElem?_getD, List.getElem?_eq_getElem hj] at h1
    simpa using h1)
   go_wp2
   go_ret
   exact ⟨-1, rfl, by rw [hA.out]; decide, HB.out⟩
set_option maxHeartbeats 1000000 in
theorem contains_mentions (p : Tr → Bool) (ok : Nat → Prop) (v : Value) (k0 : Value) (xs : List Tr) (w : World) (h : LTr 25 w ok v xs)
  (hf : ∀ i, i < xs.length → ∀ (v' : Value) (w' : World), Below w.heap.size w w' → ITr 25 w' ok v' (xs.getD i z0) → Calls Tryz.prog 114 #[v', k0] w' (RetB (p (xs.getD i z0)) w')) :
  Calls Tryz.prog 94 #[v, .func (.func 114) #[] #[k0]] w (RetB (xs.any p) w) := by
 have H := As h
 have HFN := As hf
 clear h hf
 go_enter Tryz.func94, Tryz.ntmps94
 go_wp2_with fail
 with_reducible refine (index_mentions p ok _ k0 xs _ H.out HFN.out).mono ?_
 rintro e w3 ⟨r, rfl, hr, hb⟩
 have HB := As hb
 have HR := As hr.symm
 clear hb hr
 go_wp2
 go_ret
 exact RetB.mk HR.out HB.out
set_option maxRecDepth 100000 in
set_option maxHeartbeats 2000000 in
theorem index_has (p : Tr → Bool) (ok : Nat → Prop) (v : Value) (k0 k1 : Value) (xs : List Tr) (w : World) (h : LTr 28 w ok v xs)
  (hf : ∀ i, i < xs.length → ∀ (v' : Value) (w' : World), Below w.heap.size w w' → ITr 28 w' ok v' (xs.getD i z0) → Calls Tryz.prog 40 #[v', k0, k1] w' (RetB (p (xs.getD i z0)) w')) :
  Calls Tryz.prog 72 #[v, .func (.func 40) #[] #[k0, k1]] w (fun e w' => ∃ r : Int, e = .returned (.int .i64 r) ∧ decide (0 ≤ r) = xs.any p ∧ Below w.heap.size w w') := by
 have hmx := h.max
 have HL := As h
 obtain ⟨A, c, rfl, _, _⟩ := h
 have HB := As (Below.refl w.heap.size w)
 have HFN := As hf
 clear hf
 go_enter Tryz.func72, Tryz.ntmps72
 go_wp2
 go_loopw [8] (fun v8 wr => ∃ i : Nat, v8 = .int .i64 i ∧ i ≤ xs.length ∧ Aside0 (∀ j, j < i → p (xs.getD j z0) = false) ∧ Aside0 (Below w.heap.size w wr)) (fun v8 _ => xs.length - (intOf v8).toNat)
 case atStart => exact ⟨0, rfl, Nat.zero_le _, ⟨fun j hj => absurd hj (Nat.not_lt_zero _)⟩, HB⟩
 case round =>
  clear HB
  obtain ⟨i, rfl, hi, HK, HB⟩ := hrel
  by_cases hlt : i < xs.length
  ·have hlb : decide ((i : Int) < (xs.length : Int)) = true := decide_eq_true (by omega)
   obtain ⟨b, o, A1, c1, rfl, p0, p1, p2, hkid⟩ := (HL.out.below HB.out).at i hlt
   have HK2 := As hkid
   have HFi := As (HFN.out i hlt)
   obtain ⟨y, hy⟩ : ∃ y, xs.getD i z0 = y := ⟨_, rfl⟩
   have HYY := As hy
   rw [hy] at p0 p1 p2 HK2 HFi
   clear hkid hy
   go_wp2_with fail
   with_reducible refine (HFi.out _ _ HB.out HK2.out).mono ?_
   rintro e w3 ⟨rfl, hb⟩
   have HB3 := As (below_step HB.out hb)
   obtain ⟨q, hq⟩ : ∃ q, p y = q := ⟨_, rfl⟩
   have HQ := As hq
   rw [hq]
   clear hb hq
   cases q with
   | true =>
    have hA := As (show xs.any p = true by
     rw [List.any_eq_true]
     refine ⟨y, ?_, HQ.out⟩
     rw [← HYY.out, List.getD_eq_getElem?_getD, List.getElem?_eq_getElem hlt]
     exact List.getElem_mem hlt)
    go_wp2
    go_ret
    exact ⟨(i : Int), rfl, by rw [hA.out]; exact decide_eq_true (by omega), HB3.out⟩
   | false =>
    go_wp2
    go_roundw
    case rel => exact ⟨i + 1, by go_num, by omega, ⟨fun j hj => by rcases Nat.lt_or_ge j i with h | h; exact HK.out j h; rw [show j = i by omega, HYY.out]; exact HQ.out⟩, HB3⟩
    case measure => simp [intOf]; omega
  ·have hlb : decide ((i : Int) < (xs.length : Int)) = false := decide_eq_false (by omega)
   have hA := As (show xs.any p = false by
    rw [List.any_eq_false]
    intro y hy
    obtain ⟨j, hj, rfl⟩ := List.mem_iff_getElem.1 hy
    have h1 := HK.out j (by omega)
    rw [List.getD_eq_getElem?_getD, List.getElem?_eq_getElem hj] at h1
    simpa using h1)
   go_wp2
   go_ret
   exact ⟨-1, rfl, by rw [hA.out]; decide, HB.out⟩
set_option maxHeartbeats 1000000 in
theorem contains_has (p : Tr → Bool) (ok : Nat → Prop) (v : Value) (k0 k1 : Value) (xs : List Tr) (w : World) (h : LTr 28 w ok v xs)
  (hf : ∀ i, i < xs.length → ∀ (v' : Value) (w' : World), Below w.heap.size w w' → ITr 28 w' ok v' (xs.getD i z0) → Calls Tryz.prog 40 #[v', k0, k1] w' (RetB (p (xs.getD i z0)) w')) :
  Calls Tryz.prog 39 #[v, .func (.func 40) #[] #[k0, k1]] w (RetB (xs.any p) w) := by
 have H := As h
 have HFN := As hf
 clear h hf
 go_enter Tryz.func39, Tryz.ntmps39
 go_wp2_with fail
 with_reducible refine (index_has p ok _ k0 k1 xs _ H.out HFN.out).mono ?_
 rintro e w3 ⟨r, rfl, hr, hb⟩
 have HB := As hb
 have HR := As hr.symm
 clear hb hr
 go_wp2
 go_ret
 exact RetB.mk HR.out HB.out
/-
  The contract of core.mentions.
-/
mutual
/-- The data type d occurs. -/
def Tr.ment (d : Int) : Tr → Bool
 | ⟨k, n, l⟩ => ((k == 5) && (n == d)) || mentl d l
def mentl (d : Int) : List Tr → Bool
 | [] => false
 | x :: xs => x.ment d || mentl d xs
end
theorem mentl_any (d : Int) : ∀ l : List Tr, mentl d l = l.any (Tr.ment d)
 | [] => by rw [mentl]; rfl
 | x :: xs => by rw [mentl, mentl_any d xs]; rfl
theorem Tr.ment_eq (d : Int) (x : Tr) : x.ment d = (((x.k == 5) && (x.n == d)) || x.l.any (Tr.ment d)) := by
 cases x
 rw [Tr.ment, mentl_any]
set_option maxRecDepth 100000 in
set_option maxHeartbeats 4000000 in
theorem ment_val (N : Nat) : ∀ (x : Tr) (d : Int) (ok : Nat → Prop) (v : Value) (w : World), x.sz ≤ N → ITr 25 w ok v x →
    Calls Tryz.prog 93 #[v, .int .i64 d] w (RetB (x.ment d) w) := by
  induction N with
  | zero => intro x d ok v w h; have := x.sz_eq; omega
  | succ N ih =>
    intro x d ok v w hN hx
    obtain ⟨A, c, rfl⟩ := hx.shape
    have IH := As ih
    have HN := As hN
    obtain ⟨W1, hW1⟩ : ∃ W1, w.alloc (.cells #[.int .i64 x.k, .int .i64 x.n, .slice A x.l.length c] 25) = W1 := ⟨_, rfl⟩
    obtain ⟨W2, hW2⟩ : ∃ W2, W1.alloc (.cells #[.int .i64 d] 3) = W2 := ⟨_, rfl⟩
    have hWW : (w.alloc (.cells #[.int .i64 x.k, .int .i64 x.n, .slice A x.l.length c] 25)).alloc (.cells #[.int .i64 d] 3) = W2 := by rw [hW1]; exact hW2
    have hs1 : W1.heap.size = w.heap.size + 1 := by rw [← hW1]; show (w.heap.push _).size = _; simp
    have hb1 : Below w.heap.size w W1 := by rw [← hW1]; exact below_alloc (Below.refl _ _) _
    have hb12 : Below W1.heap.size W1 W2 := by rw [← hW2]; exact below_alloc (Below.refl _ _) _
    have hg1 : W1.heap[w.heap.size]? = some (.cells #[.int .i64 x.k, .int .i64 x.n, .slice A x.l.length c] 25 (0, 0)) := by rw [← hW1]; exact heap_alloc_new _ _
    have hg2 : W2.heap[w.heap.size + 1]? = some (.cells #[.int .i64 d] 3 (0, 0)) := by rw [← hs1, ← hW2]; exact heap_alloc_new _ _
    have hgp := blk_below hg1 hb12
    have b0 : W2.cell? ⟨w.heap.size, 0, none⟩ = some (.int .i64 x.k) := (blk_cell hgp 0).trans rfl
    have b1 : W2.cell? ⟨w.heap.size, 1, none⟩ = some (.int .i64 x.n) := (blk_cell hgp 1).trans rfl
    have b2 : W2.cell? ⟨w.heap.size, 2, none⟩ = some (.slice A x.l.length c) := (blk_cell hgp 2).trans rfl
    have b3 : W2.cell? ⟨w.heap.size + 1, 0, none⟩ = some (.int .i64 d) := (blk_cell hg2 0).trans rfl
    have HWW := As hWW
    have HB2 := As (below_step hb1 hb12)
    have HG2 := As hg2
    have HL2 := As ((hx.kids.2.2.2.below hb1).below hb12)
    have HCL := As (show ∀ i, i < x.l.length → ∀ (v' : Value) (w' : World), Below W2.heap.size W2 w' → ITr 25 w' ok v' (x.l.getD i z0) → Calls Tryz.prog 114 #[v', .pointer (some ⟨w.heap.size + 1, 0, none⟩)] w' (RetB (Tr.ment d (x.l.getD i z0)) w') from fun i hi v' w' hb hy => by
      have hyn : (x.l.getD i z0).sz ≤ N := by have := kid_sz hi; have := HN.out; omega
      obtain ⟨y, hyy⟩ : ∃ y, x.l.getD i z0 = y := ⟨_, rfl⟩
      rw [hyy] at hy hyn ⊢
      obtain ⟨Ay, cy, rfl⟩ := hy.shape
      have HY := As hy
      have HYN := As hyn
      have hcap : w'.cell? ⟨w.heap.size + 1, 0, none⟩ = some (.int .i64 d) := (blk_cell (blk_below HG2.out hb) 0).trans rfl
      obtain ⟨W5, hW5⟩ : ∃ W5, w'.alloc (.cells #[.int .i64 y.k, .int .i64 y.n, .slice Ay y.l.length cy] 25) = W5 := ⟨_, rfl⟩
      have hb5 : Below w'.heap.size w' W5 := by rw [← hW5]; exact below_alloc (Below.refl _ _) _
      have hg5 : W5.heap[w'.heap.size]? = some (.cells #[.int .i64 y.k, .int .i64 y.n, .slice Ay y.l.length cy] 25 (0, 0)) := by rw [← hW5]; exact heap_alloc_new _ _
      have c0 : W5.cell? ⟨w'.heap.size, 0, none⟩ = some (.int .i64 y.k) := (blk_cell hg5 0).trans rfl
      have c1 : W5.cell? ⟨w'.heap.size, 1, none⟩ = some (.int .i64 y.n) := (blk_cell hg5 1).trans rfl
      have c2 : W5.cell? ⟨w'.heap.size, 2, none⟩ = some (.slice Ay y.l.length cy) := (blk_cell hg5 2).trans rfl
      replace hcap := pw_cell_below hb5 hcap
      have HW5 := As hW5
      have HB5 := As hb5
      have HY5 := As (HY.out.below hb5)
      clear hb hy hyn hb5 hg5 hW5 hyy
      go_enter Tryz.func114, Tryz.ntmps114
      go_upto_region 1 with fail
      rw [HW5.out]
      go_wp2_with fail
      with_reducible refine (IH.out y d ok _ _ HYN.out HY5.out).mono ?_
      rintro e w3 ⟨rfl, hb⟩
      have HB9 := As (below_step HB5.out hb)
      clear hb
      go_wp2
      go_ret
      exact RetB.mk rfl HB9.out)
    have HEQ := As (x.ment_eq d)
    clear ih hN hW1 hW2 hWW hs1 hb1 hb12 hg1 hg2 hgp hx
    obtain ⟨a1, ha1⟩ : ∃ a1, (x.k == 5) = a1 := ⟨_, rfl⟩
    obtain ⟨a2, ha2⟩ : ∃ a2, (x.n == d) = a2 := ⟨_, rfl⟩
    rw [ha1, ha2] at HEQ
    obtain ⟨an, han⟩ : ∃ an, x.l.any (Tr.ment d) = an := ⟨_, rfl⟩
    have HAN := As han
    rw [han] at HEQ
    clear han
    cases a1 <;> cases a2
    all_goals
      (go_enter Tryz.func93, Tryz.ntmps93
       go_upto_region 1 with fail
       rw [HWW.out]
       try (go_wp2_with fail
            with_reducible refine (contains_mentions (Tr.ment d) ok _ _ x.l _ HL2.out HCL.out).mono ?_
            rintro e w3 ⟨rfl, hb⟩
            have HB2 := As (below_step HB2.out hb)
            rw [HAN.out]
            clear hb)
       go_wp2
       go_ret
       exact RetB.mk (by rw [HEQ.out]; simp) HB2.out)
/-
  The contracts of typing.valid and typing.Valid.
-/
/-- A type's head is valid: its kind, its number, how many arguments it has. -/
def hdB (ds : List Dt) (vars k n : Int) (len : Nat) : Bool :=
 if k = 1 ∨ k = 2 ∨ k = 3 then (n == 0) && decide (len = 0)
 else if k = 4 then decide (0 ≤ n) && decide (n < vars) && decide (len = 0)
 else if k = 5 then decide (0 ≤ n) && decide (n < (ds.length : Int)) && decide ((len : Int) = (ds.getD n.toNat d0).n)
 else if k = 6 then (n == 0) && decide (2 ≤ len) && decide (len ≤ 6)
 else if k = 7 ∨ k = 8 then (n == 0) && decide (len = 1)
 else if k = 9 then (n == 0) && decide (1 ≤ len) && decide (len ≤ 7)
 else false
mutual
def Tr.vld (ds : List Dt) (vars : Int) : Tr → Bool
 | ⟨k, n, l⟩ => hdB ds vars k n l.length && vldl ds vars l
def vldl (ds : List Dt) (vars : Int) : List Tr → Bool
 | [] => true
 | x :: xs => x.vld ds vars && vldl ds vars xs
end
theorem vldl_all (ds : List Dt) (vars : Int) : ∀ l : List Tr, vldl ds vars l = l.all (Tr.vld ds vars)
 | [] => by rw [vldl]; rfl
 | x :: xs => by rw [vldl, vldl_all ds vars xs]; rfl
theorem Tr.vld_eq (ds : List Dt) (vars : Int) (x : Tr) : x.vld ds vars = (hdB ds vars x.k x.n x.l.length && !(x.l.any (fun y => !(y.vld ds vars)))) := by
 cases x with
 | mk k n l =>
  rw [Tr.vld, vldl_all]
  congr 1
  simp [List.all_eq_not_any_not]
set_option maxRecDepth 100000 in
set_option maxHeartbeats 4000000 in
theorem valid_val (N : Nat) (ds : List Dt) (vars : Int) : ∀ (k n : Int) (l : List Tr) (ok : Nat → Prop) (vd : Value) (A : Option Addr) (c : Nat) (w : World), szl l ≤ N → LDt w ok vd ds → LTr 25 w ok (.slice A l.length c) l →
    Calls Tryz.prog 68 #[vd, .agg #[.int .i64 k, .int .i64 n, .slice A l.length c], .int .i64 vars] w (RetB (Tr.vld ds vars ⟨k, n, l⟩) w) := by
  induction N using Nat.strongRecOn with
  | ind N ih =>
  intro k n l ok vd A c w hN hd hx
  have IH := As ih
  have HNN := As hN
  clear ih hN
  have hmxd := hd.max
  have hmx := hx.max
  have HD := As hd
  obtain ⟨D, dc, rfl, hdc, _⟩ := hd
  obtain ⟨W1, hW1⟩ : ∃ W1, w.alloc (.cells #[.slice D ds.length dc] 22) = W1 := ⟨_, rfl⟩
  obtain ⟨W2, hW2⟩ : ∃ W2, W1.alloc (.cells #[.int .i64 k, .int .i64 n, .slice A l.length c] 25) = W2 := ⟨_, rfl⟩
  obtain ⟨W3, hW3⟩ : ∃ W3, W2.alloc (.cells #[.int .i64 vars] 3) = W3 := ⟨_, rfl⟩
  have hWW : ((w.alloc (.cells #[.slice D ds.length dc] 22)).alloc (.cells #[.int .i64 k, .int .i64 n, .slice A l.length c] 25)).alloc (.cells #[.int .i64 vars] 3) = W3 := by rw [hW1, hW2]; exact hW3
  have hs1 : W1.heap.size = w.heap.size + 1 := by rw [← hW1]; show (w.heap.push _).size = _; simp
  have hs2 : W2.heap.size = w.heap.size + 1 + 1 := by rw [← hW2]; show (W1.heap.push _).size = _; simp; omega
  have hb1 : Below w.heap.size w W1 := by rw [← hW1]; exact below_alloc (Below.refl _ _) _
  have hb12 : Below W1.heap.size W1 W2 := by rw [← hW2]; exact below_alloc (Below.refl _ _) _
  have hb23 : Below W2.heap.size W2 W3 := by rw [← hW3]; exact below_alloc (Below.refl _ _) _
  have hg1 : W1.heap[w.heap.size]? = some (.cells #[.slice D ds.length dc] 22 (0, 0)) := by rw [← hW1]; exact heap_alloc_new _ _
  have hg2 : W2.heap[w.heap.size + 1]? = some (.cells #[.int .i64 k, .int .i64 n, .slice A l.length c] 25 (0, 0)) := by rw [← hs1, ← hW2]; exact heap_alloc_new _ _
  have hg3 : W3.heap[w.heap.size + 1 + 1]? = some (.cells #[.int .i64 vars] 3 (0, 0)) := by rw [← hs2, ← hW3]; exact heap_alloc_new _ _
  have hG1 := blk_below hg1 (below_step hb12 hb23)
  have hG2 := blk_below hg2 hb23
  have a0 : W3.cell? ⟨w.heap.size, 0, none⟩ = some (.slice D ds.length dc) := (blk_cell hG1 0).trans rfl
  have b0 : W3.cell? ⟨w.heap.size + 1, 0, none⟩ = some (.int .i64 k) := (blk_cell hG2 0).trans rfl
  have b1 : W3.cell? ⟨w.heap.size + 1, 1, none⟩ = some (.int .i64 n) := (blk_cell hG2 1).trans rfl
  have b2 : W3.cell? ⟨w.heap.size + 1, 2, none⟩ = some (.slice A l.length c) := (blk_cell hG2 2).trans rfl
  have c0 : W3.cell? ⟨w.heap.size + 1 + 1, 0, none⟩ = some (.int .i64 vars) := (blk_cell hg3 0).trans rfl
  have HWW := As hWW
  have HB3 := As (below_step (below_step hb1 hb12) hb23)
  have HG1 := As hG1
  have HG3 := As hg3
  clear hWW hW1 hW2 hW3 hs1 hs2 hb1 hb12 hb23 hg1 hg2 hg3 hG1 hG2
  go_enter Tryz.func68, Tryz.ntmps68
  go_upto_region 1 with fail
  rw [HWW.out]
  go_quiet (fail)
  obtain ⟨W4, hW4⟩ : ∃ W4, W3.drewN nq = W4 := ⟨_, rfl⟩
  have hb4 : Below W3.heap.size W3 W4 := by rw [← hW4]; exact pw_below_drewN (Below.refl _ _) _
  replace a0 := pw_cell_below hb4 a0
  replace b0 := pw_cell_below hb4 b0
  replace b1 := pw_cell_below hb4 b1
  replace b2 := pw_cell_below hb4 b2
  replace c0 := pw_cell_below hb4 c0
  have HB4 := As (below_step HB3.out hb4)
  have HG1d := As (blk_below HG1.out hb4)
  have HG3d := As (blk_below HG3.out hb4)
  have HW4 := As hW4
  clear hW4 hb4
  go_upto_region 2 with fail
  rw [HW4.out]
  go_upto_block 0 with fail
  go_cut [8, 9, 10] from 19 to 65 (fun v8 v9 v10 wx => ∃ (lo hi : Int) (num : Bool), v8 = .int .i64 lo ∧ v9 = .int .i64 hi ∧ v10 = .bool num ∧ Aside0 (hdB ds vars k n l.length = (num && decide (lo ≤ (l.length : Int)) && decide ((l.length : Int) ≤ hi))) ∧ Aside0 (Below W4.heap.size W4 wx))
  case first =>
    by_cases h1 : k = 1
    · subst h1
      have HH := As (show hdB ds vars 1 n l.length = ((n == 0) && decide ((0 : Int) ≤ (l.length : Int)) && decide ((l.length : Int) ≤ 0)) by
        unfold hdB
        rw [if_pos (by decide), decide_eq_true (show (0 : Int) ≤ (l.length : Int) by omega), Bool.and_true]
        congr 1
        exact decide_eq_decide.2 (by omega))
      go_wp2
      go_meet
      case rel => exact ⟨0, 0, _, rfl, rfl, rfl, HH, ⟨Below.refl _ _⟩⟩
    by_cases h2 : k = 2
    · subst h2
      have HH := As (show hdB ds vars 2 n l.length = ((n == 0) && decide ((0 : Int) ≤ (l.length : Int)) && decide ((l.length : Int) ≤ 0)) by
        unfold hdB
        rw [if_pos (by decide), decide_eq_true (show (0 : Int) ≤ (l.length : Int) by omega), Bool.and_true]
        congr 1
        exact decide_eq_decide.2 (by omega))
      clear h1
      go_wp2
      go_meet
      case rel => exact ⟨0, 0, _, rfl, rfl, rfl, HH, ⟨Below.refl _ _⟩⟩
    by_cases h3 : k = 3
    · subst h3
      have HH := As (show hdB ds vars 3 n l.length = ((n == 0) && decide ((0 : Int) ≤ (l.length : Int)) && decide ((l.length : Int) ≤ 0)) by
        unfold hdB
        rw [if_pos (by decide), decide_eq_true (show (0 : Int) ≤ (l.length : Int) by omega), Bool.and_true]
        congr 1
        exact decide_eq_decide.2 (by omega))
      clear h1 h2
      go_wp2
      go_meet
      case rel => exact ⟨0, 0, _, rfl, rfl, rfl, HH, ⟨Below.refl _ _⟩⟩
    by_cases h4 : k = 4
    · subst h4
      clear h1 h2 h3
      obtain ⟨e2, he2⟩ : ∃ e2, decide (n < vars) = e2 := ⟨_, rfl⟩
      have HH := As (show hdB ds vars 4 n l.length = ((decide (0 ≤ n) && e2) && decide ((0 : Int) ≤ (l.length : Int)) && decide ((l.length : Int) ≤ 0)) by
        unfold hdB
        rw [if_neg (by decide), if_pos (by decide), decide_eq_true (show (0 : Int) ≤ (l.length : Int) by omega), Bool.and_true, he2]
        congr 1
        exact decide_eq_decide.2 (by omega))
      by_cases hn : 0 ≤ n
      · have e1 : decide (0 ≤ n) = true := decide_eq_true hn
        rw [e1, Bool.true_and] at HH
        go_wp2
        go_meet
        case rel => exact ⟨0, 0, _, rfl, rfl, rfl, HH, ⟨Below.refl _ _⟩⟩
      · have e1 : decide (0 ≤ n) = false := decide_eq_false hn
        rw [e1, Bool.false_and] at HH
        go_wp2
        go_meet
        case rel => exact ⟨0, 0, _, rfl, rfl, rfl, HH, ⟨Below.refl _ _⟩⟩
    by_cases h5 : k = 5
    · subst h5
      clear h1 h2 h3 h4
      by_cases hn : 0 ≤ n
      · obtain ⟨m, rfl⟩ := Int.eq_ofNat_of_zero_le hn
        by_cases hm : m < ds.length
        · have e2 : decide ((m : Int) < (ds.length : Int)) = true := decide_eq_true (by omega)
          obtain ⟨tb, ty, A1, c1, rfl, p0, p1, p2, _⟩ := ((HD.out.below HB4.out)).at m hm
          obtain ⟨dn, hdn⟩ : ∃ dn, (ds.getD m d0).n = dn := ⟨_, rfl⟩
          rw [hdn] at p1
          have HH := As (show hdB ds vars 5 (m : Int) l.length = (true && decide (dn ≤ (l.length : Int)) && decide ((l.length : Int) ≤ dn)) by
            unfold hdB
            rw [if_neg (by decide), if_neg (by decide), if_pos (by decide), decide_eq_true (show 0 ≤ (m : Int) by omega), e2, Int.toNat_natCast, hdn, Bool.true_and, Bool.true_and, Bool.true_and, ← Bool.decide_and]
            exact decide_eq_decide.2 (by omega))
          clear hdn
          go_upto_region 12 with fail
          go_quiet (fail)
          go_wp2
          go_meet
          case rel => exact ⟨dn, dn, _, rfl, rfl, rfl, HH, ⟨pw_below_drewN (Below.refl _ _) _⟩⟩
        · have e2 : decide ((m : Int) < (ds.length : Int)) = false := decide_eq_false (by omega)
          have HH := As (show hdB ds vars 5 (m : Int) l.length = (false && decide ((0 : Int) ≤ (l.length : Int)) && decide ((l.length : Int) ≤ 0)) by
            unfold hdB
            rw [if_neg (by decide), if_neg (by decide), if_pos (by decide), e2, Bool.and_false, Bool.false_and]
            rfl)
          go_wp2
          go_meet
          case rel => exact ⟨0, 0, _, rfl, rfl, rfl, HH, ⟨Below.refl _ _⟩⟩
      · have e1 : decide (0 ≤ n) = false := decide_eq_false hn
        have HH := As (show hdB ds vars 5 n l.length = (false && decide ((0 : Int) ≤ (l.length : Int)) && decide ((l.length : Int) ≤ 0)) by
          unfold hdB
          rw [if_neg (by decide), if_neg (by decide), if_pos (by decide), e1, Bool.false_and, Bool.false_and]
          rfl)
        go_wp2
        go_meet
        case rel => exact ⟨0, 0, _, rfl, rfl, rfl, HH, ⟨Below.refl _ _⟩⟩
    by_cases h6 : k = 6
    · subst h6
      have HH := As (show hdB ds vars 6 n l.length = ((n == 0) && decide ((2 : Int) ≤ (l.length : Int)) && decide ((l.length : Int) ≤ 6)) by
        unfold hdB
        rw [if_neg (by decide), if_neg (by decide), if_neg (by decide), if_pos (by decide)]
        congr 1
        · congr 1
          exact decide_eq_decide.2 (by omega)
        · exact decide_eq_decide.2 (by omega))
      clear h1 h2 h3 h4 h5
      go_wp2
      go_meet
      case rel => exact ⟨2, 6, _, rfl, rfl, rfl, HH, ⟨Below.refl _ _⟩⟩
    by_cases h7 : k = 7
    · subst h7
      have HH := As (show hdB ds vars 7 n l.length = ((n == 0) && decide ((1 : Int) ≤ (l.length : Int)) && decide ((l.length : Int) ≤ 1)) by
        unfold hdB
        rw [if_neg (by decide), if_neg (by decide), if_neg (by decide), if_neg (by decide), if_pos (by decide), Bool.and_assoc]
        congr 1
        rw [← Bool.decide_and]
        exact decide_eq_decide.2 (by omega))
      clear h1 h2 h3 h4 h5 h6
      go_wp2
      go_meet
      case rel => exact ⟨1, 1, _, rfl, rfl, rfl, HH, ⟨Below.refl _ _⟩⟩
    by_cases h8 : k = 8
    · subst h8
      have HH := As (show hdB ds vars 8 n l.length = ((n == 0) && decide ((1 : Int) ≤ (l.length : Int)) && decide ((l.length : Int) ≤ 1)) by
        unfold hdB
        rw [if_neg (by decide), if_neg (by decide), if_neg (by decide), if_neg (by decide), if_pos (by decide), Bool.and_assoc]
        congr 1
        rw [← Bool.decide_and]
        exact decide_eq_decide.2 (by omega))
      clear h1 h2 h3 h4 h5 h6 h7
      go_wp2
      go_meet
      case rel => exact ⟨1, 1, _, rfl, rfl, rfl, HH, ⟨Below.refl _ _⟩⟩
    by_cases h9 : k = 9
    · subst h9
      have HH := As (show hdB ds vars 9 n l.length = ((n == 0) && decide ((1 : Int) ≤ (l.length : Int)) && decide ((l.length : Int) ≤ 7)) by
        unfold hdB
        rw [if_neg (by decide), if_neg (by decide), if_neg (by decide), if_neg (by decide), if_neg (by decide), if_pos (by decide)]
        congr 1
        · congr 1
          exact decide_eq_decide.2 (by omega)
        · exact decide_eq_decide.2 (by omega))
      clear h1 h2 h3 h4 h5 h6 h7 h8
      go_wp2
      go_meet
      case rel => exact ⟨1, 7, _, rfl, rfl, rfl, HH, ⟨Below.refl _ _⟩⟩
    have hk1 : (k == 1) = false := beq_eq_false_iff_ne.2 h1
    have hk2 : (k == 2) = false := beq_eq_false_iff_ne.2 h2
    have hk3 : (k == 3) = false := beq_eq_false_iff_ne.2 h3
    have hk4 : (k == 4) = false := beq_eq_false_iff_ne.2 h4
    have hk5 : (k == 5) = false := beq_eq_false_iff_ne.2 h5
    have hk6 : (k == 6) = false := beq_eq_false_iff_ne.2 h6
    have hk7 : (k == 7) = false := beq_eq_false_iff_ne.2 h7
    have hk8 : (k == 8) = false := beq_eq_false_iff_ne.2 h8
    have hk9 : (k == 9) = false := beq_eq_false_iff_ne.2 h9
    have HF := As (show Tr.vld ds vars ⟨k, n, l⟩ = false by
      rw [Tr.vld_eq]
      show (hdB ds vars k n l.length && _) = false
      unfold hdB
      rw [if_neg (by omega), if_neg h4, if_neg h5, if_neg h6, if_neg (by omega), if_neg h9, Bool.false_and])
    clear h1 h2 h3 h4 h5 h6 h7 h8 h9
    go_wp2
    go_ret
    exact RetB.mk HF.out HB4.out
  case rest =>
    obtain ⟨lo, hi, num, rfl, rfl, rfl, HH, HC⟩ := hcut
    have HBc := As (below_step HB4.out HC.out)
    have HG1c := As (blk_below HG1d.out HC.out)
    have HG3c := As (blk_below HG3d.out HC.out)
    have HLc := As ((hx.below HB4.out).below HC.out)
    have HDc := As ((HD.out.below HB4.out).below HC.out)
    replace b2 := pw_cell_below HC.out b2
    have HCL := As (show ∀ i, i < l.length → ∀ (v' : Value) (w' : World), Below wc.heap.size wc w' → ITr 25 w' ok v' (l.getD i z0) → Calls Tryz.prog 107 #[v', .pointer (some ⟨w.heap.size, 0, none⟩), .pointer (some ⟨w.heap.size + 1 + 1, 0, none⟩)] w' (RetB (!(Tr.vld ds vars (l.getD i z0))) w') from fun i hi v' w' hb hy => by
      have hyn : szl (l.getD i z0).l < N := by have := sz_getD hi; have := (l.getD i z0).sz_eq; have := HNN.out; omega
      obtain ⟨y, hyy⟩ : ∃ y, l.getD i z0 = y := ⟨_, rfl⟩
      rw [hyy] at hy hyn ⊢
      obtain ⟨Ay, cy, rfl⟩ := hy.shape
      have HY := As hy
      have HYN := As hyn
      have hc1 : w'.cell? ⟨w.heap.size, 0, none⟩ = some (.slice D ds.length dc) := (blk_cell (blk_below HG1c.out hb) 0).trans rfl
      have hc3 : w'.cell? ⟨w.heap.size + 1 + 1, 0, none⟩ = some (.int .i64 vars) := (blk_cell (blk_below HG3c.out hb) 0).trans rfl
      obtain ⟨W5, hW5⟩ : ∃ W5, w'.alloc (.cells #[.int .i64 y.k, .int .i64 y.n, .slice Ay y.l.length cy] 25) = W5 := ⟨_, rfl⟩
      have hb5 : Below w'.heap.size w' W5 := by rw [← hW5]; exact below_alloc (Below.refl _ _) _
      have hg5 : W5.heap[w'.heap.size]? = some (.cells #[.int .i64 y.k, .int .i64 y.n, .slice Ay y.l.length cy] 25 (0, 0)) := by rw [← hW5]; exact heap_alloc_new _ _
      have y0 : W5.cell? ⟨w'.heap.size, 0, none⟩ = some (.int .i64 y.k) := (blk_cell hg5 0).trans rfl
      have y1 : W5.cell? ⟨w'.heap.size, 1, none⟩ = some (.int .i64 y.n) := (blk_cell hg5 1).trans rfl
      have y2 : W5.cell? ⟨w'.heap.size, 2, none⟩ = some (.slice Ay y.l.length cy) := (blk_cell hg5 2).trans rfl
      replace hc1 := pw_cell_below hb5 hc1
      replace hc3 := pw_cell_below hb5 hc3
      have HW5 := As hW5
      have HB5 := As hb5
      have HY5 := As ((HY.out.kids.2.2.2).below hb5)
      have HD5 := As ((HDc.out.below hb).below hb5)
      clear hb hy hyn hb5 hg5 hW5 hyy a0 b0 b1 b2 c0 hx
      go_enter Tryz.func107, Tryz.ntmps107
      go_upto_region 1 with fail
      rw [HW5.out]
      go_wp2_with fail
      with_reducible refine (IH.out (szl y.l) HYN.out y.k y.n y.l ok _ _ _ _ (Nat.le_refl _) HD5.out HY5.out).mono ?_
      rintro e w3 ⟨rfl, hb⟩
      have HB9 := As (below_step HB5.out hb)
      clear hb
      go_wp2
      go_ret
      exact RetB.mk (by cases y; rfl) HB9.out)
    have HEQ := As (show Tr.vld ds vars ⟨k, n, l⟩ = ((num && decide (lo ≤ (l.length : Int)) && decide ((l.length : Int) ≤ hi)) && !(l.any (fun y => !(y.vld ds vars)))) by rw [Tr.vld_eq]; show (hdB ds vars k n l.length && _) = _; rw [HH.out])
    obtain ⟨an, han⟩ : ∃ an, l.any (fun y => !(y.vld ds vars)) = an := ⟨_, rfl⟩
    have HAN := As han
    rw [han] at HEQ
    obtain ⟨e1, he1⟩ : ∃ e1, decide (lo ≤ (l.length : Int)) = e1 := ⟨_, rfl⟩
    obtain ⟨e2, he2⟩ : ∃ e2, decide ((l.length : Int) ≤ hi) = e2 := ⟨_, rfl⟩
    rw [he1, he2] at HEQ
    clear han a0 b0 b1 c0 hx
    cases num <;> cases e1 <;> cases e2
    all_goals
      (try (go_wp2_with fail
            with_reducible refine (contains_valid (fun y => !(y.vld ds vars)) ok _ _ _ l _ HLc.out HCL.out).mono ?_
            rintro e w3 ⟨rfl, hb⟩
            have HBc := As (below_step HBc.out hb)
            rw [HAN.out]
            clear hb)
       go_wp2
       go_ret
       exact RetB.mk (by rw [HEQ.out]; simp) HBc.out)
/-- Valid -/
theorem valid_ty (ds : List Dt) (vars : Int) (x : Tr) (ok : Nat → Prop) (vd v : Value) (w : World) (hd : LDt w ok vd ds) (hx : ITr 25 w ok v x) :
  Calls Tryz.prog 68 #[vd, v, .int .i64 vars] w (RetB (x.vld ds vars) w) := by
 obtain ⟨A, c, rfl⟩ := hx.shape
 have h := valid_val (szl x.l) ds vars x.k x.n x.l ok vd A c w (Nat.le_refl _) hd hx.kids.2.2.2
 cases x
 exact h
def Tr.ok (ds : List Dt) (vars : Int) (x : Tr) : Bool := decide (x.sz ≤ 200) && x.vld ds vars
set_option maxRecDepth 100000 in
set_option maxHeartbeats 2000000 in
theorem Valid_ty (ds : List Dt) (vars : Int) (x : Tr) (ok : Nat → Prop) (vd v : Value) (w : World) (hd : LDt w ok vd ds) (hx : ITr 25 w ok v x) :
  Calls Tryz.prog 36 #[vd, v, .int .i64 vars] w (RetB (x.ok ds vars) w) := by
 obtain ⟨A, c, rfl⟩ := hx.shape
 obtain ⟨W1, hW1⟩ : ∃ W1, w.alloc (.cells #[.int .i64 x.k, .int .i64 x.n, .slice A x.l.length c] 25) = W1 := ⟨_, rfl⟩
 have hb1 : Below w.heap.size w W1 := by rw [← hW1]; exact below_alloc (Below.refl _ _) _
 have hg1 : W1.heap[w.heap.size]? = some (.cells #[.int .i64 x.k, .int .i64 x.n, .slice A x.l.length c] 25 (0, 0)) := by rw [← hW1]; exact heap_alloc_new _ _
 have y0 : W1.cell? ⟨w.heap.size, 0, none⟩ = some (.int .i64 x.k) := (blk_cell hg1 0).trans rfl
 have y1 : W1.cell? ⟨w.heap.size, 1, none⟩ = some (.int .i64 x.n) := (blk_cell hg1 1).trans rfl
 have y2 : W1.cell? ⟨w.heap.size, 2, none⟩ = some (.slice A x.l.length c) := (blk_cell hg1 2).trans rfl
 have HW1 := As hW1
 have HB1 := As hb1
 have HX1 := As (hx.below hb1)
 have HD1 := As (hd.below hb1)
 have HG1 := As hg1
 clear hW1 hb1 hg1 hx hd
 go_enter Tryz.func36, Tryz.ntmps36
 go_upto_region 1 with fail
 rw [HW1.out]
 go_wp2_with fail
 with_reducible refine (size_lit x ok _ _ HX1.out).mono ?_
 rintro e w2 ⟨rfl, hb⟩
 have HB2 := As (below_step HB1.out hb)
 have HX2 := As (HX1.out.below hb)
 have HD2 := As (HD1.out.below hb)
 replace y0 := pw_cell_below hb y0
 replace y1 := pw_cell_below hb y1
 replace y2 := pw_cell_below hb y2
 obtain ⟨r, hr⟩ : ∃ r, min x.sz 201 = r := ⟨_, rfl⟩
 rw [hr]
 clear hb
 by_cases hs : r ≤ 200
 ·have hsb : decide ((r : Int) ≤ 200) = true := decide_eq_true (by omega)
  have hsn : decide (r ≤ 200) = true := decide_eq_true hs
  have HEQ := As (show x.ok ds vars = x.vld ds vars by unfold Tr.ok; rw [decide_eq_true (by omega), Bool.true_and])
  clear hr
  go_wp2_with fail
  with_reducible refine (valid_ty ds vars x ok _ _ _ HD2.out HX2.out).mono ?_
  rintro e w3 ⟨rfl, hb⟩
  have HB3 := As (below_step HB2.out hb)
  clear hb
  go_wp2
  go_ret
  exact RetB.mk HEQ.out HB3.out
 ·have hsb : decide ((r : Int) ≤ 200) = false := decide_eq_false (by omega)
  have hsn : decide (r ≤ 200) = false := decide_eq_false hs
  have HEQ := As (show x.ok ds vars = false by unfold Tr.ok; rw [decide_eq_false (by omega), Bool.false_and])
  clear hr
  go_wp2
  go_ret
  exact RetB.mk HEQ.out HB2.out
end Go.Proofs.YtldkcpgnccknpaaGreat
