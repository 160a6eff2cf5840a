/-
  The parts Base, NatA, NatB, NatC, NatD, NatE, NatF: the contracts of the program's functions and the plain laws below them; each part's own remark says which.
-/
import Derived.Test.YtldkcpgnccknpaaGreatProg
import Derived.WalkKit
import Derived.Test.YtldkcpgnccknpaaGreatWShare
import Derived.Test.YtldkcpgnccknpaaGreatWMore
import Derived.Test.YtldkcpgnccknpaaGreatMN
import Derived.Deep.QuietTactic
import Derived.BigQuiet
import Derived.IntWalk
import Derived.RegionTactic
import Derived.ChangeAlike
set_option linter.unusedVariables false
set_option linter.unusedSimpArgs false
/-
  What the walks over this seat's program say of memory: slices of uint32 that are read, with the blocks they lie in; numbers.
-/
namespace Go.Proofs.YtldkcpgnccknpaaGreat
open Go.RowKit Go.Proofs.YtldkcpgnccknpaaGreatW.PrintWords Go.Proofs.YtldkcpgnccknpaaGreatW.PrintMore Num
set_option linter.unusedVariables false
theorem As {p : Prop} (h : p) : Aside0 p := ⟨h⟩
theorem info_u32 : (Tryz.prog.info? 65).map (fun i => (i.zero, i.size, i.bytes)) = some (some (.int .u32 0), 1, 4) := by kernel_rfl
/-- A slice of uint32 that reads as l; what it leads to lies in ok. -/
def U (w : World) (ok : Nat → Prop) (v : Value) (l : List Int) : Prop := ∃ A c, v = .slice A l.length c ∧ l.length ≤ c ∧ Kd.F (Kd.int .u32) w ok A l.length l
/-- A slice of uint32 that the call has made and may write. -/
abbrev Own (w : World) (base : Nat) (v : Value) (l : List Int) : Prop := Kd.R (Kd.int .u32) 65 w base (fun _ => True) v l
/-- A natural number in normal form. -/
def IsNat (w : World) (ok : Nat → Prop) (v : Value) (n : Nat) : Prop := ∃ l, U w ok v l ∧ Nrm l ∧ val l = (n : Int)
section
variable {w w1 : World} {ok ok' : Nat → Prop} {v : Value} {l : List Int} {n : Nat} {A : Option Addr} {c : Nat}
theorem U.mono (h : U w ok v l) (hok : ∀ k, ok k → ok' k) : U w ok' v l := by
 obtain ⟨A, c, e, hc, hF⟩ := h
 exact ⟨A, c, e, hc, Kd.F_mono hF hok⟩
theorem U.step (h : U w ok v l) (hm : ∀ k, ok k → k < w.heap.size → w1.heap[k]? = w.heap[k]?) : U w1 ok v l := by
 obtain ⟨A, c, e, hc, hF⟩ := h
 exact ⟨A, c, e, hc, Kd.F_step hF hm⟩
theorem U.below (h : U w ok v l) (hb : Below w.heap.size w w1) : U w1 ok v l := h.step (fun k _ hlt => hb.block k hlt)
theorem U.bound (h : U w ok v l) : U w (fun k => ok k ∧ k < w.heap.size) v l := by
 obtain ⟨A, c, e, hc, hF⟩ := h
 exact ⟨A, c, e, hc, Kd.F_bound hF⟩
theorem IsNat.mono (h : IsNat w ok v n) (hok : ∀ k, ok k → ok' k) : IsNat w ok' v n := by
 obtain ⟨l, h, hn, hv⟩ := h
 exact ⟨l, h.mono hok, hn, hv⟩
theorem IsNat.step (h : IsNat w ok v n) (hm : ∀ k, ok k → k < w.heap.size → w1.heap[k]? = w.heap[k]?) : IsNat w1 ok v n := by
 obtain ⟨l, h, hn, hv⟩ := h
 exact ⟨l, h.step hm, hn, hv⟩
theorem IsNat.below (h : IsNat w ok v n) (hb : Below w.heap.size w w1) : IsNat w1 ok v n := h.step (fun k _ hlt => hb.block k hlt)
theorem U.max (h : U w ok v l) : l.length ≤ 9223372036854775807 := by
 obtain ⟨A, c, e, hc, hF⟩ := h
 exact Kd.F_max hF
/-- The cell of place i. -/
theorem F_at (h : Kd.F (Kd.int .u32) w ok A l.length l) (i : Nat) (hi : i < l.length) : ∃ ad, A = some ad ∧ w.cell? (ad.add i) = some (.int .u32 (nth l i)) := by
 obtain ⟨ad, e, hc⟩ := Kd.at_int (Kd.F_now h) (i : Int) (by omega) (by omega)
 exact ⟨ad, e, by simpa [rd, nth] using hc⟩
theorem U.nil (w : World) (ok : Nat → Prop) : U w ok (.slice none 0 0) [] := ⟨none, 0, rfl, Nat.le_refl _, Kd.F_nil _ _ _⟩
/-- A part from the begin on. -/
theorem F_take (h : Kd.F (Kd.int .u32) w ok A l.length l) {m : Nat} (hm : m ≤ l.length) : Kd.F (Kd.int .u32) w ok A (l.take m).length (l.take m) := fun W' hW => by
 have h1 := h W' hW
 refine ⟨rfl, by have := h1.2.1; rw [List.length_take]; omega, fun hp => ?_⟩
 rw [List.length_take] at hp
 obtain ⟨ad, e, hc⟩ := h1.2.2 (by omega)
 refine ⟨ad, e, fun j p hj => hc j p ?_⟩
 rw [List.getElem?_take] at hj
 split at hj
 ·exact hj
 ·cases hj
/-- What the call has made, as something that is read. -/
theorem Own.reads {base : Nat} (h : Own w base v l) (hok : ∀ k, base ≤ k → ok k) : U w ok v l := by
 obtain ⟨A, c, e, hc, _⟩ := Kd.R_reads h
 refine ⟨A, c, e, hc, fun W' hW => ?_⟩
 have h1 := Kd.R_bound h
 have h2 : Kd.R (Kd.int .u32) 65 W' base (fun k => True ∧ base ≤ k ∧ k < w.heap.size ∧ ∃ q, q ∈ 65 :: (Kd.int .u32).E ∧ ∃ cells, w.heap[k]? = some (.cells cells q (0, 0))) v l :=
  Kd.R_move h1 (fun k hk => hW k (hok k hk.2.1) hk.2.2.1)
 obtain ⟨A', c', e', _, hC⟩ := Kd.R_reads h2
 rw [e] at e'
 injection e' with ea _ _
 rw [ea]; exact hC
theorem rdOf_nth (z : List Int) (k : Nat) : rdOf 0 z (k : Int) = nth z k := by simp [rdOf, nth]
theorem Own.nil (w : World) (base : Nat) : Own w base (.slice none 0 0) [] := Kd.R_nil _ _ _ _ _
end
section
variable {P : Program} {md : Region.Mode} {ops : Array Oper} {o : Oper} {rest : List Oper} {a : Act} {Q : Exit → Act → World → Prop}
theorem own_makecap {w0 W : World} {base : Nat} (e : Nat) (hgd : o.guard = none) {N : Tmp} (hd : o.dst = some N) (t : TypeId) (x y : Operand) (ho : o.op = .makeSlice t x y) (n : Int) (hx : a.eval x = .int .i64 0) (hy : a.eval y = .int .i64 n)
  (ht : P.underlying t = some (.slice e)) (hinfo : (P.info? e).map (fun i => (i.zero, i.size, i.bytes)) = some (some (.int .u32 0), 1, 4)) (h0 : 0 ≤ n) (hl : n.toNat ≤ 70368744177664) (HB : Below base w0 W) (hbase : base ≤ W.heap.size)
  (h : ∀ v1 w1, Kd.R (Kd.int .u32) e w1 base (fun _ => True) v1 [] → Below base w0 w1 → wpList P ops Q rest (a.put o.dst v1) w1) : wpList P ops Q (o :: rest) a W := by
 obtain ⟨m, rfl⟩ := Int.eq_ofNat_of_zero_le h0
 simp only [Int.toNat_natCast] at hl
 obtain ⟨i0, hi, hzz⟩ := Option.map_eq_some_iff.1 hinfo
 simp only [Prod.mk.injEq] at hzz
 obtain ⟨hz0, hz1, hz2⟩ := hzz
 have hr := run_make (P := P) W t e i0 (.int .u32 0) ht hi hz0 .i64 .i64 0 (m : Int) (by omega) (by omega) (by rw [hz2]; omega) (by omega)
 rw [hz1] at hr
 simp only [Int.toNat_natCast, Int.toNat_zero, Nat.mul_one] at hr
 refine Kd.event_run (v := .slice (some ⟨W.heap.size, 0, none⟩) 0 m) (w1 := W.alloc (.cells (madeCells (Value.cells (.int .u32 0)) m) e)) hgd ?_ (h _ _ ⟨fun _ _ => trivial, [], ⟨rfl, .inr ⟨W.heap.size, m, madeCells (Value.cells (.int .u32 0)) m, ?_, hbase, ?_, Nat.zero_le _, ?_, ?_, ?_⟩⟩, ⟨rfl, fun j p hj => by simp at hj⟩⟩ (HB.alloc hbase _))
 ·simp [execOp, ho, hx, hy, hr]
 ·rfl
 ·show (W.heap.push _)[W.heap.size]? = _; simp
 ·simp only [maxLen]; omega
 ·simp [madeCells, Kd.int, Kd.scalar]
 ·simp
end
/-
  The contracts of trim and norm (package rational).
-/
/-- A call that answers the natural number n, in normal form, and leaves what was there as it was. -/
def RetNat (ok : Nat → Prop) (n : Nat) (w0 : World) (e : Ending) (w' : World) : Prop := ∃ v, e = .returned v ∧ IsNat w' ok v n ∧ Below w0.heap.size w0 w'
/-- The zeros from place n on. -/
def Zeros (l : List Int) (n : Nat) : Prop := ∀ j, n ≤ j → j < l.length → nth l j = 0
theorem retNat_take {w : World} {ok : Nat → Prop} {A : Option Addr} {n : Nat} {l : List Int} (h : Kd.F (Kd.int .u32) w ok A l.length l) (hl : Lim l) (hn : n ≤ l.length) (hz : Zeros l n) (ht : 0 < n → nth l (n - 1) ≠ 0) :
  RetNat ok (val l).toNat w (.returned (.slice A n n)) w := by
 have hlen : (l.take n).length = n := by rw [List.length_take]; omega
 refine ⟨_, rfl, ⟨l.take n, ⟨A, n, by rw [hlen], by omega, F_take h hn⟩, nrm_take hl hn ht, ?_⟩, Below.refl _ _⟩
 rw [Num.trimmed hn hz]
 have := (val_bound hl).1
 omega
theorem gtr_nat_zero (n : Nat) : decide ((n : Int) > 0) = decide (0 < n) := by simp
set_option maxHeartbeats 400000 in
theorem trim_nat (ok : Nat → Prop) (v : Value) (l : List Int) (w : World) (h : U w ok v l) (hl : Lim l) :
  Calls Tryz.prog 112 #[v] w (RetNat ok (val l).toNat w) := by
 obtain ⟨A, c, rfl, hc, hF⟩ := h
 have hm := Kd.F_max hF
 have HF := As hF
 have HL := As hl
 clear hF hl
 go_enter Tryz.func112, Tryz.ntmps112
 go_wp2
 go_loop [3] (fun v => ∃ n : Nat, v = .int .i64 n ∧ n ≤ l.length ∧ Aside0 (Zeros l n)) (fun v => (intOf v).toNat)
 case atStart => exact ⟨l.length, rfl, Nat.le_refl _, ⟨fun j h1 h2 => by omega⟩⟩
 case round =>
  obtain ⟨n, rfl, hn, hz⟩ := hrel
  rcases Nat.eq_zero_or_pos n with h0 | h0
  ·subst h0
   go_wp2
   go_ret
   exact retNat_take HF.out HL.out (Nat.zero_le _) hz.out (fun h => by omega)
  ·obtain ⟨ad, rfl, hcell⟩ := F_at HF.out (n - 1) (by omega)
   by_cases hx : nth l (n - 1) = 0
   ·have HX := As hx
    rw [hx] at hcell
    clear hx
    go_wp2
    go_round
    case rel => exact ⟨n - 1, by go_num, by omega, ⟨fun j h1 h2 => if he : j = n - 1 then by rw [he]; exact HX.out else hz.out j (by omega) h2⟩⟩
    case measure => simp [intOf]; omega
   ·have hb : (nth l (n - 1) == 0) = false := beq_eq_false_iff_ne.mpr hx
    have HX := As hx
    clear hx
    go_wp2
    go_ret
    exact retNat_take HF.out HL.out hn hz.out (fun _ => HX.out)
/-- What norm's loop knows at place k. -/
def NormRel (l z : List Int) (k : Nat) (cr : Int) : Prop := Lim z ∧ z.length = k ∧ val z + pw k * cr = val (l.take k)
theorem NormRel.start (l : List Int) : NormRel l [] 0 0 := ⟨Lim.nil, rfl, by simp [val]⟩
theorem NormRel.next {l z : List Int} {k : Nat} {cr : Int} (h : NormRel l z k cr) (hk : k < l.length) (h0 : 0 ≤ cr) (hx : 0 ≤ nth l k) :
  NormRel l (z ++ [(nth l k + cr) % 1000000000]) (k + 1) ((nth l k + cr) / 1000000000) := by
 obtain ⟨h1, h2, h3⟩ := h
 refine ⟨h1.append (Lim.single (by omega) (by omega)), by simp [h2], ?_⟩
 rw [val_snoc, h2, val_take_succ hk, ← h3, pw_succ]
 have := Int.emod_add_mul_ediv (nth l k + cr) 1000000000
 grind
theorem NormRel.done {l z : List Int} {cr : Int} (h : NormRel l z l.length cr) (hc : cr ≤ 0) (h0 : 0 ≤ cr) : Lim z ∧ val z = val l := by
 obtain ⟨h1, h2, h3⟩ := h
 have : cr = 0 := by omega
 rw [this, List.take_length] at h3
 exact ⟨h1, by omega⟩
theorem NormRel.more {l z : List Int} {cr : Int} (h : NormRel l z l.length cr) (h0 : 0 ≤ cr) (hc : cr < 1000000000) : Lim (z ++ [cr]) ∧ val (z ++ [cr]) = val l := by
 obtain ⟨h1, h2, h3⟩ := h
 rw [List.take_length] at h3
 exact ⟨h1.append (Lim.single h0 hc), by rw [val_snoc, h2]; omega⟩
set_option maxHeartbeats 400000 in
theorem norm_nat (ok : Nat → Prop) (v : Value) (l : List Int) (w : World) (hok : ∀ k, w.heap.size ≤ k → ok k) (h : U w ok v l) (hl : U32 l) (hs : l.length ≤ 10000000) :
  Calls Tryz.prog 76 #[v] w (RetNat ok (val l).toNat w) := by
 obtain ⟨A, c, rfl, hc, hF⟩ := h
 have HF := As hF
 have HL := As hl
 have HB := As (Below.refl w.heap.size w)
 have hmk0 := As (show 0 ≤ (l.length : Int) + 1 by omega)
 have hmk1 := As (show ((l.length : Int) + 1).toNat ≤ 70368744177664 by omega)
 clear hF hl
 go_enter Tryz.func76, Tryz.ntmps76
 go_wp2_with ((with_reducible refine gate_dst (N := 11) rfl ?_); refine own_makecap 65 rfl (N := 11) rfl 44 _ _ rfl ((l.length : Int) + 1) rfl rfl Tryz.underlying44 info_u32 hmk0.out hmk1.out (Below.refl _ _) (Nat.le_refl _) ?_; intro z0 w1 ho_ hb_; have n0_ := As (Kd.R_lower ho_ (below_size (by repeat (first | (with_reducible first | exact HB.out | apply below_alloc | apply pw_below_drewN | apply below_drew1) | exact HB.out)))); have n1_ := As (below_step (by repeat (first | (with_reducible first | exact HB.out | apply below_alloc | apply pw_below_drewN | apply below_drew1) | exact HB.out)) hb_); clear HB; have HO := n0_; have HB := n1_; clear n0_ n1_ hb_ ho_)
 go_loopw [3, 4, 14] (fun vz vc vi wr => ∃ (k : Nat) (z : List Int) (cr : Int), vi = .int .i64 k ∧ vc = .int .u64 cr ∧ k ≤ l.length ∧ 0 ≤ cr ∧ cr ≤ 4 ∧ Aside0 (Own wr w.heap.size vz z) ∧ Aside0 (NormRel l z k cr) ∧ Aside0 (Below w.heap.size w wr)) (fun _ _ i _ => l.length - (intOf i).toNat)
 case atStart => exact ⟨0, [], 0, rfl, rfl, Nat.zero_le _, Int.le_refl _, by decide, HO, ⟨NormRel.start l⟩, HB⟩
 case round =>
  clear HO HB
  obtain ⟨k, z, cr, rfl, rfl, hk, hc0, hc4, HO, HN, HB⟩ := hrel
  by_cases hlt : k < l.length
  ·obtain ⟨ad, rfl, hcell⟩ := F_at HF.out k hlt
   have hx := HL.out.nth k
   replace hcell := pw_cell_below HB.out hcell
   go_wp2_with ((with_reducible refine gate_builtin (b := .append) (xs := #[.tmp 22, .tmp 26]) rfl ?_); at_builtin; refine Kd.R_append (Kd.int .u32) (w0 := w) w.heap.size rfl (.tmp 22) (.tmp 26) 44 65 (.int .u32 0) 4 rfl Tryz.underlying44 info_u32 rfl (by decide) (by omega) u3 z ((nth l k + cr) % 1000000000) [.int .u32 ((nth l k + cr) % 1000000000)] (fun _ => True) (fun _ => False) rfl rfl ?aP (fun _ hk => hk.elim) ?aF ?aO ?aB ?aS ?aL ?_; (case aP => exact rfl); (case aB => exact (by repeat (first | (with_reducible first | exact HB.out | apply below_alloc | apply pw_below_drewN | apply below_drew1) | exact HB.out))); (case aF => exact (fun _ _ => trivial)); (case aO => exact (by (with_reducible repeat (first | apply Kd.R_alloc | apply Kd.R_drewN | apply Kd.R_drew)); exact HO.out)); (case aS => exact (below_size (by repeat (first | (with_reducible first | exact HB.out | apply below_alloc | apply pw_below_drewN | apply below_drew1) | exact HB.out)))); (case aL => have := HN.out.2.1; omega); intro v5 w5 ho_ hb_ hg_ hat_; have n0_ := As hb_; have n1_ := As ho_; clear HO HB; have HB := n0_; have HO := n1_; clear n0_ n1_ ho_ hb_ hg_ hat_)
   go_roundw
   case rel => exact ⟨k + 1, _, (nth l k + cr) / 1000000000, by go_num, rfl, by omega, by omega, by omega, HO, ⟨HN.out.next hlt hc0 hx.1⟩, HB⟩
   case measure => simp [intOf]; omega
  ·have he : k = l.length := by omega
   subst he
   by_cases hz : cr ≤ 0
   ·have HZ := As (HN.out.done hz hc0)
    have hzb : decide (0 < cr) = false := by simp; omega
    go_wp2_with (go_at_call 112; ((with_reducible refine (trim_nat ok _ z _ (Own.reads HO.out hok) HZ.out.1).mono ?_); rintro e w' ⟨v', rfl, hv, hb⟩; have HV := As hv; have HB' := As (below_step HB.out hb); clear hv hb))
    go_ret
    exact ⟨_, rfl, by rw [← HZ.out.2]; exact HV.out, HB'.out⟩
   ·have HZ := As (HN.out.more hc0 (by omega))
    have hzb : decide (0 < cr) = true := by simp; omega
    have hl1 := HN.out.2.1
    have HL1 := As hl1
    clear hl1
    go_wp2_with (first | ((with_reducible refine gate_builtin (b := .append) (xs := #[.tmp 33, .tmp 36]) rfl ?_); at_builtin; refine Kd.R_append (Kd.int .u32) (w0 := w) w.heap.size rfl (.tmp 33) (.tmp 36) 44 65 (.int .u32 0) 4 rfl Tryz.underlying44 info_u32 rfl (by decide) (by omega) u3 z (cr) [.int .u32 (cr)] (fun _ => True) (fun _ => False) rfl rfl ?aP (fun _ hk => hk.elim) ?aF ?aO ?aB ?aS ?aL ?_; (case aP => exact rfl); (case aB => exact (by repeat (first | (with_reducible first | exact HB.out | apply below_alloc | apply pw_below_drewN | apply below_drew1) | exact HB.out))); (case aF => exact (fun _ _ => trivial)); (case aO => exact (by (with_reducible repeat (first | apply Kd.R_alloc | apply Kd.R_drewN | apply Kd.R_drew)); exact HO.out)); (case aS => exact (below_size (by repeat (first | (with_reducible first | exact HB.out | apply below_alloc | apply pw_below_drewN | apply below_drew1) | exact HB.out)))); (case aL => have := HL1.out; omega); intro v5 w5 ho_ hb_ hg_ hat_; have n0_ := As hb_; have n1_ := As ho_; clear HO HB; have HB := n0_; have HO := n1_; clear n0_ n1_ ho_ hb_ hg_ hat_) | (go_at_call 112; ((with_reducible refine (trim_nat ok _ (z ++ [cr]) _ (Own.reads HO.out hok) HZ.out.1).mono ?_); rintro e w' ⟨v', rfl, hv, hb⟩; have HV := As hv; have HB' := As (below_step HB.out hb); clear hv hb)))
    go_ret
    exact ⟨_, rfl, by rw [← HZ.out.2]; exact HV.out, HB'.out⟩
/-
  The contracts of cmp, add and sub (package rational).
-/
def RetCmp (a b : Nat) (w0 : World) (e : Ending) (w' : World) : Prop := e = .returned (.int .i64 (cmpI a b)) ∧ Below w0.heap.size w0 w'
theorem RetCmp.mk {a b : Nat} {w0 w' : World} {n : Int} (h : cmpI a b = n) (hb : Below w0.heap.size w0 w') : RetCmp a b w0 (.returned (.int .i64 n)) w' := by rw [← h]; exact ⟨rfl, hb⟩
set_option maxHeartbeats 400000 in
theorem cmp_nat (ok : Nat → Prop) (v0 v1 : Value) (a b : Nat) (w : World) (h0 : IsNat w ok v0 a) (h1 : IsNat w ok v1 b) :
  Calls Tryz.prog 80 #[v0, v1] w (RetCmp a b w) := by
 obtain ⟨l, ⟨A, c, rfl, hc, hF⟩, hl, hv⟩ := h0
 obtain ⟨m, ⟨A', c', rfl, hc', hF'⟩, hm, hv'⟩ := h1
 have hx := Kd.F_max hF
 have hx' := Kd.F_max hF'
 have HF := As hF
 have HF' := As hF'
 have HL := As (And.intro hl hv)
 have HM := As (And.intro hm hv')
 clear hF hF' hl hm hv hv'
 by_cases he : l.length = m.length
 ·have HE := As he
  have hb0 : (l.length == m.length) = true := by simpa using he
  have hb1 : ((l.length : Int) != (m.length : Int)) = false := by simp; omega
  clear he
  go_enter Tryz.func80, Tryz.ntmps80
  go_wp2
  go_loopw [19] (fun v w' => ∃ k : Nat, v = .int .i64 k ∧ k ≤ l.length ∧ Aside0 (val (l.drop (l.length - k)) = val (m.drop (l.length - k))) ∧ Drawn0 w w') (fun v _ => l.length - (intOf v).toNat)
  case atStart => exact ⟨0, rfl, Nat.zero_le _, ⟨by have := HE.out; rw [List.drop_eq_nil_of_le (by omega), List.drop_eq_nil_of_le (by omega)]⟩, Drawn0.refl _⟩
  case round =>
   obtain ⟨k, rfl, hk, HK, ⟨nd, rfl⟩⟩ := hrel
   by_cases hlt : k < l.length
   ·obtain ⟨i, hi⟩ : ∃ i : Nat, l.length - 1 - k = i := ⟨_, rfl⟩
    obtain ⟨ad, rfl, hcell⟩ := F_at HF.out i (by omega)
    obtain ⟨ad', rfl, hcell'⟩ := F_at HF'.out i (by have := HE.out; omega)
    have hidx : ((l.length : Int) - 1 - (k : Int)) = (i : Int) := by omega
    have hil : i < l.length := by omega
    have him : i < m.length := by have := HE.out; omega
    have HI := As hi
    clear hi
    by_cases hxy : nth l i = nth m i
    ·have hbe : (nth l i != nth m i) = false := by simpa using hxy
     have HX := As hxy
     clear hxy
     go_wp2
     repeat (go_quiet (fail); try go_wp2)
     go_roundw
     case rel =>
      refine ⟨k + 1, by go_num, by omega, ⟨?_⟩, by repeat (first | exact Drawn0.refl _ | apply Drawn0.step)⟩
      have e1 : l.length - (k + 1) = i := by have := HI.out; omega
      have e2 : l.length - k = i + 1 := by have := HI.out; omega
      have h1 := HK.out
      rw [e2] at h1
      rw [e1, val_drop hil, val_drop him, HX.out, h1]
     case measure => simp [intOf]; omega
    ·have hbe : (nth l i != nth m i) = true := by simpa using hxy
     have HX := As hxy
     clear hxy
     have HT := As (show val (l.drop (i + 1)) = val (m.drop (i + 1)) by have h1 := HK.out; rw [show l.length - k = i + 1 by have := HI.out; omega] at h1; exact h1)
     by_cases hxl : nth l i < nth m i
     ·have hbl : decide (nth l i < nth m i) = true := decide_eq_true hxl
      have HX2 := As (top_lt HL.out.1.1 HM.out.1.1 HE.out hil HT.out hxl)
      clear hxl
      go_wp2
      repeat (go_quiet (fail); try go_wp2)
      go_ret
      exact RetCmp.mk (cmpI_lt (by have := HX2.out; have := HL.out.2; have := HM.out.2; omega)) (by repeat (first | exact (Drawn0.refl _).below | apply pw_below_drewN | exact Below.refl _ _))
     ·have hbl : decide (nth l i < nth m i) = false := decide_eq_false hxl
      have HX2 := As (top_lt HM.out.1.1 HL.out.1.1 HE.out.symm him HT.out.symm (by have := HX.out; omega))
      clear hxl
      go_wp2
      repeat (go_quiet (fail); try go_wp2)
      go_ret
      exact RetCmp.mk (cmpI_gt (by have := HX2.out; have := HL.out.2; have := HM.out.2; omega)) (by repeat (first | exact (Drawn0.refl _).below | apply pw_below_drewN | exact Below.refl _ _))
   ·go_wp2
    go_ret
    exact RetCmp.mk (cmpI_eq (by have h1 := HK.out; rw [show l.length - k = 0 by omega, List.drop_zero, List.drop_zero] at h1; have := HL.out.2; have := HM.out.2; omega)) (by repeat (first | exact (Drawn0.refl _).below | apply pw_below_drewN | exact Below.refl _ _))
 ·have hb1 : ((l.length : Int) != (m.length : Int)) = true := by simp; omega
  have hb0 : (l.length == m.length) = false := by simpa using he
  by_cases hlt : l.length < m.length
  ·go_enter Tryz.func80, Tryz.ntmps80
   go_wp2
   go_ret
   exact RetCmp.mk (cmpI_lt (by have := len_lt HL.out.1.1 HM.out.1 hlt; have := HL.out.2; have := HM.out.2; omega)) (Below.refl _ _)
  ·have hgt : m.length < l.length := by omega
   go_enter Tryz.func80, Tryz.ntmps80
   go_wp2
   go_ret
   exact RetCmp.mk (cmpI_gt (by have := len_lt HM.out.1.1 HL.out.1 hgt; have := HL.out.2; have := HM.out.2; omega)) (Below.refl _ _)
/-
  The contracts of add and sub (package rational).
-/
theorem own_put {w : World} {base g n cap : Nat} {z : List Int} (h : Own w base (.slice (some ⟨g, 0, none⟩) n cap) z) (k : Nat) (x : Int) : Own (w.setCell ⟨g, k, none⟩ (.int .u32 x)) base (.slice (some ⟨g, 0, none⟩) n cap) (z.set k x) := by
 have := (Kd.R_putg h (k : Int) x).1
 rw [Int.toNat_natCast] at this
 exact this
set_option maxHeartbeats 400000 in
theorem sub_nat (ok : Nat → Prop) (v0 v1 : Value) (a b : Nat) (w : World) (hok : ∀ k, w.heap.size ≤ k → ok k) (h0 : IsNat w ok v0 a) (h1 : IsNat w ok v1 b) (hab : b ≤ a) (hs : (a : Int) < pw 10000000) :
  Calls Tryz.prog 81 #[v0, v1] w (RetNat ok (a - b) w) := by
 obtain ⟨x, ⟨A, c, rfl, hc, hF⟩, hl, hv⟩ := h0
 obtain ⟨y, ⟨A', c', rfl, hc', hF'⟩, hm, hv'⟩ := h1
 have hxl : x.length ≤ 10000000 := len_le hl (by omega)
 have hyx : y.length ≤ x.length := len_mono hm hl (by omega)
 have HF := As hF
 have HF' := As hF'
 have HL := As (And.intro hl hv)
 have HM := As (And.intro hm hv')
 have HB := As (Below.refl w.heap.size w)
 have HS := As hab
 clear hF hF' hl hm hv hv' hs hab
 have hmk0 := As (show 0 ≤ (x.length : Int) by omega)
 have hmk1 := As (show (x.length : Int).toNat ≤ 70368744177664 by omega)
 go_enter Tryz.func81, Tryz.ntmps81
 go_wp2_with ((with_reducible refine gate_dst (N := 11) rfl ?_); refine Kd.R_make (Kd.int .u32) _ 65 rfl (N := 11) rfl 44 _ _ rfl ((x.length : Int)) rfl rfl Tryz.underlying44 (.int .u32 0) 4 info_u32 rfl (by decide) (by omega) 0 (ok := fun _ => True) (okp := fun _ => True) rfl (fun _ hk => hk) trivial hmk0.out (Nat.le_trans (Nat.mul_le_mul_right _ hmk1.out) (by omega)) (Below.refl _ _) (Nat.le_refl _) ?_; intro z0 w1 ho_ hb_ hg_ hnew_; clear hg_ hnew_; have n0_ := As (Kd.R_lower ho_ (below_size (by repeat (first | (with_reducible first | exact HB.out | apply below_alloc | apply pw_below_drewN | apply below_drew1) | exact HB.out)))); have n1_ := As (below_step (by repeat (first | (with_reducible first | exact HB.out | apply below_alloc | apply pw_below_drewN | apply below_drew1) | exact HB.out)) hb_); clear HB; have HO := n0_; have HB := n1_; clear n0_ n1_ hb_ ho_)
 go_loopw [6, 14] (fun vc vi wr => ∃ (k : Nat) (z : List Int) (cr : Int), vi = .int .i64 k ∧ vc = .int .u32 cr ∧ k ≤ x.length ∧ 0 ≤ cr ∧ cr ≤ 1 ∧ Aside0 (Own wr w.heap.size z0 z) ∧ Aside0 (SubRel x y z k cr) ∧ Aside0 (Below w.heap.size w wr)) (fun _ i _ => x.length - (intOf i).toNat)
 case atStart => exact ⟨0, _, 0, rfl, rfl, Nat.zero_le _, Int.le_refl _, by decide, HO, ⟨by have := SubRel.start x y; simpa using this⟩, HB⟩
 case round =>
  clear HO HB
  obtain ⟨k, z, cr, rfl, rfl, hk, hc0, hc1, HO, HN, HB⟩ := hrel
  by_cases hlt : k < x.length
  ·obtain ⟨ad, rfl, hcell⟩ := F_at HF.out k hlt
   have hx := HL.out.1.1.nth k
   have hy := HM.out.1.1.nth k
   replace hcell := pw_cell_below HB.out hcell
   have hzl : k < z.length := by have := HN.out.2.1; omega
   (obtain ⟨g, cap, hvz, hgz, _, _⟩ := Kd.R_form HO.out (by omega)); subst hvz; have hgz' := As hgz; clear hgz; (obtain ⟨hxz, hfz⟩ := Kd.R_celln 0 HO.out ((k : Nat) : Int) (by omega) (by omega)); (simp only [Int.toNat_natCast, rdOf_nth] at hxz hfz)
   by_cases hyl : k < y.length
   ·obtain ⟨ad', rfl, hcell'⟩ := F_at HF'.out k hyl
    replace hcell' := pw_cell_below HB.out hcell'
    by_cases hbo : nth x k < cr + nth y k
    ·have hbb : decide (nth x k < cr + nth y k) = true := decide_eq_true hbo
     go_wp2
     go_roundw
     case rel => exact ⟨k + 1, _, 1, by go_num, rfl, by omega, by omega, by omega, ⟨own_put HO.out k _⟩, ⟨HN.out.next hlt (t := nth x k + 1000000000 - (cr + nth y k)) (by omega) (by omega) (by omega)⟩, ⟨below_set HB.out hgz'.out⟩⟩
     case measure => simp [intOf]; omega
    ·have hbb : decide (nth x k < cr + nth y k) = false := decide_eq_false hbo
     go_wp2
     go_roundw
     case rel => exact ⟨k + 1, _, 0, by go_num, rfl, by omega, by omega, by omega, ⟨own_put HO.out k _⟩, ⟨HN.out.next hlt (t := nth x k - (cr + nth y k)) (by omega) (by omega) (by omega)⟩, ⟨below_set HB.out hgz'.out⟩⟩
     case measure => simp [intOf]; omega
   ·have hy0 : nth y k = 0 := nth_of_ge (by omega)
    have HY := As hy0
    clear hy0
    by_cases hbo : nth x k < cr
    ·have hbb : decide (nth x k < cr) = true := decide_eq_true hbo
     go_wp2
     go_roundw
     case rel => exact ⟨k + 1, _, 1, by go_num, rfl, by omega, by omega, by omega, ⟨own_put HO.out k _⟩, ⟨HN.out.next hlt (t := nth x k + 1000000000 - cr) (by omega) (by omega) (by have := HY.out; omega)⟩, ⟨below_set HB.out hgz'.out⟩⟩
     case measure => simp [intOf]; omega
    ·have hbb : decide (nth x k < cr) = false := decide_eq_false hbo
     go_wp2
     go_roundw
     case rel => exact ⟨k + 1, _, 0, by go_num, rfl, by omega, by omega, by omega, ⟨own_put HO.out k _⟩, ⟨HN.out.next hlt (t := nth x k - cr) (by omega) (by omega) (by have := HY.out; omega)⟩, ⟨below_set HB.out hgz'.out⟩⟩
     case measure => simp [intOf]; omega
  ·have he : k = x.length := by omega
   subst he
   have HZ := As (HN.out.done HL.out.1.1 hyx (by have := HL.out.2; have := HM.out.2; have := HS.out; omega) hc0)
   go_wp2_with (go_at_call 112; ((with_reducible refine (trim_nat ok _ z _ (Own.reads HO.out hok) HZ.out.1).mono ?_); rintro e w' ⟨v', rfl, hv, hb⟩; have HV := As hv; have HB' := As (below_step HB.out hb); clear hv hb))
   go_ret
   exact ⟨_, rfl, by rw [show a - b = (val z).toNat by have := HZ.out.2; have := HL.out.2; have := HM.out.2; have := HS.out; omega]; exact HV.out, HB'.out⟩
/-
  The contract of add (package rational).
-/
set_option maxHeartbeats 1000000 in
theorem add_nat (ok : Nat → Prop) (v0 v1 : Value) (a b : Nat) (w : World) (hok : ∀ k, w.heap.size ≤ k → ok k) (h0 : IsNat w ok v0 a) (h1 : IsNat w ok v1 b) (hs : (a : Int) < pw 10000000) (hs' : (b : Int) < pw 10000000) :
  Calls Tryz.prog 79 #[v0, v1] w (RetNat ok (a + b) w) := by
 obtain ⟨x, ⟨A, c, rfl, hc, hF⟩, hl, hv⟩ := h0
 obtain ⟨y, ⟨A', c', rfl, hc', hF'⟩, hm, hv'⟩ := h1
 have hxl : x.length ≤ 10000000 := len_le hl (by omega)
 have hyl0 : y.length ≤ 10000000 := len_le hm (by omega)
 have HF := As hF
 have HF' := As hF'
 have HL := As (And.intro hl hv)
 have HM := As (And.intro hm hv')
 have HB := As (Below.refl w.heap.size w)
 clear hF hF' hl hm hv hv' hs hs'
 by_cases hsw : x.length < y.length
 ·have hyx : x.length ≤ y.length := by omega
  have hmk0 := As (show 0 ≤ (y.length : Int) + 1 by omega)
  have hmk1 := As (show ((y.length : Int) + 1).toNat ≤ 70368744177664 by omega)
  go_enter Tryz.func79, Tryz.ntmps79
  go_wp2_with ((with_reducible refine gate_dst (N := 19) rfl ?_); refine Kd.R_make (Kd.int .u32) _ 65 rfl (N := 19) rfl 44 _ _ rfl ((y.length : Int) + 1) rfl rfl Tryz.underlying44 (.int .u32 0) 4 info_u32 rfl (by decide) (by omega) 0 (ok := fun _ => True) (okp := fun _ => True) rfl (fun _ hk => hk) trivial hmk0.out (Nat.le_trans (Nat.mul_le_mul_right _ hmk1.out) (by omega)) (Below.refl _ _) (Nat.le_refl _) ?_; intro z0 w1 ho_ hb_ hg_ hnew_; clear hg_ hnew_; have n0_ := As (Kd.R_lower ho_ (below_size (by repeat (first | (with_reducible first | exact HB.out | apply below_alloc | apply pw_below_drewN | apply below_drew1) | exact HB.out)))); have n1_ := As (below_step (by repeat (first | (with_reducible first | exact HB.out | apply below_alloc | apply pw_below_drewN | apply below_drew1) | exact HB.out)) hb_); clear HB; have HO := n0_; have HB := n1_; clear n0_ n1_ hb_ ho_)
  go_loopw [6, 22] (fun vc vi wr => ∃ (k : Nat) (z : List Int) (cr : Int), vi = .int .i64 k ∧ vc = .int .u32 cr ∧ k ≤ y.length ∧ 0 ≤ cr ∧ cr ≤ 1 ∧ Aside0 (Own wr w.heap.size z0 z) ∧ Aside0 (AddRel y x z k cr) ∧ Aside0 (Below w.heap.size w wr)) (fun _ i _ => y.length - (intOf i).toNat)
  case atStart => exact ⟨0, _, 0, rfl, rfl, Nat.zero_le _, Int.le_refl _, by decide, HO, ⟨by have := AddRel.start y x; simpa using this⟩, HB⟩
  case round =>
   clear HO HB
   obtain ⟨k, z, cr, rfl, rfl, hk, hc0, hc1, HO, HN, HB⟩ := hrel
   have hzz : z.length = y.length + 1 := HN.out.2.1
   have HZZ := As hzz
   clear hzz
   by_cases hlt : k < y.length
   ·have hzl : k < z.length := by have := HZZ.out; omega
    have hx := HM.out.1.1.nth k
    have hy := HL.out.1.1.nth k
    obtain ⟨ad, rfl, hcell⟩ := F_at HF'.out k hlt
    replace hcell := pw_cell_below HB.out hcell
    (obtain ⟨g, cap, hvz, hgz, _, _⟩ := Kd.R_form HO.out (by omega)); subst hvz; have hgz' := As hgz; clear hgz; (obtain ⟨hxz, hfz⟩ := Kd.R_celln 0 HO.out ((k : Nat) : Int) (by omega) (by omega)); (simp only [Int.toNat_natCast, rdOf_nth] at hxz hfz)
    by_cases hyl : k < x.length
    ·obtain ⟨ad', rfl, hcell'⟩ := F_at HF.out k hyl
     replace hcell' := pw_cell_below HB.out hcell'
     by_cases hbo : 1000000000 ≤ nth y k + cr + nth x k
     ·have hbb : decide (1000000000 ≤ nth y k + cr + nth x k) = true := decide_eq_true hbo
      go_wp2
      go_roundw
      case rel => exact ⟨k + 1, _, 1, by go_num, rfl, by omega, by omega, by omega, ⟨own_put HO.out k _⟩, ⟨HN.out.next hlt (t := nth y k + cr + nth x k - 1000000000) (by omega) (by omega) (by omega)⟩, ⟨below_set HB.out hgz'.out⟩⟩
      case measure => simp [intOf]; omega
     ·have hbb : decide (1000000000 ≤ nth y k + cr + nth x k) = false := decide_eq_false hbo
      go_wp2
      go_roundw
      case rel => exact ⟨k + 1, _, 0, by go_num, rfl, by omega, by omega, by omega, ⟨own_put HO.out k _⟩, ⟨HN.out.next hlt (t := nth y k + cr + nth x k) (by omega) (by omega) (by omega)⟩, ⟨below_set HB.out hgz'.out⟩⟩
      case measure => simp [intOf]; omega
    ·have hy0 : nth x k = 0 := nth_of_ge (by omega)
     have HYY := As hy0
     clear hy0
     by_cases hbo : 1000000000 ≤ nth y k + cr
     ·have hbb : decide (1000000000 ≤ nth y k + cr) = true := decide_eq_true hbo
      go_wp2
      go_roundw
      case rel => exact ⟨k + 1, _, 1, by go_num, rfl, by omega, by omega, by omega, ⟨own_put HO.out k _⟩, ⟨HN.out.next hlt (t := nth y k + cr - 1000000000) (by omega) (by omega) (by have := HYY.out; omega)⟩, ⟨below_set HB.out hgz'.out⟩⟩
      case measure => simp [intOf]; omega
     ·have hbb : decide (1000000000 ≤ nth y k + cr) = false := decide_eq_false hbo
      go_wp2
      go_roundw
      case rel => exact ⟨k + 1, _, 0, by go_num, rfl, by omega, by omega, by omega, ⟨own_put HO.out k _⟩, ⟨HN.out.next hlt (t := nth y k + cr) (by omega) (by omega) (by have := HYY.out; omega)⟩, ⟨below_set HB.out hgz'.out⟩⟩
      case measure => simp [intOf]; omega
   ·have he : k = y.length := by omega
    subst he
    have hzl : y.length < z.length := by have := HZZ.out; omega
    have HZ := As (HN.out.done hyx hc0 hc1)
    (obtain ⟨g, cap, hvz, hgz, _, _⟩ := Kd.R_form HO.out (by omega)); subst hvz; have hgz' := As hgz; clear hgz; (obtain ⟨hxz, hfz⟩ := Kd.R_celln 0 HO.out ((y.length : Nat) : Int) (by omega) (by omega)); (simp only [Int.toNat_natCast, rdOf_nth] at hxz hfz)
    have HO2 := As (own_put HO.out y.length cr)
    have HB2 := As (below_set (j := y.length) (v := .int .u32 cr) HB.out hgz'.out)
    go_wp2_with (go_at_call 112; ((with_reducible refine (trim_nat ok _ (z.set y.length cr) _ (Own.reads HO2.out hok) HZ.out.1).mono ?_); rintro e w' ⟨v', rfl, hv, hb⟩; have HV := As hv; have HB' := As (below_step HB2.out hb); clear hv hb))
    go_ret
    exact ⟨_, rfl, by rw [show a + b = (val (z.set y.length cr)).toNat by have := HZ.out.2; have := HL.out.2; have := HM.out.2; omega]; exact HV.out, HB'.out⟩
 ·have hyx : y.length ≤ x.length := by omega
  have hmk0 := As (show 0 ≤ (x.length : Int) + 1 by omega)
  have hmk1 := As (show ((x.length : Int) + 1).toNat ≤ 70368744177664 by omega)
  go_enter Tryz.func79, Tryz.ntmps79
  go_wp2_with ((with_reducible refine gate_dst (N := 19) rfl ?_); refine Kd.R_make (Kd.int .u32) _ 65 rfl (N := 19) rfl 44 _ _ rfl ((x.length : Int) + 1) rfl rfl Tryz.underlying44 (.int .u32 0) 4 info_u32 rfl (by decide) (by omega) 0 (ok := fun _ => True) (okp := fun _ => True) rfl (fun _ hk => hk) trivial hmk0.out (Nat.le_trans (Nat.mul_le_mul_right _ hmk1.out) (by omega)) (Below.refl _ _) (Nat.le_refl _) ?_; intro z0 w1 ho_ hb_ hg_ hnew_; clear hg_ hnew_; have n0_ := As (Kd.R_lower ho_ (below_size (by repeat (first | (with_reducible first | exact HB.out | apply below_alloc | apply pw_below_drewN | apply below_drew1) | exact HB.out)))); have n1_ := As (below_step (by repeat (first | (with_reducible first | exact HB.out | apply below_alloc | apply pw_below_drewN | apply below_drew1) | exact HB.out)) hb_); clear HB; have HO := n0_; have HB := n1_; clear n0_ n1_ hb_ ho_)
  go_loopw [6, 22] (fun vc vi wr => ∃ (k : Nat) (z : List Int) (cr : Int), vi = .int .i64 k ∧ vc = .int .u32 cr ∧ k ≤ x.length ∧ 0 ≤ cr ∧ cr ≤ 1 ∧ Aside0 (Own wr w.heap.size z0 z) ∧ Aside0 (AddRel x y z k cr) ∧ Aside0 (Below w.heap.size w wr)) (fun _ i _ => x.length - (intOf i).toNat)
  case atStart => exact ⟨0, _, 0, rfl, rfl, Nat.zero_le _, Int.le_refl _, by decide, HO, ⟨by have := AddRel.start x y; simpa using this⟩, HB⟩
  case round =>
   clear HO HB
   obtain ⟨k, z, cr, rfl, rfl, hk, hc0, hc1, HO, HN, HB⟩ := hrel
   have hzz : z.length = x.length + 1 := HN.out.2.1
   have HZZ := As hzz
   clear hzz
   by_cases hlt : k < x.length
   ·have hzl : k < z.length := by have := HZZ.out; omega
    have hx := HL.out.1.1.nth k
    have hy := HM.out.1.1.nth k
    obtain ⟨ad, rfl, hcell⟩ := F_at HF.out k hlt
    replace hcell := pw_cell_below HB.out hcell
    (obtain ⟨g, cap, hvz, hgz, _, _⟩ := Kd.R_form HO.out (by omega)); subst hvz; have hgz' := As hgz; clear hgz; (obtain ⟨hxz, hfz⟩ := Kd.R_celln 0 HO.out ((k : Nat) : Int) (by omega) (by omega)); (simp only [Int.toNat_natCast, rdOf_nth] at hxz hfz)
    by_cases hyl : k < y.length
    ·obtain ⟨ad', rfl, hcell'⟩ := F_at HF'.out k hyl
     replace hcell' := pw_cell_below HB.out hcell'
     by_cases hbo : 1000000000 ≤ nth x k + cr + nth y k
     ·have hbb : decide (1000000000 ≤ nth x k + cr + nth y k) = true := decide_eq_true hbo
      go_wp2
      go_roundw
      case rel => exact ⟨k + 1, _, 1, by go_num, rfl, by omega, by omega, by omega, ⟨own_put HO.out k _⟩, ⟨HN.out.next hlt (t := nth x k + cr + nth y k - 1000000000) (by omega) (by omega) (by omega)⟩, ⟨below_set HB.out hgz'.out⟩⟩
      case measure => simp [intOf]; omega
     ·have hbb : decide (1000000000 ≤ nth x k + cr + nth y k) = false := decide_eq_false hbo
      go_wp2
      go_roundw
      case rel => exact ⟨k + 1, _, 0, by go_num, rfl, by omega, by omega, by omega, ⟨own_put HO.out k _⟩, ⟨HN.out.next hlt (t := nth x k + cr + nth y k) (by omega) (by omega) (by omega)⟩, ⟨below_set HB.out hgz'.out⟩⟩
      case measure => simp [intOf]; omega
    ·have hy0 : nth y k = 0 := nth_of_ge (by omega)
     have HYY := As hy0
     clear hy0
     by_cases hbo : 1000000000 ≤ nth x k + cr
     ·have hbb : decide (1000000000 ≤ nth x k + cr) = true := decide_eq_true hbo
      go_wp2
      go_roundw
      case rel => exact ⟨k + 1, _, 1, by go_num, rfl, by omega, by omega, by omega, ⟨own_put HO.out k _⟩, ⟨HN.out.next hlt (t := nth x k + cr - 1000000000) (by omega) (by omega) (by have := HYY.out; omega)⟩, ⟨below_set HB.out hgz'.out⟩⟩
      case measure => simp [intOf]; omega
     ·have hbb : decide (1000000000 ≤ nth x k + cr) = false := decide_eq_false hbo
      go_wp2
      go_roundw
      case rel => exact ⟨k + 1, _, 0, by go_num, rfl, by omega, by omega, by omega, ⟨own_put HO.out k _⟩, ⟨HN.out.next hlt (t := nth x k + cr) (by omega) (by omega) (by have := HYY.out; omega)⟩, ⟨below_set HB.out hgz'.out⟩⟩
      case measure => simp [intOf]; omega
   ·have he : k = x.length := by omega
    subst he
    have hzl : x.length < z.length := by have := HZZ.out; omega
    have HZ := As (HN.out.done hyx hc0 hc1)
    (obtain ⟨g, cap, hvz, hgz, _, _⟩ := Kd.R_form HO.out (by omega)); subst hvz; have hgz' := As hgz; clear hgz; (obtain ⟨hxz, hfz⟩ := Kd.R_celln 0 HO.out ((x.length : Nat) : Int) (by omega) (by omega)); (simp only [Int.toNat_natCast, rdOf_nth] at hxz hfz)
    have HO2 := As (own_put HO.out x.length cr)
    have HB2 := As (below_set (j := x.length) (v := .int .u32 cr) HB.out hgz'.out)
    go_wp2_with (go_at_call 112; ((with_reducible refine (trim_nat ok _ (z.set x.length cr) _ (Own.reads HO2.out hok) HZ.out.1).mono ?_); rintro e w' ⟨v', rfl, hv, hb⟩; have HV := As hv; have HB' := As (below_step HB2.out hb); clear hv hb))
    go_ret
    exact ⟨_, rfl, by rw [show a + b = (val (z.set x.length cr)).toNat by have := HZ.out.2; have := HL.out.2; have := HM.out.2; omega]; exact HV.out, HB'.out⟩
/-
  The contracts of mul and mulSmall (package rational).
-/
theorem u64_in {x : Int} (h0 : 0 ≤ x) (h1 : x < 18446744073709551616) : IntKind.u64.wrap x = x := by
 show x % 18446744073709551616 = x
 exact Int.emod_eq_of_lt h0 h1
set_option maxHeartbeats 1000000 in
theorem mul_nat (ok : Nat → Prop) (v0 v1 : Value) (a b : Nat) (w : World) (hok : ∀ k, w.heap.size ≤ k → ok k) (h0 : IsNat w ok v0 a) (h1 : IsNat w ok v1 b) (hs : (a : Int) < pw 10000000) (hs' : (b : Int) < pw 10000000) :
  Calls Tryz.prog 78 #[v0, v1] w (RetNat ok (a * b) w) := by
 obtain ⟨x, ⟨A, c, rfl, hc, hF⟩, hl, hv⟩ := h0
 obtain ⟨y, ⟨A', c', rfl, hc', hF'⟩, hm, hv'⟩ := h1
 have hxl : x.length ≤ 10000000 := len_le hl (by omega)
 have hyl : y.length ≤ 10000000 := len_le hm (by omega)
 have HF := As hF
 have HF' := As hF'
 have HL := As (And.intro hl hv)
 have HM := As (And.intro hm hv')
 have HB := As (Below.refl w.heap.size w)
 clear hF hF' hl hm hv hv' hs hs'
 have hmk0 := As (show 0 ≤ (x.length : Int) + (y.length : Int) by omega)
 have hmk1 := As (show ((x.length : Int) + (y.length : Int)).toNat ≤ 70368744177664 by omega)
 go_enter Tryz.func78, Tryz.ntmps78
 go_wp2_with ((with_reducible refine gate_dst (N := 15) rfl ?_); refine Kd.R_make (Kd.int .u32) _ 65 rfl (N := 15) rfl 44 _ _ rfl ((x.length : Int) + (y.length : Int)) rfl rfl Tryz.underlying44 (.int .u32 0) 4 info_u32 rfl (by decide) (by omega) 0 (ok := fun _ => True) (okp := fun _ => True) rfl (fun _ hk => hk) trivial hmk0.out (Nat.le_trans (Nat.mul_le_mul_right _ hmk1.out) (by omega)) (Below.refl _ _) (Nat.le_refl _) ?_; intro z0 w1 ho_ hb_ hg_ hnew_; clear hg_ hnew_; have n0_ := As (Kd.R_lower ho_ (below_size (by repeat (first | (with_reducible first | exact HB.out | apply below_alloc | apply pw_below_drewN | apply below_drew1) | exact HB.out)))); have n1_ := As (below_step (by repeat (first | (with_reducible first | exact HB.out | apply below_alloc | apply pw_below_drewN | apply below_drew1) | exact HB.out)) hb_); clear HB; have HO := n0_; have HB := n1_; clear n0_ n1_ hb_ ho_)
 go_loopw [18] (fun vi wr => ∃ (i : Nat) (z : List Int), vi = .int .i64 i ∧ i ≤ x.length ∧ Aside0 (Own wr w.heap.size z0 z) ∧ Aside0 (MulRel x y z i) ∧ Aside0 (Below w.heap.size w wr)) (fun i _ => x.length - (intOf i).toNat)
 case atStart => exact ⟨0, _, rfl, Nat.zero_le _, HO, ⟨by have := MulRel.start x y; rw [show ((x.length : Int) + (y.length : Int)).toNat = x.length + y.length by omega]; exact this⟩, HB⟩
 case round =>
  clear HO HB
  obtain ⟨i, z, rfl, hi, HO, HN, HB⟩ := hrel
  by_cases hlt : i < x.length
  ·obtain ⟨ad, rfl, hcell0⟩ := F_at HF.out i hlt
   have hx := HL.out.1.1.nth i
   have HC0 := As hcell0
   clear hcell0
   go_wp2
   go_loopw [7, 23] (fun vc vj wr => ∃ (j : Nat) (z : List Int) (cr : Int), vj = .int .i64 j ∧ vc = .int .u64 cr ∧ j ≤ y.length ∧ 0 ≤ cr ∧ cr < 1000000000 ∧ Aside0 (Own wr w.heap.size z0 z) ∧ Aside0 (MulIn x y z i j cr) ∧ Aside0 (Below w.heap.size w wr)) (fun _ j _ => y.length - (intOf j).toNat)
   case atStart => exact ⟨0, z, 0, rfl, rfl, Nat.zero_le _, Int.le_refl _, by decide, HO, ⟨HN.out.enter⟩, HB⟩
   case round =>
    clear HO HB HN
    obtain ⟨j, z, cr, rfl, rfl, hj, hc0, hc9, HO, HN, HB⟩ := hrel
    have hzz : z.length = x.length + y.length := HN.out.2.1
    have HZZ := As hzz
    clear hzz
    by_cases hjl : j < y.length
    ·obtain ⟨ad', rfl, hcell'⟩ := F_at HF'.out j hjl
     replace hcell' := pw_cell_below HB.out hcell'
     have hcell := pw_cell_below HB.out HC0.out
     have hy := HM.out.1.1.nth j
     have hp := prod_bd hx.1 hx.2 hy.1 hy.2
     have hz := HN.out.1.nth (i + j)
     have hzl : i + j < z.length := by have := HZZ.out; omega
     (obtain ⟨g, cap, hvz, hgz, _, _⟩ := Kd.R_form HO.out (by omega)); subst hvz; have hgz' := As hgz; clear hgz; (obtain ⟨hxz, hfz⟩ := Kd.R_celln 0 HO.out ((i + j : Nat) : Int) (by omega) (by omega)); (simp only [Int.toNat_natCast, rdOf_nth] at hxz hfz)
     have HZ0 := As (show 0 ≤ nth x i * nth y j + nth z (i + j) + cr by omega)
     have hw1 : IntKind.i64.wrap ((i : Int) + (j : Int)) = (i : Int) + (j : Int) := IntWalk.i64_in _ (by omega)
     have hw2 : ((i : Int) + (j : Int)).toNat = i + j := by omega
     have hw3 : (0 : Int) ≤ (i : Int) + (j : Int) := by omega
     have hw4 : (i : Int) + (j : Int) < (z.length : Int) := by omega
     have hw5 : IntKind.u64.wrap (nth z (i + j)) = nth z (i + j) := u64_in (by omega) (by omega)
     have hw6 : IntKind.u64.wrap (nth x i * nth y j + nth z (i + j)) = nth x i * nth y j + nth z (i + j) := u64_in (by omega) (by omega)
     have hw7 : IntKind.u64.wrap (nth x i * nth y j + nth z (i + j) + cr) = nth x i * nth y j + nth z (i + j) + cr := u64_in (by omega) (by omega)
     go_wp2
     repeat (go_quiet (fail); try go_wp2)
     clear hw1 hw2 hw3 hw4 hw5 hw6 hw7
     go_roundw
     case rel => exact ⟨j + 1, _, (nth x i * nth y j + nth z (i + j) + cr) / 1000000000, by go_num, rfl, by omega, by omega, by omega, ⟨own_put (by (with_reducible repeat (first | apply Kd.R_alloc | apply Kd.R_drewN | apply Kd.R_drew)); exact HO.out) (i + j) _⟩, ⟨HN.out.next hlt hjl HZ0.out⟩, ⟨below_set (by repeat (first | (with_reducible first | exact HB.out | apply below_alloc | apply pw_below_drewN | apply below_drew1) | exact HB.out)) hgz'.out⟩⟩
     case measure => simp [intOf]; omega
    ·have he : j = y.length := by omega
     subst he
     have hzl : i + y.length < z.length := by have := HZZ.out; omega
     (obtain ⟨g, cap, hvz, hgz, _, _⟩ := Kd.R_form HO.out (by omega)); subst hvz; have hgz' := As hgz; clear hgz; (obtain ⟨hxz, hfz⟩ := Kd.R_celln 0 HO.out ((i + y.length : Nat) : Int) (by omega) (by omega)); (simp only [Int.toNat_natCast, rdOf_nth] at hxz hfz)
     have hw1 : IntKind.i64.wrap ((i : Int) + (y.length : Int)) = (i : Int) + (y.length : Int) := IntWalk.i64_in _ (by omega)
     have hw2 : ((i : Int) + (y.length : Int)).toNat = i + y.length := by omega
     have hw3 : (0 : Int) ≤ (i : Int) + (y.length : Int) := by omega
     have hw4 : (i : Int) + (y.length : Int) < (z.length : Int) := by omega
     go_wp2
     clear hw1 hw2 hw3 hw4
     go_roundw
     case rel => exact ⟨i + 1, _, by go_num, by omega, ⟨own_put HO.out (i + y.length) _⟩, ⟨HN.out.done hlt hc0 hc9⟩, ⟨below_set HB.out hgz'.out⟩⟩
     case measure => simp [intOf]; omega
  ·have he : i = x.length := by omega
   subst he
   have HZ := As (HN.out.done)
   go_wp2_with (go_at_call 112; ((with_reducible refine (trim_nat ok _ z _ (Own.reads HO.out hok) HZ.out.1).mono ?_); rintro e w' ⟨v', rfl, hv, hb⟩; have HV := As hv; have HB' := As (below_step HB.out hb); clear hv hb))
   go_ret
   exact ⟨_, rfl, by rw [show a * b = (val z).toNat by have h1 := HZ.out.2; have h2 := HL.out.2; have h3 := HM.out.2; rw [h2, h3] at h1; rw [h1, ← Int.natCast_mul]; rfl]; exact HV.out, HB'.out⟩
/-
  The contracts of mulSmall and divSmall (package rational).
-/
/-- A row of limbs of the call's own, not trimmed. -/
def RetRow (len : Nat) (n : Int) (w0 : World) (e : Ending) (w' : World) : Prop := ∃ v z, e = .returned v ∧ Own w' w0.heap.size v z ∧ Lim z ∧ z.length = len ∧ val z = n ∧ Below w0.heap.size w0 w'
set_option maxHeartbeats 1000000 in
theorem mulSmall_nat (ok : Nat → Prop) (v0 : Value) (x : List Int) (d : Int) (w : World) (h : U w ok v0 x) (hl : Lim x) (hs : x.length ≤ 10000000) (hd0 : 0 ≤ d) (hd1 : d < 1000000000) :
  Calls Tryz.prog 128 #[v0, .int .u32 d] w (RetRow (x.length + 1) (val x * d) w) := by
 obtain ⟨A, c, rfl, hc, hF⟩ := h
 have HF := As hF
 have HL := As hl
 have HB := As (Below.refl w.heap.size w)
 clear hF hl
 have hmk0 := As (show 0 ≤ (x.length : Int) + 1 by omega)
 have hmk1 := As (show ((x.length : Int) + 1).toNat ≤ 70368744177664 by omega)
 go_enter Tryz.func128, Tryz.ntmps128
 go_wp2_with ((with_reducible refine gate_dst (N := 12) rfl ?_); refine Kd.R_make (Kd.int .u32) _ 65 rfl (N := 12) rfl 44 _ _ rfl ((x.length : Int) + 1) rfl rfl Tryz.underlying44 (.int .u32 0) 4 info_u32 rfl (by decide) (by omega) 0 (ok := fun _ => True) (okp := fun _ => True) rfl (fun _ hk => hk) trivial hmk0.out (Nat.le_trans (Nat.mul_le_mul_right _ hmk1.out) (by omega)) (Below.refl _ _) (Nat.le_refl _) ?_; intro z0 w1 ho_ hb_ hg_ hnew_; clear hg_ hnew_; have n0_ := As (Kd.R_lower ho_ (below_size (by repeat (first | (with_reducible first | exact HB.out | apply below_alloc | apply pw_below_drewN | apply below_drew1) | exact HB.out)))); have n1_ := As (below_step (by repeat (first | (with_reducible first | exact HB.out | apply below_alloc | apply pw_below_drewN | apply below_drew1) | exact HB.out)) hb_); clear HB; have HO := n0_; have HB := n1_; clear n0_ n1_ hb_ ho_)
 go_loopw [6, 15] (fun vc vi wr => ∃ (k : Nat) (z : List Int) (cr : Int), vi = .int .i64 k ∧ vc = .int .u64 cr ∧ k ≤ x.length ∧ 0 ≤ cr ∧ cr < 1000000000 ∧ Aside0 (Own wr w.heap.size z0 z) ∧ Aside0 (SmRel x z d k cr) ∧ Aside0 (Below w.heap.size w wr)) (fun _ i _ => x.length - (intOf i).toNat)
 case atStart => exact ⟨0, _, 0, rfl, rfl, Nat.zero_le _, Int.le_refl _, by decide, HO, ⟨by have := SmRel.start x d; rw [show ((x.length : Int) + 1).toNat = x.length + 1 by omega]; exact this⟩, HB⟩
 case round =>
  clear HO HB
  obtain ⟨k, z, cr, rfl, rfl, hk, hc0, hc9, HO, HN, HB⟩ := hrel
  have hzz : z.length = x.length + 1 := HN.out.2.1
  have HZZ := As hzz
  clear hzz
  have hzl : k < z.length := by have := HZZ.out; omega
  (obtain ⟨g, cap, hvz, hgz, _, _⟩ := Kd.R_form HO.out (by omega)); subst hvz; have hgz' := As hgz; clear hgz; (obtain ⟨hxz, hfz⟩ := Kd.R_celln 0 HO.out ((k : Nat) : Int) (by omega) (by omega)); (simp only [Int.toNat_natCast, rdOf_nth] at hxz hfz)
  by_cases hlt : k < x.length
  ·obtain ⟨ad, rfl, hcell⟩ := F_at HF.out k hlt
   have hx := HL.out.nth k
   have hp := prod_bd hx.1 hx.2 hd0 hd1
   replace hcell := pw_cell_below HB.out hcell
   have HZ0 := As (show 0 ≤ nth x k * d + cr by omega)
   go_wp2
   go_roundw
   case rel => exact ⟨k + 1, _, (nth x k * d + cr) / 1000000000, by go_num, rfl, by omega, by omega, by omega, ⟨own_put HO.out k _⟩, ⟨HN.out.next hlt HZ0.out⟩, ⟨below_set HB.out hgz'.out⟩⟩
   case measure => simp [intOf]; omega
  ·have he : k = x.length := by omega
   subst he
   have HZ := As (HN.out.done hc0 hc9)
   go_wp2
   go_ret
   exact ⟨_, _, rfl, own_put HO.out x.length cr, HZ.out.1, HZ.out.2.1, HZ.out.2.2, below_set HB.out hgz'.out⟩
def RetDS (ok : Nat → Prop) (a : Nat) (d : Nat) (w0 : World) (e : Ending) (w' : World) : Prop := ∃ v, e = .returned (.tuple #[v, .int .u32 ((a % d : Nat) : Int)]) ∧ IsNat w' ok v (a / d) ∧ Below w0.heap.size w0 w'
set_option maxHeartbeats 1000000 in
theorem divSmall_nat (ok : Nat → Prop) (v0 : Value) (x : List Int) (d : Nat) (w : World) (hok : ∀ k, w.heap.size ≤ k → ok k) (h : U w ok v0 x) (hl : Lim x) (hs : x.length ≤ 10000000) (hd0 : 1 ≤ d) (hd1 : d < 1000000000) :
  Calls Tryz.prog 127 #[v0, .int .u32 (d : Int)] w (RetDS ok (val x).toNat d w) := by
 obtain ⟨A, c, rfl, hc, hF⟩ := h
 have HF := As hF
 have HL := As hl
 have HB := As (Below.refl w.heap.size w)
 clear hF hl
 have hmk0 := As (show 0 ≤ (x.length : Int) by omega)
 have hmk1 := As (show (x.length : Int).toNat ≤ 70368744177664 by omega)
 have hx63 : x.length ≤ 9223372036854775807 := by omega
 go_enter Tryz.func127, Tryz.ntmps127
 go_wp2_with ((with_reducible refine gate_dst (N := 13) rfl ?_); refine Kd.R_make (Kd.int .u32) _ 65 rfl (N := 13) rfl 44 _ _ rfl ((x.length : Int)) rfl rfl Tryz.underlying44 (.int .u32 0) 4 info_u32 rfl (by decide) (by omega) 0 (ok := fun _ => True) (okp := fun _ => True) rfl (fun _ hk => hk) trivial hmk0.out (Nat.le_trans (Nat.mul_le_mul_right _ hmk1.out) (by omega)) (Below.refl _ _) (Nat.le_refl _) ?_; intro z0 w1 ho_ hb_ hg_ hnew_; clear hg_ hnew_; have n0_ := As (Kd.R_lower ho_ (below_size (by repeat (first | (with_reducible first | exact HB.out | apply below_alloc | apply pw_below_drewN | apply below_drew1) | exact HB.out)))); have n1_ := As (below_step (by repeat (first | (with_reducible first | exact HB.out | apply below_alloc | apply pw_below_drewN | apply below_drew1) | exact HB.out)) hb_); clear HB; have HO := n0_; have HB := n1_; clear n0_ n1_ hb_ ho_)
 go_loopw [7, 16] (fun vc vi wr => ∃ (k : Nat) (z : List Int) (rs : Int), vi = .int .i64 k ∧ vc = .int .u64 rs ∧ k ≤ x.length ∧ 0 ≤ rs ∧ rs < d ∧ Aside0 (Own wr w.heap.size z0 z) ∧ Aside0 (DsRel x z d k rs) ∧ Aside0 (Below w.heap.size w wr)) (fun _ i _ => x.length - (intOf i).toNat)
 case atStart => exact ⟨0, _, 0, rfl, rfl, Nat.zero_le _, Int.le_refl _, by omega, HO, ⟨by have := DsRel.start x d; simpa using this⟩, HB⟩
 case round =>
  clear HO HB
  obtain ⟨k, z, rs, rfl, rfl, hk, hr0, hr1, HO, HN, HB⟩ := hrel
  have hzz : z.length = x.length := HN.out.2.1
  have HZZ := As hzz
  clear hzz
  by_cases hlt : k < x.length
  ·obtain ⟨i, hi⟩ : ∃ i : Nat, x.length - 1 - k = i := ⟨_, rfl⟩
   have hidx : ((x.length : Int) - 1 - (k : Int)) = (i : Int) := by omega
   have hzl : i < z.length := by have := HZZ.out; omega
   have hil : i < x.length := by omega
   have HI := As hi
   clear hi
   obtain ⟨ad, rfl, hcell⟩ := F_at HF.out i (by omega)
   have hx := HL.out.nth i
   replace hcell := pw_cell_below HB.out hcell
   (obtain ⟨g, cap, hvz, hgz, _, _⟩ := Kd.R_form HO.out (by omega)); subst hvz; have hgz' := As hgz; clear hgz; (obtain ⟨hxz, hfz⟩ := Kd.R_celln 0 HO.out ((i : Nat) : Int) (by omega) (by omega)); (simp only [Int.toNat_natCast, rdOf_nth] at hxz hfz)
   go_wp2
   have hq0 : 0 ≤ (rs * 1000000000 + nth x i) / (d : Int) := Int.ediv_nonneg (by omega) (by omega)
   have hq1 : (rs * 1000000000 + nth x i) / (d : Int) < 1000000000 := Int.ediv_lt_of_lt_mul (by omega) (by omega)
   have hr2 : 0 ≤ (rs * 1000000000 + nth x i) % (d : Int) := Int.emod_nonneg _ (by omega)
   have hr3 : (rs * 1000000000 + nth x i) % (d : Int) < (d : Int) := Int.emod_lt_of_pos _ (by omega)
   have hdz : ((d : Int) == 0) = false := by simp; omega
   go_region
   go_wp2
   go_roundw
   case rel => exact ⟨k + 1, _, (rs * 1000000000 + nth x i) % (d : Int), by go_num, rfl, by omega, hr2, hr3, ⟨Kd.R_drew (own_put HO.out i _)⟩, ⟨HN.out.next (by have := HI.out; omega) HL.out (by omega) hr0 hr1⟩, ⟨below_drew1 (below_set HB.out hgz'.out)⟩⟩
   case measure => simp [intOf]; omega
  ·have he : k = x.length := by omega
   subst he
   have HZ := As (HN.out.done (by omega) hr0 hr1)
   go_wp2_with (go_at_call 112; ((with_reducible refine (trim_nat ok _ z _ (Own.reads HO.out hok) HZ.out.1).mono ?_); rintro e w' ⟨v', rfl, hv, hb⟩; have HV := As hv; have HB' := As (below_step HB.out hb); clear hv hb))
   go_ret2
   have hx0 := (val_bound HL.out).1
   have hd := HZ.out.2.1
   have hr := HZ.out.2.2
   refine ⟨v', ?_, ?_, HB'.out⟩
   ·show Ending.returned (.tuple #[v', .int .u32 rs]) = _
    rw [show ((((val x).toNat % d : Nat)) : Int) = rs by rw [Int.natCast_emod, Int.toNat_of_nonneg hx0]; omega]
   ·have h5 : (((val x).toNat / d : Nat) : Int) = val x / (d : Int) := by rw [Int.natCast_ediv, Int.toNat_of_nonneg hx0]
    rw [show (val x).toNat / d = (val z).toNat by rw [hd, ← h5, Int.toNat_natCast]]; exact HV.out
end Go.Proofs.YtldkcpgnccknpaaGreat
