/-
  The parts RefA, RefB, RefC, RefD, RefE, RefF, RefG, RefH, RefI, RefJ, RefK: the contracts of the program's functions and the plain laws below them; each part's own remark says which.
-/
import Derived.Test.YtldkcpgnccknpaaGreatMC
import Derived.Test.YtldkcpgnccknpaaGreatMN
import Derived.Laws.FloatArith
import Derived.Deep.LoopGhost
import Derived.WalkLawsBesides
set_option linter.unusedVariables false
set_option linter.unusedSimpArgs false
/-
  The contracts of cut, nat and limbs (the reference of layer 1).
-/
namespace Go.Proofs.YtldkcpgnccknpaaGreat
open Go.RowKit Go.Proofs.YtldkcpgnccknpaaGreatW.PrintWords Go.Proofs.YtldkcpgnccknpaaGreatW.PrintMore Go.Proofs.YtldkcpgnccknpaaGreatW.PrintLast Num
set_option linter.unusedVariables false
set_option maxHeartbeats 1000000 in
theorem cut_nat (ok : Nat → Prop) (v : Value) (l : List Int) (w : World) (hok : ∀ k, w.heap.size ≤ k → ok k) (h : U w ok v l) (hl : Lim l) (hs : l.length ≤ 20000000) :
  Calls Tryz.prog 87 #[v] w (RetNat ok (val l).toNat w) := by
 obtain ⟨A, c, rfl, hc, hF⟩ := h
 have hm := Kd.F_max hF
 have HF := As hF
 have HL := As hl
 clear hF hl
 go_enter Tryz.func87, Tryz.ntmps87
 go_upto_block 0 with fail
 go_cut [3] (fun v wx => ∃ n : Nat, v = .int .i64 n ∧ n ≤ l.length ∧ Aside0 (Zeros l n) ∧ Aside0 (0 < n → nth l (n - 1) ≠ 0) ∧ w = wx)
 case first =>
  go_wp2
  go_loop [3] (fun v => ∃ n : Nat, v = .int .i64 n ∧ n ≤ l.length ∧ Aside0 (Zeros l n)) (fun v => (intOf v).toNat)
  case atStart => exact ⟨l.length, rfl, Nat.le_refl _, ⟨fun j h1 h2 => by omega⟩⟩
  case round =>
   obtain ⟨n, rfl, hn, hz⟩ := hrel
   rcases Nat.eq_zero_or_pos n with h0 | h0
   ·subst h0
    go_wp2
    go_meet
    case rel => exact ⟨0, rfl, Nat.zero_le _, hz, ⟨fun h => by omega⟩, rfl⟩
   ·obtain ⟨ad, rfl, hcell⟩ := F_at HF.out (n - 1) (by omega)
    by_cases hx : nth l (n - 1) = 0
    ·have HX := As hx
     rw [hx] at hcell
     clear hx
     go_wp2
     go_round
     case rel => exact ⟨n - 1, by go_num, by omega, ⟨fun j h1 h2 => if he : j = n - 1 then by rw [he]; exact HX.out else hz.out j (by omega) h2⟩⟩
     case measure => simp [intOf]; omega
    ·have hb : (nth l (n - 1) == 0) = false := beq_eq_false_iff_ne.mpr hx
     have HX := As hx
     clear hx
     go_wp2
     go_meet
     case rel => exact ⟨n, rfl, hn, hz, ⟨fun _ => HX.out⟩, rfl⟩
 case rest =>
  obtain ⟨n, rfl, hn, hz, ht, rfl⟩ := hcut
  have hlen : (l.take n).length = n := by rw [List.length_take]; omega
  have HC := As (Kd.F_now (F_take HF.out hn))
  rw [hlen] at HC
  have HN := As (nrm_take HL.out hn ht.out)
  have HV := As (Num.trimmed hn hz.out)
  have HO := As (Own.nil w w.heap.size)
  have hnc : n ≤ c := by omega
  clear hlen
  go_wp2_with ((with_reducible refine gate_builtin (b := .append) (xs := #[.const (.slice none 0 0), .tmp 20]) rfl ?_); refine Kd.R_append_rows (Kd.int .u32) (w0 := w) w.heap.size rfl (.const (.slice none 0 0)) (.tmp 20) 44 65 (.int .u32 0) 4 rfl Tryz.underlying44 info_u32 rfl (by decide) (by omega) _ [] (l.take n) A n c (fun _ => True) (fun _ => False) rfl rfl HO.out HC.out (fun x cs h => h) (fun _ hk => hk.elim) (fun _ _ => trivial) (Below.refl _ _) (Nat.le_refl _) (by simp; omega) ?_; intro v1 w1 ho_ hb_ hg_ hat_; have HO1 := As ho_; have HB1 := As hb_; clear ho_ hb_ hg_ hat_)
  go_ret
  have hv0 := (val_bound HL.out).1
  exact ⟨_, rfl, ⟨l.take n, Own.reads HO1.out hok, HN.out, by rw [HV.out]; omega⟩, HB1.out⟩
set_option maxHeartbeats 1000000 in
theorem refnat_nat (ok : Nat → Prop) (v : Value) (l : List Int) (w : World) (hok : ∀ k, w.heap.size ≤ k → ok k) (h : U w ok v l) (hl : U32 l) (hs : l.length ≤ 10000000) :
  Calls Tryz.prog 53 #[v] w (RetNat ok (val l).toNat w) := by
 obtain ⟨A, c, rfl, hc, hF⟩ := h
 have HF := As hF
 have HL := As hl
 have HB := As (Below.refl w.heap.size w)
 have HO := As (Own.nil w w.heap.size)
 have HOK := As hok
 clear hF hl hok
 go_enter Tryz.func53, Tryz.ntmps53
 go_wp2
 go_loopw [3, 4, 5] (fun vz vc vi wr => ∃ (k : Nat) (z : List Int) (cr : Int), vi = .int .i64 k ∧ vc = .int .u64 cr ∧ k ≤ l.length ∧ 0 ≤ cr ∧ cr ≤ 4 ∧ Aside0 (Own wr w.heap.size vz z) ∧ Aside0 (NormRel l z k cr) ∧ Aside0 (Below w.heap.size w wr)) (fun _ _ i _ => l.length - (intOf i).toNat)
 case atStart => exact ⟨0, [], 0, rfl, rfl, Nat.zero_le _, Int.le_refl _, by decide, HO, ⟨NormRel.start l⟩, HB⟩
 case round =>
  clear HO HB
  obtain ⟨k, z, cr, rfl, rfl, hk, hc0, hc4, HO, HN, HB⟩ := hrel
  by_cases hlt : k < l.length
  ·obtain ⟨ad, rfl, hcell⟩ := F_at HF.out k hlt
   have hx := HL.out.nth k
   replace hcell := pw_cell_below HB.out hcell
   go_wp2_with ((with_reducible refine gate_builtin (b := .append) (xs := #[.tmp 19, .tmp 23]) rfl ?_); at_builtin; refine Kd.R_append (Kd.int .u32) (w0 := w) w.heap.size rfl (.tmp 19) (.tmp 23) 44 65 (.int .u32 0) 4 rfl Tryz.underlying44 info_u32 rfl (by decide) (by omega) u3 z ((cr + nth l k) % 1000000000) [.int .u32 ((cr + nth l k) % 1000000000)] (fun _ => True) (fun _ => False) rfl rfl ?aP (fun _ hk => hk.elim) ?aF ?aO ?aB ?aS ?aL ?_; (case aP => exact rfl); (case aB => exact (by repeat (first | (with_reducible first | exact HB.out | apply below_alloc | apply pw_below_drewN | apply below_drew1) | exact HB.out))); (case aF => exact (fun _ _ => trivial)); (case aO => exact (by (with_reducible repeat (first | apply Kd.R_alloc | apply Kd.R_drewN | apply Kd.R_drew)); exact HO.out)); (case aS => exact (below_size (by repeat (first | (with_reducible first | exact HB.out | apply below_alloc | apply pw_below_drewN | apply below_drew1) | exact HB.out)))); (case aL => have := HN.out.2.1; omega); intro v5 w5 ho_ hb_ hg_ hat_; have n0_ := As hb_; have n1_ := As ho_; clear HO HB; have HB := n0_; have HO := n1_; clear n0_ n1_ ho_ hb_ hg_ hat_)
   go_roundw
   case rel =>
    have h1 := HN.out.next hlt hc0 hx.1
    rw [Int.add_comm (nth l k) cr] at h1
    exact ⟨k + 1, _, (cr + nth l k) / 1000000000, by go_num, rfl, by omega, by omega, by omega, HO, ⟨h1⟩, HB⟩
   case measure => simp [intOf]; omega
  ·have he : k = l.length := by omega
   subst he
   by_cases hz : cr ≤ 0
   ·have HZ := As (HN.out.done hz hc0)
    have hzb : decide (0 < cr) = false := by simp; omega
    have HZL := As (show z.length ≤ 20000000 by have := HN.out.2.1; omega)
    have HU := As (Own.reads (ok := ok) HO.out HOK.out)
    have HL1 := As HZ.out.1
    have HOK1 := As (show ∀ k, wr.heap.size ≤ k → ok k from fun k hk => HOK.out k (Nat.le_trans HB.out.size hk))
    go_wp2_with (go_at_call 87; ((with_reducible refine (cut_nat ok _ z _ HOK1.out HU.out HL1.out HZL.out).mono ?_); rintro e w' ⟨v', rfl, hv, hb⟩; have HV := As hv; have HB' := As (below_step HB.out hb); clear hv hb))
    go_ret
    exact ⟨_, rfl, by rw [← HZ.out.2]; exact HV.out, HB'.out⟩
   ·have HZ := As (HN.out.more hc0 (by omega))
    have hzb : decide (0 < cr) = true := by simp; omega
    have hl1 := HN.out.2.1
    have HL1 := As hl1
    have HL2 := As HZ.out.1
    have HZL := As (show (z ++ [cr]).length ≤ 20000000 by rw [List.length_append, List.length_singleton]; omega)
    clear hl1
    go_wp2_with (first | ((with_reducible refine gate_builtin (b := .append) (xs := #[.tmp 29, .tmp 32]) rfl ?_); at_builtin; refine Kd.R_append (Kd.int .u32) (w0 := w) w.heap.size rfl (.tmp 29) (.tmp 32) 44 65 (.int .u32 0) 4 rfl Tryz.underlying44 info_u32 rfl (by decide) (by omega) u3 z (cr) [.int .u32 (cr)] (fun _ => True) (fun _ => False) rfl rfl ?aP (fun _ hk => hk.elim) ?aF ?aO ?aB ?aS ?aL ?_; (case aP => exact rfl); (case aB => exact (by repeat (first | (with_reducible first | exact HB.out | apply below_alloc | apply pw_below_drewN | apply below_drew1) | exact HB.out))); (case aF => exact (fun _ _ => trivial)); (case aO => exact (by (with_reducible repeat (first | apply Kd.R_alloc | apply Kd.R_drewN | apply Kd.R_drew)); exact HO.out)); (case aS => exact (below_size (by repeat (first | (with_reducible first | exact HB.out | apply below_alloc | apply pw_below_drewN | apply below_drew1) | exact HB.out)))); (case aL => have := HL1.out; omega); intro v5 w5 ho_ hb_ hg_ hat_; have n0_ := As hb_; have n1_ := As ho_; clear HO HB; have HB := n0_; have HO := n1_; clear n0_ n1_ ho_ hb_ hg_ hat_) | (go_at_call 87; ((with_reducible refine (cut_nat ok _ (z ++ [cr]) _ (fun k hk => HOK.out k (Nat.le_trans HB.out.size hk)) (Own.reads HO.out HOK.out) HL2.out HZL.out).mono ?_); rintro e w' ⟨v', rfl, hv, hb⟩; have HV := As hv; have HB' := As (below_step HB.out hb); clear hv hb)))
    go_ret
    exact ⟨_, rfl, by rw [← HZ.out.2]; exact HV.out, HB'.out⟩
/-- What limbs' loop knows: z so far, m is left. -/
def LimbRel (n : Int) (z : List Int) (m : Int) : Prop := Lim z ∧ val z + pw z.length * m = n ∧ (m = 0 → z.length = 0 ∨ nth z (z.length - 1) ≠ 0)
theorem nth_snoc (z : List Int) (x : Int) : nth (z ++ [x]) ((z ++ [x]).length - 1) = x := by
 unfold nth
 rw [List.getD_eq_getElem?_getD, List.getElem?_append_right (by simp)]
 simp
theorem LimbRel.start (n : Int) : LimbRel n [] n := ⟨Lim.nil, by simp [val, pw_zero], fun _ => .inl rfl⟩
theorem LimbRel.next {n m : Int} {z : List Int} (h : LimbRel n z m) (hm : 0 < m) : LimbRel n (z ++ [m % 1000000000]) (m / 1000000000) := by
 obtain ⟨h1, h2, h3⟩ := h
 refine ⟨h1.append (Lim.single (by omega) (by omega)), ?_, fun e => .inr ?_⟩
 ·rw [val_snoc, List.length_append, List.length_singleton, pw_succ]
  have := Int.emod_add_mul_ediv m 1000000000
  grind
 ·rw [nth_snoc]; omega
theorem LimbRel.short {n m : Int} {z : List Int} (h : LimbRel n z m) (hm : 0 < m) (hn : n < 18446744073709551616) : z.length ≤ 2 := by
 obtain ⟨h1, h2, h3⟩ := h
 have h4 := (val_bound h1).1
 have h5 : pw z.length * 1 ≤ pw z.length * m := Int.mul_le_mul_of_nonneg_left (by omega) (by have := pw_pos z.length; omega)
 have h6 : pw 3 = 1000000000000000000000000000 := rfl
 have := pw_lt (a := z.length) (b := 3) (by omega)
 omega
theorem LimbRel.done {n : Int} {z : List Int} (h : LimbRel n z 0) : Nrm z ∧ val z = n := by
 obtain ⟨h1, h2, h3⟩ := h
 exact ⟨⟨h1, h3 rfl⟩, by rw [← h2]; omega⟩
set_option maxHeartbeats 1000000 in
theorem limbs_nat (ok : Nat → Prop) (n : Int) (w : World) (hok : ∀ k, w.heap.size ≤ k → ok k) (h0 : 0 ≤ n) (h1 : n < 18446744073709551616) :
  Calls Tryz.prog 29 #[.int .u64 n] w (RetNat ok n.toNat w) := by
 have HB := As (Below.refl w.heap.size w)
 have HO := As (Own.nil w w.heap.size)
 have HOK := As hok
 clear hok
 have HN1 := As h1
 go_enter Tryz.func29, Tryz.ntmps29
 go_wp2
 go_loopw [0, 3] (fun vn vz wr => ∃ (z : List Int) (m : Int), vn = .int .u64 m ∧ 0 ≤ m ∧ m < 18446744073709551616 ∧ Aside0 (Own wr w.heap.size vz z) ∧ Aside0 (LimbRel n z m) ∧ Aside0 (Below w.heap.size w wr)) (fun vn _ _ => (intOf vn).toNat)
 case atStart => exact ⟨[], n, rfl, h0, h1, HO, ⟨LimbRel.start n⟩, HB⟩
 case round =>
  clear HO HB
  obtain ⟨z, m, rfl, hm0, hm1, HO, HN, HB⟩ := hrel
  by_cases hlt : 0 < m
  ·have hlb : decide (0 < m) = true := decide_eq_true hlt
   go_wp2_with ((with_reducible refine gate_builtin (b := .append) (xs := #[.tmp 6, .tmp 10]) rfl ?_); at_builtin; refine Kd.R_append (Kd.int .u32) (w0 := w) w.heap.size rfl (.tmp 6) (.tmp 10) 44 65 (.int .u32 0) 4 rfl Tryz.underlying44 info_u32 rfl (by decide) (by omega) u3 z (m % 1000000000) [.int .u32 (m % 1000000000)] (fun _ => True) (fun _ => False) rfl rfl ?aP (fun _ hk => hk.elim) ?aF ?aO ?aB ?aS ?aL ?_; (case aP => exact rfl); (case aB => exact (by repeat (first | (with_reducible first | exact HB.out | apply below_alloc | apply pw_below_drewN | apply below_drew1) | exact HB.out))); (case aF => exact (fun _ _ => trivial)); (case aO => exact (by (with_reducible repeat (first | apply Kd.R_alloc | apply Kd.R_drewN | apply Kd.R_drew)); exact HO.out)); (case aS => exact (below_size (by repeat (first | (with_reducible first | exact HB.out | apply below_alloc | apply pw_below_drewN | apply below_drew1) | exact HB.out)))); (case aL => have := HN.out.short hlt HN1.out; omega); intro v5 w5 ho_ hb_ hg_ hat_; have n0_ := As hb_; have n1_ := As ho_; clear HO HB; have HB := n0_; have HO := n1_; clear n0_ n1_ ho_ hb_ hg_ hat_)
   go_roundw
   case rel => exact ⟨_, m / 1000000000, rfl, by omega, by omega, HO, ⟨HN.out.next hlt⟩, HB⟩
   case measure => simp [intOf]; omega
  ·have he : m = 0 := by omega
   subst he
   go_wp2
   go_ret
   have hd := HN.out.done
   exact ⟨_, rfl, ⟨z, Own.reads HO.out HOK.out, hd.1, by rw [hd.2]; omega⟩, HB.out⟩
/-
  The contracts of natCmp, natAdd and natSub (the reference of layer 1).
-/
set_option maxHeartbeats 1000000 in
theorem natCmp_nat (ok : Nat → Prop) (v0 v1 : Value) (a b : Nat) (w : World) (h0 : IsNat w ok v0 a) (h1 : IsNat w ok v1 b) :
  Calls Tryz.prog 85 #[v0, v1] w (RetCmp a b w) := by
 obtain ⟨l, ⟨A, c, rfl, hc, hF⟩, hl, hv⟩ := h0
 obtain ⟨m, ⟨A', c', rfl, hc', hF'⟩, hm, hv'⟩ := h1
 have hx := Kd.F_max hF
 have hx' := Kd.F_max hF'
 have HF := As hF
 have HF' := As hF'
 have HL := As (And.intro hl hv)
 have HM := As (And.intro hm hv')
 clear hF hF' hl hm hv hv'
 by_cases he : l.length = m.length
 ·have HE := As he
  have hb0 : (l.length == m.length) = true := by simpa using he
  have hb1 : ((l.length : Int) != (m.length : Int)) = false := by simp; omega
  clear he
  go_enter Tryz.func85, Tryz.ntmps85
  go_wp2
  go_loopw [5] (fun v w' => ∃ j : Nat, v = .int .i64 ((j : Int) - 1) ∧ j ≤ l.length ∧ Aside0 (val (l.drop j) = val (m.drop j)) ∧ Drawn0 w w') (fun v _ => (intOf v + 1).toNat)
  case atStart => exact ⟨l.length, rfl, Nat.le_refl _, ⟨by rw [List.drop_eq_nil_of_le (Nat.le_refl _), List.drop_eq_nil_of_le (by have := HE.out; omega)]⟩, Drawn0.refl _⟩
  case round =>
   obtain ⟨j, rfl, hj, HK, ⟨nd, rfl⟩⟩ := hrel
   rcases Nat.eq_zero_or_pos j with h0 | h0
   ·subst h0
    have hge : decide ((0 : Int) ≤ ((0 : Nat) : Int) - 1) = false := by decide
    go_wp2
    go_ret
    exact RetCmp.mk (cmpI_eq (by have h1 := HK.out; rw [List.drop_zero, List.drop_zero] at h1; have := HL.out.2; have := HM.out.2; omega)) (by repeat (first | exact (Drawn0.refl _).below | apply pw_below_drewN | exact Below.refl _ _))
   ·obtain ⟨i, rfl⟩ : ∃ i, j = i + 1 := ⟨j - 1, by omega⟩
    have hid : (((i + 1 : Nat) : Int) - 1) = (i : Int) := by omega
    rw [hid]
    obtain ⟨ad, rfl, hcell⟩ := F_at HF.out i (by omega)
    obtain ⟨ad', rfl, hcell'⟩ := F_at HF'.out i (by have := HE.out; omega)
    have hil : i < l.length := by omega
    have him : i < m.length := by have := HE.out; omega
    clear hid
    by_cases hxl : nth l i < nth m i
    ·have hbl : decide (nth l i < nth m i) = true := decide_eq_true hxl
     have HX2 := As (top_lt HL.out.1.1 HM.out.1.1 HE.out hil HK.out hxl)
     clear hxl
     go_wp2
     repeat (go_quiet (fail); try go_wp2)
     go_ret
     exact RetCmp.mk (cmpI_lt (by have := HX2.out; have := HL.out.2; have := HM.out.2; omega)) (by repeat (first | exact (Drawn0.refl _).below | apply pw_below_drewN | exact Below.refl _ _))
    ·have hbl : decide (nth l i < nth m i) = false := decide_eq_false hxl
     by_cases hxg : nth m i < nth l i
     ·have hbg : decide (nth m i < nth l i) = true := decide_eq_true hxg
      have HX2 := As (top_lt HM.out.1.1 HL.out.1.1 HE.out.symm him HK.out.symm hxg)
      clear hxl hxg
      go_wp2
      repeat (go_quiet (fail); try go_wp2)
      go_ret
      exact RetCmp.mk (cmpI_gt (by have := HX2.out; have := HL.out.2; have := HM.out.2; omega)) (by repeat (first | exact (Drawn0.refl _).below | apply pw_below_drewN | exact Below.refl _ _))
     ·have hbg : decide (nth m i < nth l i) = false := decide_eq_false hxg
      have HX := As (show nth l i = nth m i by omega)
      clear hxl hxg
      go_wp2
      repeat (go_quiet (fail); try go_wp2)
      go_roundw
      case rel => exact ⟨i, rfl, by omega, ⟨by rw [val_drop hil, val_drop him, HX.out, HK.out]⟩, by repeat (first | exact Drawn0.refl _ | apply Drawn0.step)⟩
      case measure => simp [intOf]
 ·have hb1 : ((l.length : Int) != (m.length : Int)) = true := by simp; omega
  have hb0 : (l.length == m.length) = false := by simpa using he
  by_cases hlt : l.length < m.length
  ·go_enter Tryz.func85, Tryz.ntmps85
   go_wp2
   go_ret
   exact RetCmp.mk (cmpI_lt (by have := len_lt HL.out.1.1 HM.out.1 hlt; have := HL.out.2; have := HM.out.2; omega)) (Below.refl _ _)
  ·have hgt : m.length < l.length := by omega
   go_enter Tryz.func85, Tryz.ntmps85
   go_wp2
   go_ret
   exact RetCmp.mk (cmpI_gt (by have := len_lt HM.out.1.1 HL.out.1 hgt; have := HL.out.2; have := HM.out.2; omega)) (Below.refl _ _)
def RetLim (ok : Nat → Prop) (n : Int) (len : Nat) (w0 : World) (e : Ending) (w' : World) : Prop := ∃ v l, e = .returned v ∧ U w' ok v l ∧ Lim l ∧ val l = n ∧ l.length ≤ len ∧ Below w0.heap.size w0 w'
set_option maxHeartbeats 2000000 in
theorem natAdd_nat (ok : Nat → Prop) (v0 v1 : Value) (a b : Nat) (w : World) (hok : ∀ k, w.heap.size ≤ k → ok k) (h0 : IsNat w ok v0 a) (h1 : IsNat w ok v1 b) (hs : (a : Int) < pw 9000000) (hs' : (b : Int) < pw 9000000) :
  Calls Tryz.prog 84 #[v0, v1] w (RetLim ok ((a : Int) + b) 10000000 w) := by
 obtain ⟨x, ⟨A, c, rfl, hc, hF⟩, hl, hv⟩ := h0
 obtain ⟨y, ⟨A', c', rfl, hc', hF'⟩, hm, hv'⟩ := h1
 have hxl : x.length ≤ 9000000 := len_le hl (by omega)
 have hyl : y.length ≤ 9000000 := len_le hm (by omega)
 have HF := As hF
 have HF' := As hF'
 have HL := As (And.intro hl hv)
 have HM := As (And.intro hm hv')
 have HB := As (Below.refl w.heap.size w)
 have HO := As (Own.nil w w.heap.size)
 have HOK := As hok
 clear hF hF' hl hm hv hv' hs hs' hok
 go_enter Tryz.func84, Tryz.ntmps84
 go_wp2
 go_loopw [5, 6, 7] (fun vz vc vi wr => ∃ (k : Nat) (z : List Int) (cr : Int), vi = .int .i64 k ∧ vc = .int .u32 cr ∧ (k ≤ x.length + 1 ∨ k ≤ y.length + 1) ∧ (x.length < k → y.length < k → cr = 0) ∧ 0 ≤ cr ∧ cr ≤ 1 ∧ Aside0 (Own wr w.heap.size vz z) ∧ Aside0 (AddW x y z k cr) ∧ Aside0 (Below w.heap.size w wr)) (fun _ _ i _ => x.length + y.length + 2 - (intOf i).toNat)
 case atStart => exact ⟨0, [], 0, rfl, rfl, by omega, by omega, by omega, by omega, HO, ⟨AddW.start x y⟩, HB⟩
 case round =>
  clear HO HB
  obtain ⟨k, z, cr, rfl, rfl, hk, hlast, hc0, hc1, HO, HN, HB⟩ := hrel
  have hx := HL.out.1.1.nth k
  have hy := HM.out.1.1.nth k
  have HLAST := As hlast
  clear hlast
  have hzl := HN.out.2.1
  have HZL := As hzl
  clear hzl
  by_cases hkx : k < x.length
  ·have d1 : decide ((k : Int) < (x.length : Int)) = true := decide_eq_true (by omega)
   obtain ⟨ad, rfl, hcell⟩ := F_at HF.out k hkx
   replace hcell := pw_cell_below HB.out hcell
   by_cases hky : k < y.length
   ·have d2 : decide ((k : Int) < (y.length : Int)) = true := decide_eq_true (by omega)
    obtain ⟨ad', rfl, hcell'⟩ := F_at HF'.out k hky
    replace hcell' := pw_cell_below HB.out hcell'
    go_wp2_with ((with_reducible refine gate_builtin (b := .append) (xs := #[.tmp 48, .tmp 51]) rfl ?_); at_builtin; refine Kd.R_append (Kd.int .u32) (w0 := w) w.heap.size rfl (.tmp 48) (.tmp 51) 44 65 (.int .u32 0) 4 rfl Tryz.underlying44 info_u32 rfl (by decide) (by omega) u5 z ((cr + nth x k + nth y k) % 1000000000) [.int .u32 ((cr + nth x k + nth y k) % 1000000000)] (fun _ => True) (fun _ => False) rfl rfl ?aP (fun _ hk => hk.elim) ?aF ?aO ?aB ?aS ?aL ?_; (case aP => exact rfl); (case aB => exact (by repeat (first | (with_reducible first | exact HB.out | apply below_alloc | apply pw_below_drewN | apply below_drew1) | exact HB.out))); (case aF => exact (fun _ _ => trivial)); (case aO => exact (by (with_reducible repeat (first | apply Kd.R_alloc | apply Kd.R_drewN | apply Kd.R_drew)); exact HO.out)); (case aS => exact (below_size (by repeat (first | (with_reducible first | exact HB.out | apply below_alloc | apply pw_below_drewN | apply below_drew1) | exact HB.out)))); (case aL => have := HZL.out; omega); intro v5 w5 ho_ hb_ hg_ hat_; have n0_ := As hb_; have n1_ := As ho_; clear HO HB; have HB := n0_; have HO := n1_; clear n0_ n1_ ho_ hb_ hg_ hat_)
    go_roundw
    case rel => exact ⟨k + 1, _, (cr + nth x k + nth y k) / 1000000000, by go_num, rfl, by omega, by omega, by omega, by omega, HO, ⟨HN.out.next rfl (by omega)⟩, HB⟩
    case measure => simp [intOf]; omega
   ·have d2 : decide ((k : Int) < (y.length : Int)) = false := decide_eq_false (by omega)
    have HY := As (show nth y k = 0 from nth_of_ge (by omega))
    go_wp2_with ((with_reducible refine gate_builtin (b := .append) (xs := #[.tmp 48, .tmp 51]) rfl ?_); at_builtin; refine Kd.R_append (Kd.int .u32) (w0 := w) w.heap.size rfl (.tmp 48) (.tmp 51) 44 65 (.int .u32 0) 4 rfl Tryz.underlying44 info_u32 rfl (by decide) (by omega) u5 z ((cr + nth x k) % 1000000000) [.int .u32 ((cr + nth x k) % 1000000000)] (fun _ => True) (fun _ => False) rfl rfl ?aP (fun _ hk => hk.elim) ?aF ?aO ?aB ?aS ?aL ?_; (case aP => exact rfl); (case aB => exact (by repeat (first | (with_reducible first | exact HB.out | apply below_alloc | apply pw_below_drewN | apply below_drew1) | exact HB.out))); (case aF => exact (fun _ _ => trivial)); (case aO => exact (by (with_reducible repeat (first | apply Kd.R_alloc | apply Kd.R_drewN | apply Kd.R_drew)); exact HO.out)); (case aS => exact (below_size (by repeat (first | (with_reducible first | exact HB.out | apply below_alloc | apply pw_below_drewN | apply below_drew1) | exact HB.out)))); (case aL => have := HZL.out; omega); intro v5 w5 ho_ hb_ hg_ hat_; have n0_ := As hb_; have n1_ := As ho_; clear HO HB; have HB := n0_; have HO := n1_; clear n0_ n1_ ho_ hb_ hg_ hat_)
    go_roundw
    case rel => exact ⟨k + 1, _, (cr + nth x k) / 1000000000, by go_num, rfl, by omega, by omega, by omega, by omega, HO, ⟨HN.out.next (by rw [HY.out]; omega) (by omega)⟩, HB⟩
    case measure => simp [intOf]; omega
  ·have d1 : decide ((k : Int) < (x.length : Int)) = false := decide_eq_false (by omega)
   have HX := As (show nth x k = 0 from nth_of_ge (by omega))
   by_cases hky : k < y.length
   ·have d2 : decide ((k : Int) < (y.length : Int)) = true := decide_eq_true (by omega)
    obtain ⟨ad', rfl, hcell'⟩ := F_at HF'.out k hky
    replace hcell' := pw_cell_below HB.out hcell'
    go_wp2_with ((with_reducible refine gate_builtin (b := .append) (xs := #[.tmp 48, .tmp 51]) rfl ?_); at_builtin; refine Kd.R_append (Kd.int .u32) (w0 := w) w.heap.size rfl (.tmp 48) (.tmp 51) 44 65 (.int .u32 0) 4 rfl Tryz.underlying44 info_u32 rfl (by decide) (by omega) u5 z ((cr + nth y k) % 1000000000) [.int .u32 ((cr + nth y k) % 1000000000)] (fun _ => True) (fun _ => False) rfl rfl ?aP (fun _ hk => hk.elim) ?aF ?aO ?aB ?aS ?aL ?_; (case aP => exact rfl); (case aB => exact (by repeat (first | (with_reducible first | exact HB.out | apply below_alloc | apply pw_below_drewN | apply below_drew1) | exact HB.out))); (case aF => exact (fun _ _ => trivial)); (case aO => exact (by (with_reducible repeat (first | apply Kd.R_alloc | apply Kd.R_drewN | apply Kd.R_drew)); exact HO.out)); (case aS => exact (below_size (by repeat (first | (with_reducible first | exact HB.out | apply below_alloc | apply pw_below_drewN | apply below_drew1) | exact HB.out)))); (case aL => have := HZL.out; omega); intro v5 w5 ho_ hb_ hg_ hat_; have n0_ := As hb_; have n1_ := As ho_; clear HO HB; have HB := n0_; have HO := n1_; clear n0_ n1_ ho_ hb_ hg_ hat_)
    go_roundw
    case rel => exact ⟨k + 1, _, (cr + nth y k) / 1000000000, by go_num, rfl, by omega, by omega, by omega, by omega, HO, ⟨HN.out.next (by rw [HX.out]; omega) (by omega)⟩, HB⟩
    case measure => simp [intOf]; omega
   ·have d2 : decide ((k : Int) < (y.length : Int)) = false := decide_eq_false (by omega)
    have HY := As (show nth y k = 0 from nth_of_ge (by omega))
    by_cases hcr : 0 < cr
    ·have d3 : decide (0 < cr) = true := decide_eq_true hcr
     have hnl : ¬ (x.length < k ∧ y.length < k) := fun h => by have := HLAST.out h.1 h.2; omega
     go_wp2_with ((with_reducible refine gate_builtin (b := .append) (xs := #[.tmp 48, .tmp 51]) rfl ?_); at_builtin; refine Kd.R_append (Kd.int .u32) (w0 := w) w.heap.size rfl (.tmp 48) (.tmp 51) 44 65 (.int .u32 0) 4 rfl Tryz.underlying44 info_u32 rfl (by decide) (by omega) u5 z (cr % 1000000000) [.int .u32 (cr % 1000000000)] (fun _ => True) (fun _ => False) rfl rfl ?aP (fun _ hk => hk.elim) ?aF ?aO ?aB ?aS ?aL ?_; (case aP => exact rfl); (case aB => exact (by repeat (first | (with_reducible first | exact HB.out | apply below_alloc | apply pw_below_drewN | apply below_drew1) | exact HB.out))); (case aF => exact (fun _ _ => trivial)); (case aO => exact (by (with_reducible repeat (first | apply Kd.R_alloc | apply Kd.R_drewN | apply Kd.R_drew)); exact HO.out)); (case aS => exact (below_size (by repeat (first | (with_reducible first | exact HB.out | apply below_alloc | apply pw_below_drewN | apply below_drew1) | exact HB.out)))); (case aL => have := HZL.out; omega); intro v5 w5 ho_ hb_ hg_ hat_; have n0_ := As hb_; have n1_ := As ho_; clear HO HB; have HB := n0_; have HO := n1_; clear n0_ n1_ ho_ hb_ hg_ hat_)
     go_roundw
     case rel => exact ⟨k + 1, _, cr / 1000000000, by go_num, rfl, by omega, by omega, by omega, by omega, HO, ⟨HN.out.next (by rw [HX.out, HY.out]; omega) (by omega)⟩, HB⟩
     case measure => simp [intOf]; omega
    ·have d3 : decide (0 < cr) = false := decide_eq_false hcr
     have hz0 : cr = 0 := by omega
     subst hz0
     go_wp2
     go_ret
     have hd := HN.out.done (by omega) (by omega)
     exact ⟨_, z, rfl, Own.reads HO.out HOK.out, hd.1, by rw [hd.2, HL.out.2, HM.out.2], by have := HZL.out; omega, HB.out⟩
/-
  The contracts of natSub, natMul and natSmall (the reference of layer 1).
-/
set_option maxHeartbeats 1000000 in
theorem natSub_nat (ok : Nat → Prop) (v0 v1 : Value) (a b : Nat) (w : World) (hok : ∀ k, w.heap.size ≤ k → ok k) (h0 : IsNat w ok v0 a) (h1 : IsNat w ok v1 b) (hab : b ≤ a) (hs : (a : Int) < pw 10000000) :
  Calls Tryz.prog 86 #[v0, v1] w (RetNat ok (a - b) w) := by
 obtain ⟨x, ⟨A, c, rfl, hc, hF⟩, hl, hv⟩ := h0
 obtain ⟨y, ⟨A', c', rfl, hc', hF'⟩, hm, hv'⟩ := h1
 have hxl : x.length ≤ 10000000 := len_le hl (by omega)
 have hyx : y.length ≤ x.length := len_mono hm hl (by omega)
 have HF := As hF
 have HF' := As hF'
 have HL := As (And.intro hl hv)
 have HM := As (And.intro hm hv')
 have HB := As (Below.refl w.heap.size w)
 have HS := As hab
 clear hF hF' hl hm hv hv' hs hab
 have hmk0 := As (show 0 ≤ (x.length : Int) by omega)
 have hmk1 := As (show (x.length : Int).toNat ≤ 70368744177664 by omega)
 go_enter Tryz.func86, Tryz.ntmps86
 go_wp2_with ((with_reducible refine gate_dst (N := 11) rfl ?_); refine Kd.R_make (Kd.int .u32) _ 65 rfl (N := 11) rfl 44 _ _ rfl ((x.length : Int)) rfl rfl Tryz.underlying44 (.int .u32 0) 4 info_u32 rfl (by decide) (by omega) 0 (ok := fun _ => True) (okp := fun _ => True) rfl (fun _ hk => hk) trivial hmk0.out (Nat.le_trans (Nat.mul_le_mul_right _ hmk1.out) (by omega)) (Below.refl _ _) (Nat.le_refl _) ?_; intro z0 w1 ho_ hb_ hg_ hnew_; clear hg_ hnew_; have n0_ := As (Kd.R_lower ho_ (below_size (by repeat (first | (with_reducible first | exact HB.out | apply below_alloc | apply pw_below_drewN | apply below_drew1) | exact HB.out)))); have n1_ := As (below_step (by repeat (first | (with_reducible first | exact HB.out | apply below_alloc | apply pw_below_drewN | apply below_drew1) | exact HB.out)) hb_); clear HB; have HO := n0_; have HB := n1_; clear n0_ n1_ hb_ ho_)
 go_loopw [6, 7] (fun vc vi wr => ∃ (k : Nat) (z : List Int) (cr : Int), vi = .int .i64 k ∧ vc = .int .u32 cr ∧ k ≤ x.length ∧ 0 ≤ cr ∧ cr ≤ 1 ∧ Aside0 (Own wr w.heap.size z0 z) ∧ Aside0 (SubRel x y z k cr) ∧ Aside0 (Below w.heap.size w wr)) (fun _ i _ => x.length - (intOf i).toNat)
 case atStart => exact ⟨0, _, 0, rfl, rfl, Nat.zero_le _, Int.le_refl _, by decide, HO, ⟨by have := SubRel.start x y; simpa using this⟩, HB⟩
 case round =>
  clear HO HB
  obtain ⟨k, z, cr, rfl, rfl, hk, hc0, hc1, HO, HN, HB⟩ := hrel
  by_cases hlt : k < x.length
  ·obtain ⟨ad, rfl, hcell⟩ := F_at HF.out k hlt
   have hx := HL.out.1.1.nth k
   have hy := HM.out.1.1.nth k
   replace hcell := pw_cell_below HB.out hcell
   have hzl : k < z.length := by have := HN.out.2.1; omega
   (obtain ⟨g, cap, hvz, hgz, _, _⟩ := Kd.R_form HO.out (by omega)); subst hvz; have hgz' := As hgz; clear hgz; (obtain ⟨hxz, hfz⟩ := Kd.R_celln 0 HO.out ((k : Nat) : Int) (by omega) (by omega)); (simp only [Int.toNat_natCast, rdOf_nth] at hxz hfz)
   by_cases hyl : k < y.length
   ·obtain ⟨ad', rfl, hcell'⟩ := F_at HF'.out k hyl
    replace hcell' := pw_cell_below HB.out hcell'
    by_cases hbo : nth x k < cr + nth y k
    ·have hbb : decide (cr + nth y k ≤ nth x k) = false := decide_eq_false (by omega)
     go_wp2
     go_roundw
     case rel => exact ⟨k + 1, _, 1, by go_num, rfl, by omega, by omega, by omega, ⟨own_put HO.out k _⟩, ⟨HN.out.next hlt (t := nth x k + 1000000000 - (cr + nth y k)) (by omega) (by omega) (by omega)⟩, ⟨below_set HB.out hgz'.out⟩⟩
     case measure => simp [intOf]; omega
    ·have hbb : decide (cr + nth y k ≤ nth x k) = true := decide_eq_true (by omega)
     go_wp2
     go_roundw
     case rel => exact ⟨k + 1, _, 0, by go_num, rfl, by omega, by omega, by omega, ⟨own_put HO.out k _⟩, ⟨HN.out.next hlt (t := nth x k - (cr + nth y k)) (by omega) (by omega) (by omega)⟩, ⟨below_set HB.out hgz'.out⟩⟩
     case measure => simp [intOf]; omega
   ·have hy0 : nth y k = 0 := nth_of_ge (by omega)
    have HY := As hy0
    clear hy0
    by_cases hbo : nth x k < cr
    ·have hbb : decide (cr ≤ nth x k) = false := decide_eq_false (by omega)
     go_wp2
     go_roundw
     case rel => exact ⟨k + 1, _, 1, by go_num, rfl, by omega, by omega, by omega, ⟨own_put HO.out k _⟩, ⟨HN.out.next hlt (t := nth x k + 1000000000 - cr) (by omega) (by omega) (by have := HY.out; omega)⟩, ⟨below_set HB.out hgz'.out⟩⟩
     case measure => simp [intOf]; omega
    ·have hbb : decide (cr ≤ nth x k) = true := decide_eq_true (by omega)
     go_wp2
     go_roundw
     case rel => exact ⟨k + 1, _, 0, by go_num, rfl, by omega, by omega, by omega, ⟨own_put HO.out k _⟩, ⟨HN.out.next hlt (t := nth x k - cr) (by omega) (by omega) (by have := HY.out; omega)⟩, ⟨below_set HB.out hgz'.out⟩⟩
     case measure => simp [intOf]; omega
  ·have he : k = x.length := by omega
   subst he
   have HZ := As (HN.out.done HL.out.1.1 hyx (by have := HL.out.2; have := HM.out.2; have := HS.out; omega) hc0)
   have HLC := As HZ.out.1
   have HUC := As (Own.reads (ok := ok) HO.out hok)
   have HZLC := As (show z.length ≤ 20000000 by have := HN.out.2.1; omega)
   have HOKC := As (show ∀ k, wr.heap.size ≤ k → ok k from fun k hk => hok k (Nat.le_trans HB.out.size hk))
   go_wp2_with (go_at_call 87; ((with_reducible refine (cut_nat ok _ z _ HOKC.out HUC.out HLC.out HZLC.out).mono ?_); rintro e w' ⟨v', rfl, hv, hb⟩; have HV := As hv; have HB' := As (below_step HB.out hb); clear hv hb))
   go_ret
   exact ⟨_, rfl, by rw [show a - b = (val z).toNat by have := HZ.out.2; have := HL.out.2; have := HM.out.2; have := HS.out; omega]; exact HV.out, HB'.out⟩
set_option maxHeartbeats 2000000 in
theorem natMul_nat (ok : Nat → Prop) (v0 v1 : Value) (a b : Nat) (w : World) (hok : ∀ k, w.heap.size ≤ k → ok k) (h0 : IsNat w ok v0 a) (h1 : IsNat w ok v1 b) (hs : (a : Int) < pw 9000000) (hs' : (b : Int) < pw 9000000) :
  Calls Tryz.prog 83 #[v0, v1] w (RetNat ok (a * b) w) := by
 obtain ⟨x, ⟨A, c, rfl, hc, hF⟩, hl, hv⟩ := h0
 obtain ⟨y, ⟨A', c', rfl, hc', hF'⟩, hm, hv'⟩ := h1
 have hxl : x.length ≤ 9000000 := len_le hl (by omega)
 have hyl : y.length ≤ 9000000 := len_le hm (by omega)
 have HF := As hF
 have HF' := As hF'
 have HL := As (And.intro hl hv)
 have HM := As (And.intro hm hv')
 have HB := As (Below.refl w.heap.size w)
 have HOK := As hok
 clear hF hF' hl hm hv hv' hs hs' hok
 have hmk0 := As (show 0 ≤ (x.length : Int) + (y.length : Int) + 1 by omega)
 have hmk1 := As (show ((x.length : Int) + (y.length : Int) + 1).toNat ≤ 70368744177664 by omega)
 go_enter Tryz.func83, Tryz.ntmps83
 go_wp2_with ((with_reducible refine gate_dst (N := 15) rfl ?_); refine Kd.R_make (Kd.int .u32) _ 65 rfl (N := 15) rfl 44 _ _ rfl ((x.length : Int) + (y.length : Int) + 1) rfl rfl Tryz.underlying44 (.int .u32 0) 4 info_u32 rfl (by decide) (by omega) 0 (ok := fun _ => True) (okp := fun _ => True) rfl (fun _ hk => hk) trivial hmk0.out (Nat.le_trans (Nat.mul_le_mul_right _ hmk1.out) (by omega)) (Below.refl _ _) (Nat.le_refl _) ?_; intro z0 w1 ho_ hb_ hg_ hnew_; clear hg_ hnew_; have n0_ := As (Kd.R_lower ho_ (below_size (by repeat (first | (with_reducible first | exact HB.out | apply below_alloc | apply pw_below_drewN | apply below_drew1) | exact HB.out)))); have n1_ := As (below_step (by repeat (first | (with_reducible first | exact HB.out | apply below_alloc | apply pw_below_drewN | apply below_drew1) | exact HB.out)) hb_); clear HB; have HO := n0_; have HB := n1_; clear n0_ n1_ hb_ ho_)
 go_loopw [6] (fun vi wr => ∃ (i : Nat) (z : List Int), vi = .int .i64 i ∧ i ≤ x.length ∧ Aside0 (Own wr w.heap.size z0 z) ∧ Aside0 (MuW x y z (x.length + y.length + 1) i) ∧ Aside0 (Below w.heap.size w wr)) (fun i _ => x.length - (intOf i).toNat)
 case atStart => exact ⟨0, _, rfl, Nat.zero_le _, HO, ⟨by have := MuW.start x y (x.length + y.length + 1); rw [show ((x.length : Int) + (y.length : Int) + 1).toNat = x.length + y.length + 1 by omega]; exact this⟩, HB⟩
 case round =>
  clear HO HB
  obtain ⟨i, z, rfl, hi, HO, HN, HB⟩ := hrel
  by_cases hlt : i < x.length
  ·obtain ⟨ad, rfl, hcell0⟩ := F_at HF.out i hlt
   have hx := HL.out.1.1.nth i
   have HC0 := As hcell0
   clear hcell0
   go_wp2
   go_loopw [7, 8] (fun vc vj wr => ∃ (j : Nat) (z : List Int) (cr : Int), vj = .int .i64 j ∧ vc = .int .u64 cr ∧ j ≤ y.length + 1 ∧ (y.length < j → cr = 0) ∧ 0 ≤ cr ∧ cr < 1000000000 ∧ Aside0 (Own wr w.heap.size z0 z) ∧ Aside0 (MuI x y z (x.length + y.length + 1) i j cr) ∧ Aside0 (Below w.heap.size w wr)) (fun _ j _ => y.length + 1 - (intOf j).toNat)
   case atStart => exact ⟨0, z, 0, rfl, rfl, Nat.zero_le _, by omega, Int.le_refl _, by decide, HO, ⟨HN.out.enter⟩, HB⟩
   case round =>
    clear HO HB HN
    obtain ⟨j, z, cr, rfl, rfl, hj, hlast, hc0, hc9, HO, HN, HB⟩ := hrel
    have HLAST := As hlast
    clear hlast
    have hzz : z.length = x.length + y.length + 1 := HN.out.2.1
    have HZZ := As hzz
    clear hzz
    have hz := HN.out.1.nth (i + j)
    have hw1 : IntKind.i64.wrap ((i : Int) + (j : Int)) = (i : Int) + (j : Int) := IntWalk.i64_in _ (by omega)
    have hw2 : ((i : Int) + (j : Int)).toNat = i + j := by omega
    have hw3 : (0 : Int) ≤ (i : Int) + (j : Int) := by omega
    by_cases hjl : j < y.length
    ·have d1 : decide ((j : Int) < (y.length : Int)) = true := decide_eq_true (by omega)
     obtain ⟨ad', rfl, hcell'⟩ := F_at HF'.out j hjl
     replace hcell' := pw_cell_below HB.out hcell'
     have hcell := pw_cell_below HB.out HC0.out
     have hy := HM.out.1.1.nth j
     have hp := prod_bd hx.1 hx.2 hy.1 hy.2
     have hzl : i + j < z.length := by have := HZZ.out; omega
     have hw4 : (i : Int) + (j : Int) < (z.length : Int) := by omega
     (obtain ⟨g, cap, hvz, hgz, _, _⟩ := Kd.R_form HO.out (by omega)); subst hvz; have hgz' := As hgz; clear hgz; (obtain ⟨hxz, hfz⟩ := Kd.R_celln 0 HO.out ((i + j : Nat) : Int) (by omega) (by omega)); (simp only [Int.toNat_natCast, rdOf_nth] at hxz hfz)
     have HS0 := As (show 0 ≤ cr + nth z (i + j) + nth x i * nth y j by omega)
     have hw5 : IntKind.u64.wrap (cr + nth z (i + j)) = cr + nth z (i + j) := u64_in (by omega) (by omega)
     have hw6 : IntKind.u64.wrap (nth x i * nth y j) = nth x i * nth y j := u64_in (by omega) (by omega)
     have hw7 : IntKind.u64.wrap (cr + nth z (i + j) + nth x i * nth y j) = cr + nth z (i + j) + nth x i * nth y j := u64_in (by omega) (by omega)
     have hw8 : IntKind.u64.wrap (nth x i) = nth x i := u64_in (by omega) (by omega)
     have hw9 : IntKind.u64.wrap (nth y j) = nth y j := u64_in (by omega) (by omega)
     go_wp2
     repeat (go_quiet (fail); try go_wp2)
     clear hw1 hw2 hw3 hw4 hw5 hw6 hw7 hw8 hw9
     go_roundw
     case rel => exact ⟨j + 1, _, (cr + nth z (i + j) + nth x i * nth y j) / 1000000000, by go_num, rfl, by omega, by omega, by omega, by omega, ⟨own_put (by (with_reducible repeat (first | apply Kd.R_alloc | apply Kd.R_drewN | apply Kd.R_drew)); exact HO.out) (i + j) _⟩, ⟨HN.out.next (by omega) (by omega) rfl HS0.out⟩, ⟨below_set (by repeat (first | (with_reducible first | exact HB.out | apply below_alloc | apply pw_below_drewN | apply below_drew1) | exact HB.out)) hgz'.out⟩⟩
     case measure => simp [intOf]; omega
    ·have d1 : decide ((j : Int) < (y.length : Int)) = false := decide_eq_false (by omega)
     by_cases hcr : 0 < cr
     ·have d2 : decide (0 < cr) = true := decide_eq_true hcr
      have hjy : j = y.length := by
       rcases Nat.lt_or_ge y.length j with h | h
       ·have := HLAST.out h; omega
       ·omega
      have HJY := As hjy
      have hzl : i + j < z.length := by have := HZZ.out; omega
      have hw4 : (i : Int) + (j : Int) < (z.length : Int) := by omega
      (obtain ⟨g, cap, hvz, hgz, _, _⟩ := Kd.R_form HO.out (by omega)); subst hvz; have hgz' := As hgz; clear hgz; (obtain ⟨hxz, hfz⟩ := Kd.R_celln 0 HO.out ((i + j : Nat) : Int) (by omega) (by omega)); (simp only [Int.toNat_natCast, rdOf_nth] at hxz hfz)
      have HY0 := As (show nth y j = 0 from nth_of_ge (by omega))
      have HZ0 := As (show nth z (i + j) = 0 by rw [hjy]; exact HN.out.2.2.2.2 (by omega))
      clear hjy
      go_wp2
      repeat (go_quiet (fail); try go_wp2)
      clear hw1 hw2 hw3 hw4
      go_roundw
      case rel => exact ⟨j + 1, _, (cr + nth z (i + j)) / 1000000000, by go_num, rfl, by have := HJY.out; omega, by have := HZ0.out; omega, by omega, by omega, ⟨own_put (by (with_reducible repeat (first | apply Kd.R_alloc | apply Kd.R_drewN | apply Kd.R_drew)); exact HO.out) (i + j) _⟩, ⟨HN.out.next (by have := HJY.out; omega) (by have := HJY.out; omega) (by rw [HY0.out]; omega) (by omega)⟩, ⟨below_set (by repeat (first | (with_reducible first | exact HB.out | apply below_alloc | apply pw_below_drewN | apply below_drew1) | exact HB.out)) hgz'.out⟩⟩
      case measure => simp [intOf]; have := HJY.out; omega
     ·have d2 : decide (0 < cr) = false := decide_eq_false hcr
      have hz0 : cr = 0 := by omega
      subst hz0
      clear hw1 hw2 hw3
      go_wp2
      go_roundw
      case rel => exact ⟨i + 1, z, by go_num, by omega, HO, ⟨HN.out.done (by omega)⟩, HB⟩
      case measure => simp [intOf]; omega
  ·have he : i = x.length := by omega
   subst he
   have HZ := As (HN.out.done)
   have HLC := As HZ.out.1
   have HUC := As (Own.reads (ok := ok) HO.out HOK.out)
   have HZLC := As (show z.length ≤ 20000000 by have := HN.out.2.1; omega)
   have HOKC := As (show ∀ k, wr.heap.size ≤ k → ok k from fun k hk => HOK.out k (Nat.le_trans HB.out.size hk))
   go_wp2_with (go_at_call 87; ((with_reducible refine (cut_nat ok _ z _ HOKC.out HUC.out HLC.out HZLC.out).mono ?_); rintro e w' ⟨v', rfl, hv, hb⟩; have HV := As hv; have HB' := As (below_step HB.out hb); clear hv hb))
   go_ret
   exact ⟨_, rfl, by rw [show a * b = (val z).toNat by have h1 := HZ.out.2; have h2 := HL.out.2; have h3 := HM.out.2; rw [h2, h3] at h1; rw [h1, ← Int.natCast_mul]; rfl]; exact HV.out, HB'.out⟩
/-
  The contract of natSmall (the reference of layer 1).
-/
def RetDL (ok : Nat → Prop) (a : Nat) (d : Nat) (w0 : World) (e : Ending) (w' : World) : Prop := ∃ v, e = .returned (.tuple #[v, .int .u64 ((a % d : Nat) : Int)]) ∧ IsNat w' ok v (a / d) ∧ Below w0.heap.size w0 w'
set_option maxHeartbeats 1000000 in
theorem natSmall_nat (ok : Nat → Prop) (v0 : Value) (x : List Int) (d : Nat) (w : World) (hok : ∀ k, w.heap.size ≤ k → ok k) (h : U w ok v0 x) (hl : Lim x) (hs : x.length ≤ 10000000) (hd0 : 1 ≤ d) (hd1 : d < 1000000000) :
  Calls Tryz.prog 88 #[v0, .int .u64 (d : Int)] w (RetDL ok (val x).toNat d w) := by
 obtain ⟨A, c, rfl, hc, hF⟩ := h
 have HF := As hF
 have HL := As hl
 have HB := As (Below.refl w.heap.size w)
 clear hF hl
 have hmk0 := As (show 0 ≤ (x.length : Int) by omega)
 have hmk1 := As (show (x.length : Int).toNat ≤ 70368744177664 by omega)
 have hx63 : x.length ≤ 9223372036854775807 := by omega
 go_enter Tryz.func88, Tryz.ntmps88
 go_wp2_with ((with_reducible refine gate_dst (N := 11) rfl ?_); refine Kd.R_make (Kd.int .u32) _ 65 rfl (N := 11) rfl 44 _ _ rfl ((x.length : Int)) rfl rfl Tryz.underlying44 (.int .u32 0) 4 info_u32 rfl (by decide) (by omega) 0 (ok := fun _ => True) (okp := fun _ => True) rfl (fun _ hk => hk) trivial hmk0.out (Nat.le_trans (Nat.mul_le_mul_right _ hmk1.out) (by omega)) (Below.refl _ _) (Nat.le_refl _) ?_; intro z0 w1 ho_ hb_ hg_ hnew_; clear hg_ hnew_; have n0_ := As (Kd.R_lower ho_ (below_size (by repeat (first | (with_reducible first | exact HB.out | apply below_alloc | apply pw_below_drewN | apply below_drew1) | exact HB.out)))); have n1_ := As (below_step (by repeat (first | (with_reducible first | exact HB.out | apply below_alloc | apply pw_below_drewN | apply below_drew1) | exact HB.out)) hb_); clear HB; have HO := n0_; have HB := n1_; clear n0_ n1_ hb_ ho_)
 go_loopw [7, 8] (fun vc vi wr => ∃ (j : Nat) (z : List Int) (rs : Int), vi = .int .i64 ((j : Int) - 1) ∧ vc = .int .u64 rs ∧ j ≤ x.length ∧ 0 ≤ rs ∧ rs < d ∧ Aside0 (Own wr w.heap.size z0 z) ∧ Aside0 (DsRel x z d (x.length - j) rs) ∧ Aside0 (Below w.heap.size w wr)) (fun _ i _ => (intOf i + 1).toNat)
 case atStart => exact ⟨x.length, _, 0, rfl, rfl, Nat.le_refl _, Int.le_refl _, by omega, HO, ⟨by have := DsRel.start x d; simpa using this⟩, HB⟩
 case round =>
  clear HO HB
  obtain ⟨j, z, rs, rfl, rfl, hj, hr0, hr1, HO, HN, HB⟩ := hrel
  have hzz : z.length = x.length := HN.out.2.1
  have HZZ := As hzz
  clear hzz
  rcases Nat.eq_zero_or_pos j with h0 | h0
  ·subst h0
   have hge : decide ((0 : Int) ≤ ((0 : Nat) : Int) - 1) = false := by decide
   have HZ := As (HN.out.done (by omega) hr0 hr1)
   go_wp2_with (go_at_call 87; ((with_reducible refine (cut_nat ok _ z _ (fun k hk => hok k (Nat.le_trans HB.out.size hk)) (Own.reads HO.out hok) HZ.out.1 (by have := HZZ.out; omega)).mono ?_); rintro e w' ⟨v', rfl, hv, hb⟩; have HV := As hv; have HB' := As (below_step HB.out hb); clear hv hb))
   go_ret2
   have hx0 := (val_bound HL.out).1
   have hd := HZ.out.2.1
   have hr := HZ.out.2.2
   refine ⟨v', ?_, ?_, HB'.out⟩
   ·show Ending.returned (.tuple #[v', .int .u64 rs]) = _
    rw [show ((((val x).toNat % d : Nat)) : Int) = rs by rw [Int.natCast_emod, Int.toNat_of_nonneg hx0]; omega]
   ·have h5 : (((val x).toNat / d : Nat) : Int) = val x / (d : Int) := by rw [Int.natCast_ediv, Int.toNat_of_nonneg hx0]
    rw [show (val x).toNat / d = (val z).toNat by rw [hd, ← h5, Int.toNat_natCast]]; exact HV.out
  ·obtain ⟨i, rfl⟩ : ∃ i, j = i + 1 := ⟨j - 1, by omega⟩
   have hid : (((i + 1 : Nat) : Int) - 1) = (i : Int) := by omega
   rw [hid]
   have hzl : i < z.length := by have := HZZ.out; omega
   have hil : i < x.length := by omega
   obtain ⟨ad, rfl, hcell⟩ := F_at HF.out i (by omega)
   have hx := HL.out.nth i
   replace hcell := pw_cell_below HB.out hcell
   (obtain ⟨g, cap, hvz, hgz, _, _⟩ := Kd.R_form HO.out (by omega)); subst hvz; have hgz' := As hgz; clear hgz; (obtain ⟨hxz, hfz⟩ := Kd.R_celln 0 HO.out ((i : Nat) : Int) (by omega) (by omega)); (simp only [Int.toNat_natCast, rdOf_nth] at hxz hfz)
   have HQ := As (show 0 ≤ rs * 1000000000 + nth x i by omega)
   have HDR := As (show x.length - i = x.length - (i + 1) + 1 by omega)
   have hq0 : 0 ≤ (rs * 1000000000 + nth x i) / (d : Int) := Int.ediv_nonneg (by omega) (by omega)
   have hq1 : (rs * 1000000000 + nth x i) / (d : Int) < 1000000000 := Int.ediv_lt_of_lt_mul (by omega) (by omega)
   have hr2 : 0 ≤ (rs * 1000000000 + nth x i) % (d : Int) := Int.emod_nonneg _ (by omega)
   have hr3 : (rs * 1000000000 + nth x i) % (d : Int) < (d : Int) := Int.emod_lt_of_pos _ (by omega)
   have hdz : ((d : Int) == 0) = false := by simp; omega
   clear hid
   go_wp2
   repeat (go_quiet (fail); try go_wp2)
   go_roundw
   case rel => exact ⟨i, _, (rs * 1000000000 + nth x i) % (d : Int), by go_num, rfl, by omega, hr2, hr3, ⟨own_put (by (with_reducible repeat (first | apply Kd.R_alloc | apply Kd.R_drewN | apply Kd.R_drew)); exact HO.out) i _⟩, ⟨by rw [HDR.out]; exact HN.out.next (by omega) HL.out (by omega) hr0 hr1⟩, ⟨below_set (by repeat (first | (with_reducible first | exact HB.out | apply below_alloc | apply pw_below_drewN | apply below_drew1) | exact HB.out)) hgz'.out⟩⟩
   case measure => simp [intOf]
/-
  The contract of guess (the reference of layer 1): whatever the floats give, the answer lies within a limb.
-/
theorem drewN_one (w : World) : w.drewN 1 = w.drew := by
 cases w; simp [World.drewN, World.drew]
theorem drewN_zero (w : World) : w.drewN 0 = w := by
 cases w; simp [World.drewN]
theorem choose_any (P : Program) (w : World) (q : Question) : ∃ r n, (choose q).run P w = .ok r (w.drewN n) := by
 rw [run_choose_drew]
 by_cases h : q.forced
 ·exact ⟨0, 0, by rw [if_pos h, drewN_zero]⟩
 ·exact ⟨_, 1, by rw [if_neg h, drewN_one]⟩
theorem float_any (P : Program) (w : World) (op : BinOp) (h : op = .add ∨ op = .mul ∨ op = .quo) (t : TypeId) (x y : Nat) : ∃ r n, (binOp op t (.float .f64 x) (.float .f64 y)).run P w = .ok (.float .f64 r) (w.drewN n) := by
 cases hb : floatBits op .f64 x y with
 | some r => exact ⟨r, 0, by rw [run_float_arith w op t .f64 x y r hb, drewN_zero]⟩
 | none =>
  unfold floatBits at hb
  by_cases hf : (Question.nanBits .f64 x y).forced
  ·exact ⟨0, 0, by rw [drewN_zero]; rcases h with rfl | rfl | rfl <;> simp only at hb <;> simp [binOp, Op.floatArith, hb, hf]⟩
  ·exact ⟨_, 1, by rw [drewN_one]; rcases h with rfl | rfl | rfl <;> simp only at hb <;> simp [binOp, Op.floatArith, hb, hf] <;> rfl⟩
theorem conv_any (P : Program) (w : World) (src dst : TypeId) (b : Nat) (hs : (P.underlying src).isSome = true) (hd : P.underlying dst = some (.int .u64)) : ∃ (r : Int) (n : Nat), (0 ≤ r ∧ r < 18446744073709551616) ∧ (convert src dst (.float .f64 b)).run P w = .ok (.int .u64 r) (w.drewN n) := by
 obtain ⟨u, hs'⟩ := Option.isSome_iff_exists.1 hs
 cases hv : floatToIntVal .f64 b .u64 with
 | some n =>
  refine ⟨n, 0, ?_, by rw [run_convert_float_int w src dst .f64 .u64 b n hs hd hv, drewN_zero]⟩
  unfold floatToIntVal at hv
  split at hv
  ·split at hv
   ·rename_i hb
    cases hv
    have h1 : IntKind.u64.min = 0 := rfl
    have h2 : IntKind.u64.max = 18446744073709551615 := rfl
    omega
   ·cases hv
  ·cases hv
 | none =>
  have hz : ∃ r n, (Conv.floatToInt .f64 b .u64).run P w = .ok (.int .u64 (IntKind.u64.wrap r)) (w.drewN n) := by
   unfold floatToIntVal at hv
   by_cases hf : (Question.floatToInt .f64 b .u64).forced
   ·refine ⟨0, 0, ?_⟩
    rw [drewN_zero]
    split at hv
    ·split at hv
     ·cases hv
     ·rename_i m he hb
      simp [Conv.floatToInt, he, if_neg hb, hf]
    ·rename_i he
     simp [Conv.floatToInt, he, hf]
   ·refine ⟨(((Question.floatToInt .f64 b .u64).cut (w.tape w.drawn (Question.floatToInt .f64 b .u64)) : Nat) : Int), 1, ?_⟩
    rw [drewN_one]
    split at hv
    ·split at hv
     ·cases hv
     ·rename_i m he hb
      simp [Conv.floatToInt, he, if_neg hb, hf]
    ·rename_i he
     simp [Conv.floatToInt, he, hf]
  obtain ⟨r, n, hr⟩ := hz
  refine ⟨IntKind.u64.wrap r, n, ?_, ?_⟩
  ·have h1 : IntKind.u64.wrap r = r % 18446744073709551616 := rfl
   omega
  ·cases u <;> simp [convert, run_underlying hs', run_underlying hd, hr]
noncomputable def FR (P : Program) (w : World) (op : BinOp) (t : TypeId) (x y : Nat) : Nat := Classical.epsilon (fun r => ∃ n, (binOp op t (.float .f64 x) (.float .f64 y)).run P w = .ok (.float .f64 r) (w.drewN n))
noncomputable def FN (P : Program) (w : World) (op : BinOp) (t : TypeId) (x y : Nat) : Nat := Classical.epsilon (fun n => (binOp op t (.float .f64 x) (.float .f64 y)).run P w = .ok (.float .f64 (FR P w op t x y)) (w.drewN n))
theorem run_float (P : Program) (w : World) (op : BinOp) (h : op = .add ∨ op = .mul ∨ op = .quo) (t : TypeId) (x y : Nat) : (binOp op t (.float .f64 x) (.float .f64 y)).run P w = .ok (.float .f64 (FR P w op t x y)) (w.drewN (FN P w op t x y)) :=
 Classical.epsilon_spec (p := fun n => (binOp op t (.float .f64 x) (.float .f64 y)).run P w = .ok (.float .f64 (FR P w op t x y)) (w.drewN n)) (Classical.epsilon_spec (p := fun r => ∃ n, (binOp op t (.float .f64 x) (.float .f64 y)).run P w = .ok (.float .f64 r) (w.drewN n)) (float_any P w op h t x y))
theorem run_float_add (P : Program) (w : World) (t : TypeId) (x y : Nat) : (binOp .add t (.float .f64 x) (.float .f64 y)).run P w = .ok (.float .f64 (FR P w .add t x y)) (w.drewN (FN P w .add t x y)) := run_float P w .add (.inl rfl) t x y
theorem run_float_mul (P : Program) (w : World) (t : TypeId) (x y : Nat) : (binOp .mul t (.float .f64 x) (.float .f64 y)).run P w = .ok (.float .f64 (FR P w .mul t x y)) (w.drewN (FN P w .mul t x y)) := run_float P w .mul (.inr (.inl rfl)) t x y
theorem run_float_quo (P : Program) (w : World) (t : TypeId) (x y : Nat) : (binOp .quo t (.float .f64 x) (.float .f64 y)).run P w = .ok (.float .f64 (FR P w .quo t x y)) (w.drewN (FN P w .quo t x y)) := run_float P w .quo (.inr (.inr rfl)) t x y
noncomputable def CR (P : Program) (w : World) (src dst : TypeId) (b : Nat) : Int := Classical.epsilon (fun r : Int => ∃ n : Nat, (0 ≤ r ∧ r < 18446744073709551616) ∧ (convert src dst (.float .f64 b)).run P w = .ok (.int .u64 r) (w.drewN n))
noncomputable def CN (P : Program) (w : World) (src dst : TypeId) (b : Nat) : Nat := Classical.epsilon (fun n : Nat => (0 ≤ CR P w src dst b ∧ CR P w src dst b < 18446744073709551616) ∧ (convert src dst (.float .f64 b)).run P w = .ok (.int .u64 (CR P w src dst b)) (w.drewN n))
theorem conv_spec (P : Program) (w : World) (src dst : TypeId) (b : Nat) (hs : (P.underlying src).isSome = true) (hd : P.underlying dst = some (.int .u64)) : (0 ≤ CR P w src dst b ∧ CR P w src dst b < 18446744073709551616) ∧ (convert src dst (.float .f64 b)).run P w = .ok (.int .u64 (CR P w src dst b)) (w.drewN (CN P w src dst b)) :=
 Classical.epsilon_spec (p := fun n : Nat => (0 ≤ CR P w src dst b ∧ CR P w src dst b < 18446744073709551616) ∧ (convert src dst (.float .f64 b)).run P w = .ok (.int .u64 (CR P w src dst b)) (w.drewN n)) (Classical.epsilon_spec (p := fun r : Int => ∃ n : Nat, (0 ≤ r ∧ r < 18446744073709551616) ∧ (convert src dst (.float .f64 b)).run P w = .ok (.int .u64 r) (w.drewN n)) (conv_any P w src dst b hs hd))
theorem run_conv (P : Program) (w : World) (src dst : TypeId) (b : Nat) (hs : (P.underlying src).isSome = true) (hd : P.underlying dst = some (.int .u64)) : (convert src dst (.float .f64 b)).run P w = .ok (.int .u64 (CR P w src dst b)) (w.drewN (CN P w src dst b)) := (conv_spec P w src dst b hs hd).2
/-
  The contract of guess (the reference of layer 1): the walk.
-/
attribute [local go_sem] run_float_add run_float_mul run_float_quo run_conv
theorem guess_bd {t h : Int} (ht : 1000000000 ≤ t) (h0 : 0 ≤ h) (h1 : h < 1000000000000000000) : 0 ≤ h / t ∧ h / t ≤ 999999999 := by
 refine ⟨Int.ediv_nonneg h0 (by omega), ?_⟩
 have h2 : 1000000000 * (h / t) ≤ t * (h / t) := Int.mul_le_mul_of_nonneg_right ht (Int.ediv_nonneg h0 (by omega))
 have := Int.mul_ediv_self_le (x := h) (k := t) (by omega)
 omega
theorem wrap64_nonneg (x : Int) : 0 ≤ IntKind.u64.wrap x := by
 have h1 : IntKind.u64.wrap x = x % 18446744073709551616 := rfl
 omega
def RetGuess (w0 : World) (e : Ending) (w' : World) : Prop := ∃ d : Int, e = .returned (.int .u64 d) ∧ 0 ≤ d ∧ d ≤ 999999999 ∧ Below w0.heap.size w0 w'
set_option maxHeartbeats 2000000 in
theorem guess_nat (ok : Nat → Prop) (v0 v1 : Value) (r b : List Int) (w : World) (h0 : U w ok v0 r) (h1 : U w ok v1 b) (hr : Lim r) (hb : Nrm b) (hb2 : 2 ≤ b.length) :
  Calls Tryz.prog 89 #[v0, v1] w (RetGuess w) := by
 obtain ⟨A, c, rfl, hc, hF⟩ := h0
 obtain ⟨A', c', rfl, hc', hF'⟩ := h1
 obtain ⟨n, hn⟩ : ∃ n, b.length = n + 2 := ⟨b.length - 2, by omega⟩
 have hx := Kd.F_max hF
 have hx' := Kd.F_max hF'
 have HF := As hF
 have HB := As (Below.refl w.heap.size w)
 have hbt := hb.2
 have hb1 := hb.1.nth (n + 1)
 have hb0 := hb.1.nth n
 have hbz : nth b (n + 1) ≠ 0 := by
  rcases hbt with h | h
  ·omega
  ·rw [show b.length - 1 = n + 1 by omega] at h; exact h
 have hb1' : 1 ≤ nth b (n + 1) := by omega
 have HRL := As hr
 rw [hn] at hc' ⊢
 obtain ⟨vb, vo, rfl, hvc⟩ := F_spot hF' (by omega)
 have hvb1 := hvc w (fun _ _ _ => rfl) (n + 1) (by omega)
 have hvb0 := hvc w (fun _ _ _ => rfl) n (by omega)
 clear hF hF' hbt hb hr hvc hbz hb2
 rw [hn] at hx'
 clear hn
 by_cases hlt : r.length < n + 2
 ·have d0 : decide ((r.length : Int) < (n : Int) + 2) = true := decide_eq_true (by omega)
  go_enter Tryz.func89, Tryz.ntmps89
  go_wp2
  go_ret
  exact ⟨0, rfl, by decide, by decide, by exact HB.out⟩
 ·have d0 : decide ((r.length : Int) < (n : Int) + 2) = false := decide_eq_false (by omega)
  obtain ⟨ub, uo, rfl, huc⟩ := F_spot HF.out (by omega)
  have hur1 := huc w (fun _ _ _ => rfl) (n + 1) (by omega)
  have hur0 := huc w (fun _ _ _ => rfl) n (by omega)
  have hr1 := HRL.out.nth (n + 1)
  have hr0 := HRL.out.nth n
  have HUC := As huc
  clear huc
  have e1 : IntKind.i64.wrap ((n : Int) + 2 - 1) = (n : Int) + 1 := by rw [IntWalk.i64_in _ (by omega)]; omega
  have e2 : IntKind.i64.wrap ((n : Int) + 2 - 2) = (n : Int) := by rw [IntWalk.i64_in _ (by omega)]; omega
  have e3 : ((n : Int) + 1).toNat = n + 1 := by omega
  have e4 : (0 : Int) ≤ (n : Int) + 1 := by omega
  have e5 : (n : Int) + 1 < (n : Int) + 2 := by omega
  have e6 : (n : Int) < (n : Int) + 2 := by omega
  have e7 : (n : Int) + 1 < (r.length : Int) := by omega
  have e8 : (n : Int) < (r.length : Int) := by omega
  have f1 : IntKind.u64.wrap (nth b (n + 1)) = nth b (n + 1) := u64_in (by omega) (by omega)
  have f2 : IntKind.u64.wrap (nth b n) = nth b n := u64_in (by omega) (by omega)
  have f3 : IntKind.u64.wrap (nth r (n + 1)) = nth r (n + 1) := u64_in (by omega) (by omega)
  have f4 : IntKind.u64.wrap (nth r n) = nth r n := u64_in (by omega) (by omega)
  have f5 : IntKind.u64.wrap (nth b (n + 1) * 1000000000) = nth b (n + 1) * 1000000000 := u64_in (by omega) (by omega)
  have f6 : IntKind.u64.wrap (nth r (n + 1) * 1000000000) = nth r (n + 1) * 1000000000 := u64_in (by omega) (by omega)
  have f7 : IntKind.u64.wrap (nth b (n + 1) * 1000000000 + nth b n) = nth b (n + 1) * 1000000000 + nth b n := u64_in (by omega) (by omega)
  have f8 : IntKind.u64.wrap (nth r (n + 1) * 1000000000 + nth r n) = nth r (n + 1) * 1000000000 + nth r n := u64_in (by omega) (by omega)
  have hgb := guess_bd (t := nth b (n + 1) * 1000000000 + nth b n) (h := nth r (n + 1) * 1000000000 + nth r n) (by omega) (by omega) (by omega)
  have f9 : (nth b (n + 1) * 1000000000 + nth b n == 0) = false := by simp; omega
  have f10 : IntKind.u64.wrap (Int.tdiv (nth r (n + 1) * 1000000000 + nth r n) (nth b (n + 1) * 1000000000 + nth b n)) = (nth r (n + 1) * 1000000000 + nth r n) / (nth b (n + 1) * 1000000000 + nth b n) := by
   rw [Int.tdiv_eq_ediv_of_nonneg (by omega)]; exact u64_in (by omega) (by omega)
  by_cases heq : r.length = n + 2
  ·have d1 : ((r.length : Int) == (n : Int) + 2) = true := by simp; omega
   go_enter Tryz.func89, Tryz.ntmps89
   go_wp2
   repeat (go_quiet (fail); try go_wp2)
   go_ret
   exact ⟨_, rfl, hgb.1, hgb.2, by repeat (first | exact (Drawn0.refl _).below | apply pw_below_drewN | exact Below.refl _ _)⟩
  ·have d1 : ((r.length : Int) == (n : Int) + 2) = false := by simp; omega
   have hur2 := HUC.out w (fun _ _ _ => rfl) (n + 2) (by omega)
   have e9 : (n : Int) + 2 < (r.length : Int) := by omega
   have e10 : ((n : Int) + 2).toNat = n + 2 := by omega
   have e11 : (0 : Int) ≤ (n : Int) + 2 := by omega
   go_enter Tryz.func89, Tryz.ntmps89
   go_wp2
   repeat (go_quiet (fail); try go_wp2)
   ·go_ret
    exact ⟨999999999, rfl, by decide, by decide, by repeat (first | exact (Drawn0.refl _).below | apply pw_below_drewN | exact Below.refl _ _)⟩
   ·go_ret
    exact ⟨_, rfl, wrap64_nonneg _, by assumption, by repeat (first | exact (Drawn0.refl _).below | apply pw_below_drewN | exact Below.refl _ _)⟩
/-
  The contract of natDiv (the reference of layer 1): the small cases.
-/
theorem own_lit (w : World) (base : Nat) (hb : base ≤ w.heap.size) (x : Int) : Own (w.alloc (.cells #[.int .u32 x] 65)) base (.slice (some ⟨w.heap.size, 0, none⟩) 1 1) [x] := by
 refine Kd.R_of_own (enc := Value.int .u32) (h1 := fun _ => rfl) (xs := [x]) ?_ (fun _ _ => trivial)
 refine ⟨rfl, .inr ⟨w.heap.size, 1, #[.int .u32 x], rfl, hb, heap_new _ _, Nat.le_refl _, by decide, rfl, rfl⟩⟩
set_option maxRecDepth 100000 in
set_option maxHeartbeats 2000000 in
theorem natDiv_small (ok : Nat → Prop) (v0 v1 : Value) (a b : Nat) (w : World) (hok : ∀ k, w.heap.size ≤ k → ok k) (h0 : IsNat w ok v0 a) (h1 : IsNat w ok v1 b) (hab : a < b) (hs : (a : Int) < pw 10000000) :
  Calls Tryz.prog 55 #[v0, v1] w (RetDiv ok a b w) := by
 have H0 := As h0
 have H1 := As h1
 have hc : decide (cmpI a b < 0) = true := by rw [cmpI_lt hab]; rfl
 have HAB := As hab
 obtain ⟨x, hU, hx, hxv⟩ := h0
 have HU := As hU
 have HX := As hx.1
 have HXL := As (show x.length ≤ 20000000 by have := len_le hx (show val x < pw 10000000 by omega); omega)
 have HXV := As (show (val x).toNat = a by omega)
 have HOK := As hok
 clear h1 hab hU hx hxv hs hok
 go_enter Tryz.func55, Tryz.ntmps55
 go_wp2_with fail
 with_reducible refine (natCmp_nat ok _ _ a b _ H0.out H1.out).mono ?_
 rintro e w1 ⟨rfl, hb⟩
 have HB := As hb
 have HU1 := As (HU.out.below hb)
 have HOK1 := As (show ∀ k, w1.heap.size ≤ k → ok k from fun k hk => HOK.out k (by have := hb.size; omega))
 clear hb
 go_wp2_with fail
 with_reducible refine (cut_nat ok _ x _ HOK1.out HU1.out HX.out HXL.out).mono ?_
 rintro e w2 ⟨r, rfl, hr, hb⟩
 rw [HXV.out] at hr
 have HR := As hr
 have HB2 := As (below_step HB.out hb)
 clear hr hb
 go_wp2
 go_ret2
 exact ⟨_, _, rfl, by rw [Nat.div_eq_of_lt HAB.out]; exact IsNat.nil _ _, by rw [Nat.mod_eq_of_lt HAB.out]; exact HR.out, HB2.out⟩
set_option maxRecDepth 100000 in
set_option maxHeartbeats 2000000 in
theorem natDiv_one (ok : Nat → Prop) (v0 : Value) (y : List Int) (A : Option Addr) (c a b : Nat) (w : World) (hok : ∀ k, w.heap.size ≤ k → ok k) (h0 : IsNat w ok v0 a) (hc : y.length ≤ c) (hF : Kd.F (Kd.int .u32) w ok A y.length y) (hy : Nrm y) (hv : val y = (b : Int)) (hab : b ≤ a) (hl : y.length = 1) (hs : (a : Int) < pw 10000000) :
  Calls Tryz.prog 55 #[v0, .slice A y.length c] w (RetDiv ok a b w) := by
 have h1 : IsNat w ok (.slice A y.length c) b := ⟨y, ⟨A, c, rfl, hc, hF⟩, hy, hv⟩
 have hyb : nth y 0 = (b : Int) := by
  have h := val_drop (l := y) (i := 0) (by omega)
  rw [List.drop_zero, List.drop_eq_nil_of_le (by omega), val_nil] at h
  omega
 have hb0 : 1 ≤ b := by have := nrm_pos hy (by omega); omega
 have hb1 : b < 1000000000 := by have := (hy.1.nth 0).2; omega
 obtain ⟨ad, rfl, hcell⟩ := F_at hF 0 (by omega)
 have had : ad.add 0 = ad := rfl
 obtain ⟨bi, hbi⟩ : ∃ bi : Int, (b : Int) = bi := ⟨_, rfl⟩
 rw [had, hyb, hbi] at hcell
 have HC := As hcell
 have H0 := As h0
 obtain ⟨x, hU, hx, hxv⟩ := h0
 have hxl : x.length ≤ 10000000 := len_le hx (by omega)
 have HU := As hU
 have HL := As hx.1
 have HV := As (show (val x).toNat = a by omega)
 have HXL := As hxl
 have H1 := As h1
 have HOK := As hok
 have hc' : decide (cmpI a b < 0) = false := by
  rcases Nat.lt_or_ge b a with h | h
  ·rw [cmpI_gt h]; rfl
  ·rw [cmpI_eq (by omega)]; rfl
 have HBI := As hbi
 have hw1 : IntKind.u64.wrap bi = bi := u64_in (by omega) (by omega)
 clear hcell had hyb hab hF hv hy hU hx hxv hxl h1 hs hok
 rw [hl] at hc H1 ⊢
 clear hl hbi
 go_enter Tryz.func55, Tryz.ntmps55
 go_wp2_with fail
 with_reducible refine (natCmp_nat ok _ _ a b _ H0.out H1.out).mono ?_
 rintro e w1 ⟨rfl, hb⟩
 have HB := As hb
 have hcell := pw_cell_below hb HC.out
 have HU1 := As (HU.out.below hb)
 have HOK1 := As (show ∀ k, w1.heap.size ≤ k → ok k from fun k hk => HOK.out k (by have := hb.size; omega))
 clear hb
 go_wp2_with fail
 have hbi := HBI.out
 subst hbi
 with_reducible refine (natSmall_nat ok _ x b _ HOK1.out HU1.out HL.out HXL.out hb0 hb1).mono ?_
 rintro e w2 ⟨q, rfl, hq, hb⟩
 have HQ := As hq
 have HB2 := As (below_step HB.out hb)
 have HOK2 := As (show ∀ k, w2.heap.size ≤ k → ok k from fun k hk => HOK1.out k (by have := hb.size; omega))
 clear hq hb hcell
 rw [HV.out]
 have hr0 : a % b < b := Nat.mod_lt _ (by omega)
 obtain ⟨rm, hrm⟩ : ∃ rm, a % b = rm := ⟨_, rfl⟩
 rw [hrm] at hr0 ⊢
 have HRM := As hrm
 have hr1 := As (show (0 : Int) ≤ ((rm : Nat) : Int) by omega)
 have hr2 := As (show ((rm : Nat) : Int) < 18446744073709551616 by omega)
 clear hr0 hrm hw1
 go_wp2_with fail
 with_reducible refine (limbs_nat ok _ _ HOK2.out hr1.out hr2.out).mono ?_
 rintro e w3 ⟨r, rfl, hr, hb⟩
 rw [Int.toNat_natCast] at hr
 have HR := As hr
 have HQ3 := As (HQ.out.below hb)
 have HB3 := As (below_step HB2.out hb)
 have HR := As hr
 clear hr hb
 go_wp2
 go_ret2
 exact ⟨_, _, rfl, by rw [← HV.out] at *; exact HQ3.out, by rw [HRM.out]; exact HR.out, HB3.out⟩
/-
  The contract of natDiv (the reference of layer 1): divisors of several limbs.
-/
/-- The plain law of natDiv's round. -/
theorem round_max {b R x d k : Nat} (hR : R < b) (hx : x < 1000000000) (hk : b ≤ k) (h : k + b * d = R * 1000000000 + x) : d < 999999999 := by
 have h1 : b * (d + 1) < b * 1000000000 := by rw [Nat.mul_succ]; have : (R + 1) * 1000000000 ≤ b * 1000000000 := Nat.mul_le_mul_right _ hR; omega
 have := Nat.lt_of_mul_lt_mul_left h1
 omega
theorem round_div {b N k d : Nat} (hk : k < b) (h : k + b * d = N) : N / b = d ∧ N % b = k := by
 subst h
 refine ⟨?_, ?_⟩
 ·rw [Nat.add_mul_div_left _ _ (by omega), Nat.div_eq_of_lt hk]; omega
 ·rw [Nat.add_mul_mod_self_left, Nat.mod_eq_of_lt hk]
theorem round_lt {b R x m k : Nat} (hb : (b : Int) < pw m) (hR : R < b) (hx : x < 1000000000) (hk : m + 1 ≤ k) : ((R * 1000000000 + x : Nat) : Int) < pw k := by
 have h3 := pw_le hk
 have h4 := pw_succ m
 omega
set_option maxRecDepth 100000 in
set_option maxHeartbeats 4000000 in
theorem natDiv_many (ok : Nat → Prop) (v0 : Value) (y : List Int) (A : Option Addr) (c a b : Nat) (w : World) (hok : ∀ k, w.heap.size ≤ k → ok k) (h0 : IsNat w ok v0 a) (hc : y.length ≤ c) (hF : Kd.F (Kd.int .u32) w ok A y.length y) (hy : Nrm y) (hv : val y = (b : Int)) (hab : b ≤ a) (hl : 2 ≤ y.length) (hs : (a : Int) < pw 9000000) :
    Calls Tryz.prog 55 #[v0, .slice A y.length c] w (RetDiv ok a b w) := by
  have h1 : IsNat w ok (.slice A y.length c) b := ⟨y, ⟨A, c, rfl, hc, hF⟩, hy, hv⟩
  have H0 := As h0
  have H1 := As h1
  obtain ⟨x, ⟨A0, c0, rfl, hc0, hF0⟩, hx, hxv⟩ := h0
  have hxl : x.length ≤ 9000000 := len_le hx (by omega)
  have hyx : y.length ≤ x.length := len_mono hy hx (by omega)
  have HF0 := As hF0
  have HL := As hx.1
  have HXV := As hxv
  have HY := As hy
  have HYV := As hv
  have HYL := As hl
  have HB1 := As (show 1 ≤ b by have := nrm_pos hy (by omega); omega)
  have HSB := As (show (b : Int) < pw 9000000 by omega)
  have HSD := As (show ∀ d : Int, 0 ≤ d → d ≤ 999999999 → ((d.toNat : Nat) : Int) < pw 9000000 from fun d h0 h1 => by
    have := pw_le (show 1 ≤ 9000000 by decide)
    have h2 : pw 1 = 1000000000 := rfl
    omega)
  have hl1 : ((y.length : Int) == 1) = false := by simp; omega
  have hc' : decide (cmpI a b < 0) = false := by
    rcases Nat.lt_or_ge b a with h | h
    · rw [cmpI_gt h]; rfl
    · rw [cmpI_eq (by omega)]; rfl
  have hmk0 := As (show 0 ≤ (x.length : Int) by omega)
  have hmk1 := As (show (x.length : Int).toNat ≤ 70368744177664 by omega)
  have HOK := As hok
  have HX2 := As (show 2 ≤ x.length by omega)
  have HUYw := As (show U w ok (.slice A y.length c) y from ⟨A, c, rfl, hc, hF⟩)
  have HB := As (Below.refl w.heap.size w)
  clear hF0 hx hxv hF hy hv hab hl hyx hok h1 hs
  go_enter Tryz.func55, Tryz.ntmps55
  go_wp2_with (first | (go_at_call 85; ((with_reducible refine (natCmp_nat ok _ _ a b _ H0.out H1.out).mono ?_); rintro e w' ⟨rfl, hb⟩; have n2_ := As (below_step HB.out hb); clear HB; have HB := n2_; clear n2_ hb)) | ((with_reducible refine gate_dst (N := 35) rfl ?_); refine Kd.R_make (Kd.int .u32) _ 65 rfl (N := 35) rfl 44 _ _ rfl ((x.length : Int)) rfl rfl Tryz.underlying44 (.int .u32 0) 4 info_u32 rfl (by decide) (by omega) 0 (ok := fun _ => True) (okp := fun _ => True) rfl (fun _ hk => hk) trivial hmk0.out (Nat.le_trans (Nat.mul_le_mul_right _ hmk1.out) (by omega)) (Below.refl _ _) (Nat.le_refl _) ?_; intro z0 w1 ho_ hb_ hg_ hnew_; clear hg_ hnew_; have n0_ := As (Kd.R_lower ho_ (below_size (by repeat (first | (with_reducible first | exact HB.out | apply below_alloc | apply pw_below_drewN | apply below_drew1) | exact HB.out)))); have n1_ := As (below_step (by repeat (first | (with_reducible first | exact HB.out | apply below_alloc | apply pw_below_drewN | apply below_drew1) | exact HB.out)) hb_); clear HB; have HO := n0_; have HB := n1_; clear n0_ n1_ hb_ ho_))
  obtain ⟨gq, capq, hz0, hgq1, hgq2, hcq⟩ := own_open HO.out (by rw [List.length_replicate]; have := HX2.out; omega)
  rw [List.length_replicate, Int.toNat_natCast] at hz0 hcq
  subst hz0
  have HGQ := As (And.intro hgq1 hgq2)
  obtain ⟨ok', hok'⟩ : ∃ ok' : Nat → Prop, ok' = fun k => ok k ∧ k ≠ gq := ⟨_, rfl⟩
  have HOK' := As hok'
  have HUY := As (show U w ok' (.slice A y.length c) y from (HUYw.out.bound).mono (fun k hk => by rw [hok']; exact ⟨hk.1, by have := hk.2; omega⟩))
  clear hok' hgq1 hgq2
  go_loopw [9, 10] (fun vr vi wr => ∃ (j R : Nat) (z : List Int), vi = .int .i64 ((j : Int) - 1) ∧ j ≤ x.length ∧ Aside0 (Own wr w.heap.size (.slice (some ⟨gq, 0, none⟩) x.length capq) z) ∧ Aside0 (DsRel x z b (x.length - j) R) ∧ Aside0 (IsNat wr ok' vr R) ∧ Aside0 (R < b) ∧ Aside0 (Below w.heap.size w wr) ∧ Aside0 (gq < wr.heap.size)) (fun _ i _ => (intOf i + 1).toNat)
  case atStart => exact ⟨x.length, 0, _, rfl, Nat.le_refl _, HO, ⟨by have := DsRel.start x b; simpa using this⟩, ⟨IsNat.nil _ _⟩, HB1, HB, ⟨HGQ.out.2⟩⟩
  case round =>
    clear HO HB
    obtain ⟨j, R, z, rfl, hj, HO, HN, HR, HRB, HB, HGS⟩ := hrel
    obtain ⟨wo, hwo⟩ : ∃ wo, wo = wr := ⟨wr, rfl⟩
    subst hwo
    have hzz : z.length = x.length := HN.out.2.1
    have HZZ := As hzz
    clear hzz
    rcases Nat.eq_zero_or_pos j with h0 | h0
    · subst h0
      have hge : decide ((0 : Int) ≤ ((0 : Nat) : Int) - 1) = false := by decide
      have HZ := As (HN.out.done (by have := HB1.out; omega) (by omega) (by have := HRB.out; omega))
      go_wp2_with (go_at_call 87; ((with_reducible refine (cut_nat ok _ z _ (fun k hk => HOK.out k (Nat.le_trans HB.out.size hk)) (Own.reads HO.out HOK.out) HZ.out.1 (by have := HZZ.out; omega)).mono ?_); rintro e w' ⟨v', rfl, hv, hb⟩; have HV := As hv; have HR2 := As (HR.out.below hb); have HB' := As (below_step HB.out hb); clear hv hb))
      go_ret2
      have hd := HZ.out.2.1
      have hr := HZ.out.2.2
      rw [HXV.out] at hd hr
      refine ⟨v', _, rfl, ?_, ?_, HB'.out⟩
      · rw [show a / b = (val z).toNat by rw [hd, ← Int.natCast_ediv, Int.toNat_natCast]]; exact HV.out
      · rw [show a % b = R by have : ((a % b : Nat) : Int) = (R : Int) := by rw [Int.natCast_emod]; omega
                              omega]
        exact HR2.out.mono (fun k hk => by rw [HOK'.out] at hk; exact hk.1)
    · obtain ⟨i, rfl⟩ : ∃ i, j = i + 1 := ⟨j - 1, by omega⟩
      have hid : (((i + 1 : Nat) : Int) - 1) = (i : Int) := by omega
      rw [hid]
      have hzl : i < z.length := by have := HZZ.out; omega
      obtain ⟨lr, ⟨Ar, cr, rfl, hcr, hFr⟩, hlr, hvr⟩ := HR.out
      have hil : i < x.length := by omega
      obtain ⟨ad, rfl, hcell⟩ := F_at HF0.out i (by omega)
      have hx := HL.out.nth i
      have HCELL := As (show True from trivial)
      replace hcell := pw_cell_below HB.out hcell
      have HFr := As hFr
      have HLr := As hlr
      have HVr := As hvr
      have HLRL := As (show lr.length ≤ 9000001 from len_le hlr (by have h1 := HSB.out; have h2 := HRB.out; have := pw_le (show 9000000 ≤ 9000001 by decide); omega))
      obtain ⟨xi, hxi⟩ : ∃ xi : Nat, nth x i = (xi : Int) := ⟨(nth x i).toNat, by omega⟩
      obtain ⟨N0, hN0⟩ : ∃ N0 : Nat, R * 1000000000 + xi = N0 := ⟨_, rfl⟩
      have HXI := As hxi
      have HN0 := As hN0
      have hxi9 : xi < 1000000000 := by omega
      have HMAX := As (show ∀ (d : Int) (k : Nat), 0 ≤ d → b ≤ k → k + b * d.toNat = N0 → d < 999999999 from fun d k h0 h1 h2 => by
        have := round_max HRB.out hxi9 h1 (by rw [h2]; exact hN0.symm)
        omega)
      have HQ := As (show ∀ (d : Int) (k : Nat), 0 ≤ d → k < b → k + b * d.toNat = N0 → d = ((N0 / b : Nat) : Int) from fun d k h0 h1 h2 => by
        have := (round_div h1 h2).1
        omega)
      have HREM := As (show ∀ (d : Int) (k : Nat), k < b → k + b * d.toNat = N0 → k = N0 % b from fun d k h1 h2 => (round_div h1 h2).2.symm)
      have HSN := As (show (N0 : Int) < pw 10000000 by rw [← hN0]; exact round_lt HSB.out HRB.out hxi9 (by omega))
      have HOKF := As (show ∀ wq, Below wo.heap.size wo wq → ∀ k, wq.heap.size ≤ k → ok' k from fun wq hb k hk => by
        rw [HOK'.out]
        have h1 := hb.size
        have h2 := HGS.out
        have h3 := HB.out.size
        exact ⟨HOK.out k (by omega), by omega⟩)
      have HUB := As (show ∀ wq, Below wo.heap.size wo wq → U wq ok' (.slice A y.length c) y from fun wq hb => HUY.out.below (below_step HB.out hb))
      have HBN := As (show ∀ wq, Below wo.heap.size wo wq → IsNat wq ok' (.slice A y.length c) b from fun wq hb => ⟨y, HUB.out wq hb, HY.out, HYV.out⟩)
      clear hid hxi hN0 hxi9 hFr hlr hvr
      have HLIM := As (show Lim ([nth x i] ++ lr) from (Lim.single hx.1 hx.2).append HLr.out.1)
      have HVAL := As (show (val ([nth x i] ++ lr)).toNat = N0 by
        rw [val_append, val_single, List.length_singleton, HXI.out, HVr.out, ← HN0.out]
        have : pw 1 = 1000000000 := rfl
        rw [this]
        omega)
      go_wp2_with (first | ((with_reducible refine gate_builtin (b := .append) (xs := #[.tmp 47, .tmp 48]) rfl ?_); refine Kd.R_append_rows (Kd.int .u32) (w0 := wo) wo.heap.size rfl (.tmp 47) (.tmp 48) 44 65 (.int .u32 0) 4 rfl Tryz.underlying44 info_u32 rfl (by decide) (by omega) _ [nth x i] lr Ar lr.length cr (fun _ => True) (fun _ => False) rfl rfl (own_lit wo wo.heap.size (Nat.le_refl _) (nth x i)) (Kd.F_now (Kd.F_step HFr.out (fun k _ hlt => heap_old _ hlt))) (fun x cs h => h) (fun _ hk => hk.elim) (fun _ _ => trivial) (below_alloc (Below.refl _ _) _) (by simp only [size_alloc]; omega) (by have := HLRL.out; simp; omega) ?_; intro v1 w1 ho_ hb_ hg_ hat_; have HO1 := As ho_; have HBr := As hb_; clear ho_ hb_ hg_ hat_) | (go_at_call 87; ((with_reducible refine (cut_nat ok' _ ([nth x i] ++ lr) _ (HOKF.out _ HBr.out) (Own.reads HO1.out (HOKF.out wo (Below.refl _ _))) HLIM.out (by have := HLRL.out; simp; omega)).mono ?_); rintro e w' ⟨v', rfl, hv, hb⟩; rw [HVAL.out] at hv; have HRv := As hv; (obtain ⟨l3, hU3, hn3, hv3⟩ := hv); have HU3 := As hU3; have HN3 := As hn3.1; have n2_ := As (below_step HBr.out hb); clear HBr; have HBr := n2_; clear n2_ hb hU3 hn3 hv3)) | (go_at_call 89; ((with_reducible refine (guess_nat ok' _ _ l3 y _ HU3.out (HUB.out _ HBr.out) HN3.out HY.out HYL.out).mono ?_); rintro e w' ⟨d0, rfl, hd0, hd9, hb⟩; have n1_ := As (HRv.out.below hb); have n2_ := As (below_step HBr.out hb); clear HBr HRv; have HBr := n2_; have HRv := n1_; clear n1_ n2_ hb)))
      go_loopw [11] (fun vd wq => ∃ d : Int, vd = .int .u64 d ∧ 0 ≤ d ∧ d ≤ 999999999 ∧ Aside0 (IsNat wq ok' v' N0) ∧ Aside0 (Below wo.heap.size wo wq)) (fun vd _ => (intOf vd).toNat)
      case atStart => exact ⟨d0, rfl, hd0, hd9, HRv, HBr⟩
      case round =>
        clear HRv HBr hd0 hd9
        obtain ⟨d, rfl, hd0, hd9, HUr, HBr⟩ := hrel
        by_cases hd : 0 < d
        · have hdb : decide (0 < d) = true := decide_eq_true hd
          have HK1 := As (show 0 ≤ d from hd0)
          have HK2 := As (show d < 18446744073709551616 by omega)
          by_cases hgt : N0 < b * d.toNat
          · have hcb : decide (0 < cmpI (b * d.toNat) N0) = true := by rw [cmpI_gt hgt]; rfl
            clear hgt
            go_wp2_with (first | (go_at_call 29; ((with_reducible refine (limbs_nat ok' d _ (HOKF.out _ HBr.out) HK1.out HK2.out).mono ?_); rintro e w' ⟨v', rfl, hv, hb⟩; have HDv := As hv; have HBr1 := As (below_step HBr.out hb); have HUr1 := As (HUr.out.below hb); clear hv hb)) | (go_at_call 83; ((with_reducible refine (natMul_nat ok' _ _ b d.toNat _ (HOKF.out _ HBr1.out) (HBN.out _ HBr1.out) HDv.out HSB.out (HSD.out _ HK1.out hd9)).mono ?_); rintro e w' ⟨v', rfl, hv, hb⟩; have HPv := As hv; have HBr2 := As (below_step HBr1.out hb); have HUr2 := As (HUr1.out.below hb); clear hv hb)) | (go_at_call 85; ((with_reducible refine (natCmp_nat ok' _ _ (b * d.toNat) N0 _ HPv.out HUr2.out).mono ?_); rintro e w' ⟨rfl, hb⟩; have HBr3 := As (below_step HBr2.out hb); have HUr3 := As (HUr2.out.below hb); clear hb)))
            go_roundw
            case rel => exact ⟨d - 1, by go_num, by omega, by omega, HUr3, HBr3⟩
            case measure => simp [intOf]; omega
          · have hcb : decide (0 < cmpI (b * d.toNat) N0) = false := by
              rcases Nat.lt_or_ge (b * d.toNat) N0 with h | h
              · rw [cmpI_lt h]; rfl
              · rw [cmpI_eq (by omega)]; rfl
            have HLE := As (show b * d.toNat ≤ N0 by omega)
            clear hgt
            go_wp2_with (first | (first | (go_at_call 29; ((with_reducible refine (limbs_nat ok' d _ (HOKF.out _ HBr.out) HK1.out HK2.out).mono ?_); rintro e w' ⟨v', rfl, hv, hb⟩; have HDv := As hv; have HBr1 := As (below_step HBr.out hb); have HUr1 := As (HUr.out.below hb); clear hv hb)) | (go_at_call 83; ((with_reducible refine (natMul_nat ok' _ _ b d.toNat _ (HOKF.out _ HBr1.out) (HBN.out _ HBr1.out) HDv.out HSB.out (HSD.out _ HK1.out hd9)).mono ?_); rintro e w' ⟨v', rfl, hv, hb⟩; have HPv := As hv; have HBr2 := As (below_step HBr1.out hb); have HUr2 := As (HUr1.out.below hb); clear hv hb)) | (go_at_call 85; ((with_reducible refine (natCmp_nat ok' _ _ (b * d.toNat) N0 _ HPv.out HUr2.out).mono ?_); rintro e w' ⟨rfl, hb⟩; have HBr3 := As (below_step HBr2.out hb); have HUr3 := As (HUr2.out.below hb); clear hb))) | (go_at_call 29; fail))
            clear HUr HBr HDv HPv HUr1 HBr1 HUr2 HBr2
            have HUr := HUr3
            have HBr := HBr3
            have HK1 := As (show 0 ≤ d from hd0)
            have HK2 := As (show d < 18446744073709551616 by omega)
            go_wp2_with (first | (go_at_call 29; ((with_reducible refine (limbs_nat ok' d _ (HOKF.out _ HBr.out) HK1.out HK2.out).mono ?_); rintro e w' ⟨v', rfl, hv, hb⟩; have HDv := As hv; have HBr1 := As (below_step HBr.out hb); have HU11 := As (HUr.out.below hb); clear hv hb)) | (go_at_call 83; ((with_reducible refine (natMul_nat ok' _ _ b d.toNat _ (HOKF.out _ HBr1.out) (HBN.out _ HBr1.out) HDv.out HSB.out (HSD.out _ HK1.out hd9)).mono ?_); rintro e w' ⟨v', rfl, hv, hb⟩; have HPv := As hv; have HBr2 := As (below_step HBr1.out hb); have HU12 := As (HU11.out.below hb); clear hv hb)) | (go_at_call 86; ((with_reducible refine (natSub_nat ok' _ _ N0 (b * d.toNat) _ (HOKF.out _ HBr2.out) HU12.out HPv.out HLE.out HSN.out).mono ?_); rintro e w' ⟨v', rfl, hv, hb⟩; have HRv := As hv; have HBr3 := As (below_step HBr2.out hb); clear hv hb)))
            clear HBr HUr HDv HPv HBr1 HBr2 HU11 HU12
            go_loopg [9, 11] (N0 - b * d.toNat) (fun kq vr vd wq => ∃ d : Int, vd = .int .u64 d ∧ 0 ≤ d ∧ d ≤ 999999999 ∧ Aside0 (kq + b * d.toNat = N0) ∧ Aside0 (IsNat wq ok' vr kq) ∧ Aside0 (Below wo.heap.size wo wq))
            case atStart => exact ⟨d, rfl, hd0, hd9, ⟨by have := HLE.out; omega⟩, HRv, HBr3⟩
            case round =>
              clear HRv HBr3 HK1 HK2 hd0 hd9 HLE
              obtain ⟨d, rfl, hd0, hd9, HS0, HRv, HBr⟩ := hrel
              by_cases hge : b ≤ gk
              · have hcb : decide (0 ≤ cmpI gk b) = true := by
                  rcases Nat.lt_or_ge b gk with h | h
                  · rw [cmpI_gt h]; rfl
                  · rw [cmpI_eq (by omega)]; rfl
                have HGE := As hge
                have HSK := As (show ((gk : Nat) : Int) < pw 10000000 by have h1 := HSN.out; have h2 := HS0.out; have h3 : gk ≤ N0 := (by rw [← h2]; exact Nat.le_add_right _ _); omega)
                have hd8 : d < 999999999 := HMAX.out d gk hd0 hge HS0.out
                clear hge
                go_wp2_with (first | (go_at_call 85; ((with_reducible refine (natCmp_nat ok' _ _ gk b _ HRv.out (HBN.out _ HBr.out)).mono ?_); rintro e w' ⟨rfl, hb⟩; have HBr1 := As (below_step HBr.out hb); have HR1 := As (HRv.out.below hb); clear hb)) | (go_at_call 86; ((with_reducible refine (natSub_nat ok' _ _ gk b _ (HOKF.out _ HBr1.out) HR1.out (HBN.out _ HBr1.out) HGE.out HSK.out).mono ?_); rintro e w' ⟨v', rfl, hv, hb⟩; have HR2 := As hv; have HBr2 := As (below_step HBr1.out hb); clear hv hb)))
                go_roundg (gk - b)
                case measure => have := HGE.out; have := HB1.out; omega
                case rel => exact ⟨d + 1, by go_num, by omega, by omega, ⟨by have h1 := HS0.out; have h2 := HGE.out; rw [show (d + 1).toNat = d.toNat + 1 by omega, Nat.mul_succ]; omega⟩, HR2, HBr2⟩
              · have hcb : decide (0 ≤ cmpI gk b) = false := by rw [cmpI_lt (by omega)]; rfl
                have HLT := As (show gk < b by omega)
                clear hge
                have hdq : d = (((N0 / b : Nat)) : Int) := HQ.out d gk hd0 HLT.out HS0.out
                have hdr : gk = N0 % b := HREM.out d gk HLT.out HS0.out
                have HDQ := As hdq
                have HDR := As hdr
                have hw32 : IntKind.u32.wrap d = d := (by have h : IntKind.u32.wrap d = d % 4294967296 := rfl; omega)
                clear hdq hdr
                go_wp2_with (go_at_call 85; ((with_reducible refine (natCmp_nat ok' _ _ gk b _ HRv.out (HBN.out _ HBr.out)).mono ?_); rintro e w' ⟨rfl, hb⟩; have HBr1 := As (below_step HBr.out hb); have HR1 := As (HRv.out.below hb); have HO1 := As (Kd.R_below HO.out HBr1.out); (obtain ⟨hxz, hfz⟩ := own_cell HO1.out hzl); clear hb))
                have hsum : (R : Int) * 1000000000 + (xi : Int) = ((N0 : Nat) : Int) := by have := HN0.out; omega
                have h1 := HN.out.next (i := i) (by omega) HL.out (by have := HB1.out; omega) (by omega) (by have := HRB.out; omega)
                rw [HXI.out, hsum, ← Int.natCast_ediv, ← Int.natCast_emod, ← HDQ.out, ← HDR.out] at h1
                have HDS := As (show DsRel x (z.set i d) b (x.length - i) gk by rw [show x.length - i = x.length - (i + 1) + 1 by omega]; exact h1)
                clear h1 hsum
                go_roundw
                case rel => exact ⟨i, gk, z.set i d, by go_num, by omega, ⟨own_put HO1.out i _⟩, HDS, ⟨HR1.out.step (fun k hk _ => Below.heap_setCell _ _ _ k (fun e => by rw [HOK'.out] at hk; exact hk.2 e))⟩, HLT, ⟨below_set (below_step HB.out HBr1.out) HGQ.out.1⟩, ⟨by have h1 := HGS.out; have h2 := HBr1.out.size; simp [World.setCell]; omega⟩⟩
                case measure => simp [intOf]
        · have hdb : decide (0 < d) = false := decide_eq_false hd
          have HLE := As (show b * d.toNat ≤ N0 by rw [show d.toNat = 0 by omega]; omega)
          have HK1 := As (show 0 ≤ d from hd0)
          have HK2 := As (show d < 18446744073709551616 by omega)
          go_wp2_with (first | (go_at_call 29; ((with_reducible refine (limbs_nat ok' d _ (HOKF.out _ HBr.out) HK1.out HK2.out).mono ?_); rintro e w' ⟨v', rfl, hv, hb⟩; have HDv := As hv; have HBr1 := As (below_step HBr.out hb); have HU11 := As (HUr.out.below hb); clear hv hb)) | (go_at_call 83; ((with_reducible refine (natMul_nat ok' _ _ b d.toNat _ (HOKF.out _ HBr1.out) (HBN.out _ HBr1.out) HDv.out HSB.out (HSD.out _ HK1.out hd9)).mono ?_); rintro e w' ⟨v', rfl, hv, hb⟩; have HPv := As hv; have HBr2 := As (below_step HBr1.out hb); have HU12 := As (HU11.out.below hb); clear hv hb)) | (go_at_call 86; ((with_reducible refine (natSub_nat ok' _ _ N0 (b * d.toNat) _ (HOKF.out _ HBr2.out) HU12.out HPv.out HLE.out HSN.out).mono ?_); rintro e w' ⟨v', rfl, hv, hb⟩; have HRv := As hv; have HBr3 := As (below_step HBr2.out hb); clear hv hb)))
          clear HBr HUr HDv HPv HBr1 HBr2 HU11 HU12
          go_loopg [9, 11] (N0 - b * d.toNat) (fun kq vr vd wq => ∃ d : Int, vd = .int .u64 d ∧ 0 ≤ d ∧ d ≤ 999999999 ∧ Aside0 (kq + b * d.toNat = N0) ∧ Aside0 (IsNat wq ok' vr kq) ∧ Aside0 (Below wo.heap.size wo wq))
          case atStart => exact ⟨d, rfl, hd0, hd9, ⟨by have := HLE.out; omega⟩, HRv, HBr3⟩
          case round =>
            clear HRv HBr3 HK1 HK2 hd0 hd9 HLE
            obtain ⟨d, rfl, hd0, hd9, HS0, HRv, HBr⟩ := hrel
            by_cases hge : b ≤ gk
            · have hcb : decide (0 ≤ cmpI gk b) = true := by
                rcases Nat.lt_or_ge b gk with h | h
                · rw [cmpI_gt h]; rfl
                · rw [cmpI_eq (by omega)]; rfl
              have HGE := As hge
              have HSK := As (show ((gk : Nat) : Int) < pw 10000000 by have h1 := HSN.out; have h2 := HS0.out; have h3 : gk ≤ N0 := (by rw [← h2]; exact Nat.le_add_right _ _); omega)
              have hd8 : d < 999999999 := HMAX.out d gk hd0 hge HS0.out
              clear hge
              go_wp2_with (first | (go_at_call 85; ((with_reducible refine (natCmp_nat ok' _ _ gk b _ HRv.out (HBN.out _ HBr.out)).mono ?_); rintro e w' ⟨rfl, hb⟩; have HBr1 := As (below_step HBr.out hb); have HR1 := As (HRv.out.below hb); clear hb)) | (go_at_call 86; ((with_reducible refine (natSub_nat ok' _ _ gk b _ (HOKF.out _ HBr1.out) HR1.out (HBN.out _ HBr1.out) HGE.out HSK.out).mono ?_); rintro e w' ⟨v', rfl, hv, hb⟩; have HR2 := As hv; have HBr2 := As (below_step HBr1.out hb); clear hv hb)))
              go_roundg (gk - b)
              case measure => have := HGE.out; have := HB1.out; omega
              case rel => exact ⟨d + 1, by go_num, by omega, by omega, ⟨by have h1 := HS0.out; have h2 := HGE.out; rw [show (d + 1).toNat = d.toNat + 1 by omega, Nat.mul_succ]; omega⟩, HR2, HBr2⟩
            · have hcb : decide (0 ≤ cmpI gk b) = false := by rw [cmpI_lt (by omega)]; rfl
              have HLT := As (show gk < b by omega)
              clear hge
              have hdq : d = (((N0 / b : Nat)) : Int) := HQ.out d gk hd0 HLT.out HS0.out
              have hdr : gk = N0 % b := HREM.out d gk HLT.out HS0.out
              have HDQ := As hdq
              have HDR := As hdr
              have hw32 : IntKind.u32.wrap d = d := (by have h : IntKind.u32.wrap d = d % 4294967296 := rfl; omega)
              clear hdq hdr
              go_wp2_with (go_at_call 85; ((with_reducible refine (natCmp_nat ok' _ _ gk b _ HRv.out (HBN.out _ HBr.out)).mono ?_); rintro e w' ⟨rfl, hb⟩; have HBr1 := As (below_step HBr.out hb); have HR1 := As (HRv.out.below hb); have HO1 := As (Kd.R_below HO.out HBr1.out); (obtain ⟨hxz, hfz⟩ := own_cell HO1.out hzl); clear hb))
              have hsum : (R : Int) * 1000000000 + (xi : Int) = ((N0 : Nat) : Int) := by have := HN0.out; omega
              have h1 := HN.out.next (i := i) (by omega) HL.out (by have := HB1.out; omega) (by omega) (by have := HRB.out; omega)
              rw [HXI.out, hsum, ← Int.natCast_ediv, ← Int.natCast_emod, ← HDQ.out, ← HDR.out] at h1
              have HDS := As (show DsRel x (z.set i d) b (x.length - i) gk by rw [show x.length - i = x.length - (i + 1) + 1 by omega]; exact h1)
              clear h1 hsum
              go_roundw
              case rel => exact ⟨i, gk, z.set i d, by go_num, by omega, ⟨own_put HO1.out i _⟩, HDS, ⟨HR1.out.step (fun k hk _ => Below.heap_setCell _ _ _ k (fun e => by rw [HOK'.out] at hk; exact hk.2 e))⟩, HLT, ⟨below_set (below_step HB.out HBr1.out) HGQ.out.1⟩, ⟨by have h1 := HGS.out; have h2 := HBr1.out.size; simp [World.setCell]; omega⟩⟩
              case measure => simp [intOf]
/-
  The contracts of natDiv (whole) and natGcd (the reference of layer 1).
-/
theorem natDiv_nat (ok : Nat → Prop) (v0 v1 : Value) (a b : Nat) (w : World) (hok : ∀ k, w.heap.size ≤ k → ok k) (h0 : IsNat w ok v0 a) (h1 : IsNat w ok v1 b) (hb : b ≠ 0) (hs : (a : Int) < pw 9000000) :
  Calls Tryz.prog 55 #[v0, v1] w (RetDiv ok a b w) := by
 have hs10 : (a : Int) < pw 10000000 := by have := pw_le (show 9000000 ≤ 10000000 by decide); omega
 rcases Nat.lt_or_ge a b with h | h
 ·exact natDiv_small ok v0 v1 a b w hok h0 h1 h hs10
 ·obtain ⟨y, ⟨A, c, rfl, hc, hF⟩, hy, hv⟩ := h1
  have hl : y.length ≠ 0 := fun e => hb (by rw [nil_zero e] at hv; omega)
  by_cases h1 : y.length = 1
  ·exact natDiv_one ok v0 y A c a b w hok h0 hc hF hy hv h h1 hs10
  ·exact natDiv_many ok v0 y A c a b w hok h0 hc hF hy hv h (by omega) hs
set_option maxHeartbeats 1000000 in
theorem natGcd_nat (ok : Nat → Prop) (v0 v1 : Value) (a b : Nat) (w : World) (hok : ∀ k, w.heap.size ≤ k → ok k) (h0 : IsNat w ok v0 a) (h1 : IsNat w ok v1 b) (hs : (a : Int) < pw 9000000) (hs' : (b : Int) < pw 9000000) :
  Calls Tryz.prog 54 #[v0, v1] w (RetNat ok (Nat.gcd a b) w) := by
 have H0 := As h0
 have H1 := As h1
 have HOK := As hok
 have HS := As (And.intro hs hs')
 clear h0 h1 hok hs hs'
 go_enter Tryz.func54, Tryz.ntmps54
 go_wp2
 go_loopg [0, 1] b (fun kq x y wr => ∃ a' : Nat, Aside0 (IsNat wr ok x a') ∧ Aside0 (IsNat wr ok y kq) ∧ Aside0 (Nat.gcd a' kq = Nat.gcd a b) ∧ Aside0 ((a' : Int) < pw 9000000 ∧ (kq : Int) < pw 9000000) ∧ Aside0 (Below w.heap.size w wr))
 case atStart => exact ⟨a, H0, H1, ⟨rfl⟩, HS, ⟨Below.refl _ _⟩⟩
 case round =>
  obtain ⟨a', HX, HY, HG, HS2, HB⟩ := hrel
  have hy := HY.out
  obtain ⟨l, ⟨A, c, rfl, hc, hF⟩, hl, hv⟩ := hy
  by_cases hz : l.length = 0
  ·have hk : gk = 0 := by rw [nil_zero hz] at hv; omega
   subst hk
   have HZ := As hz
   have hzb : decide (0 < l.length) = false := decide_eq_false (by omega)
   clear hF hl hv hz
   go_wp2
   go_ret
   exact ⟨_, rfl, by rw [← HG.out, Nat.gcd_zero_right]; exact HX.out, HB.out⟩
  ·have hk : gk ≠ 0 := by
    intro e
    subst e
    exact hz (nrm_zero hl hv)
   have hzb : decide (0 < l.length) = true := decide_eq_true (by omega)
   have HOK2 := As (show ∀ k, wr.heap.size ≤ k → ok k from fun k hk => HOK.out k (by have := HB.out.size; omega))
   have HK := As hk
   have hs1 := As HS2.out.1
   clear hF hl hv hz hk
   go_wp2_with (go_at_call 55; ((with_reducible refine (natDiv_nat ok _ _ a' gk _ HOK2.out HX.out HY.out HK.out hs1.out).mono ?_); rintro e w' ⟨q, r, rfl, hq, hr, hb⟩; have HR := As hr; have HY2 := As (HY.out.below hb); have HB2 := As (below_step HB.out hb); clear hq hr hb))
   have hlt : a' % gk < gk := Nat.mod_lt _ (by have := HK.out; omega)
   have HLT := As hlt
   clear hlt
   go_roundg (a' % gk)
   case measure => exact HLT.out
   case rel => exact ⟨gk, HY2, HR, ⟨by rw [← HG.out, Nat.gcd_comm a' gk, Nat.gcd_rec gk a', Nat.gcd_comm]⟩, ⟨HS2.out.2, by have := HLT.out; have := HS2.out.2; omega⟩, HB2⟩
/-
  The contract of build (the reference of layer 1).
-/
theorem size_setCell (w : World) (p : Addr) (v : Value) : (w.setCell p v).heap.size = w.heap.size := by simp [World.setCell]
theorem gcd_case {lg : List Int} {g : Nat} (h0 : 0 < lg.length) (hl : Nrm lg) (hv : val lg = (g : Int)) : (((lg.length : Int) != 1) = true ∧ g ≠ 1) ∨ ((((lg.length : Int) != 1) = false ∧ (nth lg 0 != 1) = true) ∧ g ≠ 1) ∨ ((((lg.length : Int) != 1) = false ∧ (nth lg 0 != 1) = false) ∧ g = 1) := by
 by_cases h : lg.length = 1
 ·have h2 := val_drop (l := lg) (i := 0) (by omega)
  rw [List.drop_zero, List.drop_eq_nil_of_le (by omega), val_nil] at h2
  by_cases h3 : nth lg 0 = 1
  ·exact .inr (.inr ⟨⟨by simp; omega, by simp [h3]⟩, by omega⟩)
  ·exact .inr (.inl ⟨⟨by simp; omega, by simp [h3]⟩, by omega⟩)
 ·refine .inl ⟨by simp; omega, fun e => ?_⟩
  have h1 := nrm_low hl h0
  have h2 := pw_le (show 1 ≤ lg.length - 1 by omega)
  rw [show pw 1 = 1000000000 from rfl] at h2
  omega
set_option maxHeartbeats 2000000 in
theorem build_val (ok : Nat → Prop) (neg : Bool) (v1 v2 : Value) (nl dl : List Int) (w : World) (hok : ∀ k, w.heap.size ≤ k → ok k) (h1 : U w ok v1 nl) (h2 : U w ok v2 dl) (h3 : U32 nl) (h4 : U32 dl) (h5 : nl.length ≤ 10000000) (h6 : dl.length ≤ 10000000) (hs1 : val nl < pw 9000000) (hs2 : val dl < pw 9000000) :
  Calls Tryz.prog 28 #[.bool neg, v1, v2] w (RetRat ok (rawq neg nl dl) w) := by
 obtain ⟨W1, hW1⟩ : ∃ W1, w.alloc (.cells #[.bool false, .slice none 0 0, .slice none 0 0] 46) = W1 := ⟨_, rfl⟩
 have hb1 : Below w.heap.size w W1 := by rw [← hW1]; exact below_alloc (Below.refl _ _) _
 have hsz : W1.heap.size = w.heap.size + 1 := by rw [← hW1, size_alloc]
 obtain ⟨ok', hok'⟩ : ∃ ok' : Nat → Prop, ok' = fun k => ok k ∧ k ≠ w.heap.size := ⟨_, rfl⟩
 have HOK' := As hok'
 have HN := As ((h1.old hb1).mono (ok' := ok') (fun k hk => by rw [hok']; exact ⟨hk.1, by have := hk.2; omega⟩))
 have HD := As ((h2.old hb1).mono (ok' := ok') (fun k hk => by rw [hok']; exact ⟨hk.1, by have := hk.2; omega⟩))
 have HOK1 := As (show ∀ k, W1.heap.size ≤ k → ok' k from fun k hk => by rw [hok']; exact ⟨hok k (by omega), by omega⟩)
 have HBA := As hb1
 have HSZ := As hsz
 have hu4 := As h4
 have hu3 := As h3
 have hle1 := As (show nl.length ≤ 10000000 by omega)
 have hle2 := As (show dl.length ≤ 10000000 by omega)
 have hsn := As (show ((val nl).toNat : Int) < pw 9000000 by have := val_nonneg_u h3; omega)
 have hsd := As (show ((val dl).toNat : Int) < pw 9000000 by have := val_nonneg_u h4; omega)
 have HVN := As (val_nonneg_u h3)
 have HVD := As (val_nonneg_u h4)
 have HOK := As hok
 have HW1 := As hW1
 clear h1 h2 h3 h4 h5 h6 hok hok' hb1 hsz hW1 hs1 hs2
 obtain ⟨n, hn⟩ : ∃ n, (val nl).toNat = n := ⟨_, rfl⟩
 obtain ⟨d, hd⟩ : ∃ d, (val dl).toNat = d := ⟨_, rfl⟩
 rw [hn] at hsn
 rw [hd] at hsd
 have HNN := As hn
 have HDD := As hd
 clear hn hd
 go_enter Tryz.func28, Tryz.ntmps28
 go_wp2_with fail
 rw [HW1.out]
 with_reducible refine (refnat_nat ok' _ nl _ HOK1.out HN.out hu3.out hle1.out).mono ?_
 rintro e w1 ⟨vn, rfl, hn, hb⟩
 obtain ⟨bc, bf⟩ := bcell hb
 rw [HSZ.out, ← HW1.out] at bc bf
 have hz1 : w.heap.size < w1.heap.size := by have := hb.size; have := HSZ.out; omega
 have HB1 := As (below_weaken HBA.out HBA.out.size hb)
 rw [HNN.out] at hn
 have HNa := As hn
 have HD1 := As (HD.out.below hb)
 have HOK1a := As (show ∀ k, w1.heap.size ≤ k → ok' k from fun k hk => by rw [HOK'.out]; exact ⟨HOK.out k (by omega), by omega⟩)
 obtain ⟨ln, ⟨An, cn, rfl, _, _⟩, hnn, hvn⟩ := hn
 clear hb
 go_wp2_with fail
 with_reducible refine (refnat_nat ok' _ dl _ HOK1a.out HD1.out hu4.out hle2.out).mono ?_
 rintro e w2 ⟨vd, rfl, hd, hb⟩
 obtain ⟨bc2, bf2⟩ := bcell hb
 have hz2 : w.heap.size < w2.heap.size := by have := hb.size; omega
 have HB2 := As (below_step HB1.out hb)
 rw [HDD.out] at hd
 have HNb0 := As (HNa.out.below hb)
 have HDb0 := As hd
 have HOK2 := As (show ∀ k, w2.heap.size ≤ k → ok' k from fun k hk => by rw [HOK'.out]; exact ⟨HOK.out k (by omega), by omega⟩)
 obtain ⟨ld, ⟨Ad, cd, rfl, _, _⟩, hnd, hvd⟩ := hd
 clear hb
 by_cases hz : n = 0
 ·have hl0 : ((ln.length : Int) == 0) = true := by have := nrm_zero hnn (by rw [hvn, hz]; rfl); simp [this]
  have hl0' : (ln.length == 0) = true := by have := nrm_zero hnn (by rw [hvn, hz]; rfl); simp [this]
  have HQ0 := As (show rawq neg nl dl = 0 by unfold rawq; rw [HNN.out, hz]; split; rfl; exact rq_zero _ _)
  clear hz hnn hvn hnd hvd
  go_wp2
  have h1 := isNat_one (((w2.setCell ⟨w.heap.size, 0, none⟩ (.bool false)).setCell ⟨w.heap.size, 1, none⟩ (.slice none 0 0)).setCell ⟨w.heap.size, 2, none⟩ (.slice (some ⟨w2.heap.size, 0, none⟩) 1 1)) ok' (fun k hk => HOK2.out k (by rw [size_setCell, size_setCell, size_setCell] at hk; exact hk))
  refine bodyPost_ret (v := .agg #[.bool false, .slice none 0 0, .slice (some ⟨w2.heap.size, 0, none⟩) 1 1]) (by simp [results, Tryz.results28, go_sem, bc2, bf2, bc, bf, hz1, hz2]) rfl ⟨_, rfl, ?_, ?_⟩
  ·have hne : ∀ k, ok' k → k ≠ w.heap.size := fun k hk => by rw [HOK'.out] at hk; exact hk.2
   have hmo : ∀ k, ok' k → ok k := fun k hk => by rw [HOK'.out] at hk; exact hk.1
   rw [HQ0.out]
   rw [size_setCell, size_setCell, size_setCell] at h1
   exact (isCan_zero _ _ _ h1).mono hmo
  ·exact below_alloc (below_set (below_set (below_set HB2.out (Nat.le_refl _)) (Nat.le_refl _)) (Nat.le_refl _)) _
 ·have hlz : ln.length ≠ 0 := fun e => hz (by rw [nil_zero e] at hvn; omega)
  have hl0 : ((ln.length : Int) == 0) = false := by simp [hlz]
  have hl0' : (ln.length == 0) = false := by simp [hlz]
  have HN0 := As hz
  clear hz hnn hvn hlz
  by_cases hz : d = 0
  ·have hm0 : ((ld.length : Int) == 0) = true := by have := nrm_zero hnd (by rw [hvd, hz]; rfl); simp [this]
   have hm0' : (ld.length == 0) = true := by have := nrm_zero hnd (by rw [hvd, hz]; rfl); simp [this]
   have HQ0 := As (show rawq neg nl dl = 0 by unfold rawq; rw [if_pos (by have := HVD.out; have := HDD.out; omega)])
   clear hz hnd hvd
   go_wp2
   have h1 := isNat_one (((w2.setCell ⟨w.heap.size, 0, none⟩ (.bool false)).setCell ⟨w.heap.size, 1, none⟩ (.slice none 0 0)).setCell ⟨w.heap.size, 2, none⟩ (.slice (some ⟨w2.heap.size, 0, none⟩) 1 1)) ok' (fun k hk => HOK2.out k (by rw [size_setCell, size_setCell, size_setCell] at hk; exact hk))
   refine bodyPost_ret (v := .agg #[.bool false, .slice none 0 0, .slice (some ⟨w2.heap.size, 0, none⟩) 1 1]) (by simp [results, Tryz.results28, go_sem, bc2, bf2, bc, bf, hz1, hz2]) rfl ⟨_, rfl, ?_, ?_⟩
   ·have hne : ∀ k, ok' k → k ≠ w.heap.size := fun k hk => by rw [HOK'.out] at hk; exact hk.2
    have hmo : ∀ k, ok' k → ok k := fun k hk => by rw [HOK'.out] at hk; exact hk.1
    rw [HQ0.out]
    rw [size_setCell, size_setCell, size_setCell] at h1
    exact (isCan_zero _ _ _ h1).mono hmo
   ·exact below_alloc (below_set (below_set (below_set HB2.out (Nat.le_refl _)) (Nat.le_refl _)) (Nat.le_refl _)) _
  ·have hlz : ld.length ≠ 0 := fun e => hz (by rw [nil_zero e] at hvd; omega)
   have hm0 : ((ld.length : Int) == 0) = false := by simp [hlz]
   have hm0' : (ld.length == 0) = false := by simp [hlz]
   have HD0 := As hz
   have HQ := As (show rawq neg nl dl = rq neg n d by unfold rawq; rw [if_neg (by have := HVD.out; have := HDD.out; omega), HNN.out, HDD.out])
   clear hz hnd hvd hlz
   go_wp2_with fail
   with_reducible refine (natGcd_nat ok' _ _ n d _ HOK2.out HNb0.out HDb0.out hsn.out hsd.out).mono ?_
   rintro e w3 ⟨vg, rfl, hg, hb⟩
   obtain ⟨bc3, bf3⟩ := bcell hb
   have hz3 : w.heap.size < w3.heap.size := by have := hb.size; omega
   have HB3 := As (below_step HB2.out hb)
   have HG := As hg
   have HNb := As (HNb0.out.below hb)
   have HDb := As (HDb0.out.below hb)
   have HOK3 := As (show ∀ k, w3.heap.size ≤ k → ok' k from fun k hk => by rw [HOK'.out]; exact ⟨HOK.out k (by omega), by omega⟩)
   obtain ⟨lg, ⟨Ag, cg, rfl, hcg, hFg⟩, hlg, hvg⟩ := hg
   have hg0 : 0 < Nat.gcd n d := Nat.gcd_pos_of_pos_left _ (by have := HN0.out; omega)
   have hlgp : 0 < lg.length := by
    rcases Nat.eq_zero_or_pos lg.length with h | h
    ·rw [nil_zero h] at hvg; omega
    ·exact h
   obtain ⟨adg, rfl, hcell⟩ := F_at hFg 0 hlgp
   have had : adg.add 0 = adg := rfl
   rw [had] at hcell
   have hcase := gcd_case hlgp hlg hvg
   have HGP := As (show Nat.gcd n d ≠ 0 by omega)
   clear had hFg hlg hvg hg0 hb
   rcases hcase with ⟨ht, hg⟩ | ⟨⟨ht, ht'⟩, hg⟩ | ⟨⟨ht, ht'⟩, hg⟩
   iterate 2
    ·clear hg
     go_wp2_with fail
     with_reducible refine (natDiv_nat ok' _ _ n (Nat.gcd n d) _ HOK3.out HNb.out HG.out HGP.out hsn.out).mono ?_
     rintro e w4 ⟨va, vr, rfl, hva, _, hb⟩
     obtain ⟨bc4, bf4⟩ := bcell hb
     have hz4 : w.heap.size < w4.heap.size := by have := hb.size; omega
     have HB4 := As (below_step HB3.out hb)
     have HG4 := As (HG.out.below hb)
     have HDc := As (HDb.out.below hb)
     have HA4 := As hva
     have HOK4 := As (show ∀ k, w4.heap.size ≤ k → ok' k from fun k hk => by rw [HOK'.out]; exact ⟨HOK.out k (by omega), by omega⟩)
     (obtain ⟨la, ⟨Aa, ca, rfl, _, _⟩, _, _⟩ := hva)
     clear hb
     go_wp2_with fail
     with_reducible refine (natDiv_nat ok' _ _ d (Nat.gcd n d) _ HOK4.out HDc.out HG4.out HGP.out hsd.out).mono ?_
     rintro e w5 ⟨vb, vs, rfl, hvb, _, hb⟩
     obtain ⟨bc5, bf5⟩ := bcell hb
     have hz5 : w.heap.size < w5.heap.size := by have := hb.size; omega
     have HB5 := As (below_step HB4.out hb)
     have HA5 := As (HA4.out.below hb)
     have HC5 := As hvb
     (obtain ⟨lb, ⟨Ab, cb, rfl, _, _⟩, _, _⟩ := hvb)
     clear hb
     go_wp2
     refine bodyPost_ret (v := .agg #[.bool neg, .slice Aa la.length ca, .slice Ab lb.length cb]) (by simp [results, Tryz.results28, go_sem, bc5, bf5, bc4, bf4, bc3, bf3, bc2, bf2, bc, bf, hz1, hz2, hz3, hz4, hz5]) rfl ⟨_, rfl, ?_, ?_⟩
     ·have hne : ∀ k, ok' k → k ≠ w.heap.size := fun k hk => by rw [HOK'.out] at hk; exact hk.2
      have hmo : ∀ k, ok' k → ok k := fun k hk => by rw [HOK'.out] at hk; exact hk.1
      rw [HQ.out]
      exact (isCan_rq HN0.out HD0.out (((IsNat.set (IsNat.set (IsNat.set HA5.out hne 0 _) hne 1 _) hne 2 _))) (((IsNat.set (IsNat.set (IsNat.set HC5.out hne 0 _) hne 1 _) hne 2 _)))).mono hmo
     ·exact below_set (below_set (below_set HB5.out (Nat.le_refl _)) (Nat.le_refl _)) (Nat.le_refl _)
   ·have HA5 := As (show IsNat w3 ok' (.slice An ln.length cn) (n / Nat.gcd n d) by rw [hg, Nat.div_one]; exact HNb.out)
    have HC5 := As (show IsNat w3 ok' (.slice Ad ld.length cd) (d / Nat.gcd n d) by rw [hg, Nat.div_one]; exact HDb.out)
    clear hg
    go_wp2
    refine bodyPost_ret (v := .agg #[.bool neg, .slice An ln.length cn, .slice Ad ld.length cd]) (by simp [results, Tryz.results28, go_sem, bc3, bf3, bc2, bf2, bc, bf, hz1, hz2, hz3]) rfl ⟨_, rfl, ?_, ?_⟩
    ·have hne : ∀ k, ok' k → k ≠ w.heap.size := fun k hk => by rw [HOK'.out] at hk; exact hk.2
     have hmo : ∀ k, ok' k → ok k := fun k hk => by rw [HOK'.out] at hk; exact hk.1
     rw [HQ.out]
     exact (isCan_rq HN0.out HD0.out (((IsNat.set (IsNat.set (IsNat.set HA5.out hne 0 _) hne 1 _) hne 2 _))) (((IsNat.set (IsNat.set (IsNat.set HC5.out hne 0 _) hne 1 _) hne 2 _)))).mono hmo
    ·exact below_set (below_set (below_set HB3.out (Nat.le_refl _)) (Nat.le_refl _)) (Nat.le_refl _)
theorem build_rat (ok : Nat → Prop) (neg : Bool) (v1 v2 : Value) (nl dl : List Int) (k : Nat) (w : World) (hok : ∀ k, w.heap.size ≤ k → ok k) (h1 : U w ok v1 nl) (h2 : U w ok v2 dl) (h3 : U32 nl) (h4 : U32 dl) (h5 : nl.length ≤ k) (h6 : dl.length ≤ k) (hk : k ≤ 8000000) :
  Calls Tryz.prog 28 #[.bool neg, v1, v2] w (RetRat ok (rawq neg nl dl) w) := by
 have := pw_le (show k + 1 ≤ 9000000 by omega)
 have := val_u_pw h3 h5
 have := val_u_pw h4 h6
 exact build_val ok neg v1 v2 nl dl w hok h1 h2 h3 h4 (by omega) (by omega) (by omega) (by omega)
theorem build_lim (ok : Nat → Prop) (neg : Bool) (v1 v2 : Value) (l : List Int) (n d : Nat) (w : World) (hok : ∀ k, w.heap.size ≤ k → ok k) (h1 : U w ok v1 l) (hl : Lim l) (hv : val l = (n : Int)) (hlen : l.length ≤ 10000000) (h2 : IsNat w ok v2 d) (hd : d ≠ 0) (hs1 : (n : Int) < pw 9000000) (hs2 : (d : Int) < pw 9000000) :
  Calls Tryz.prog 28 #[.bool neg, v1, v2] w (RetRat ok (rq neg n d) w) := by
 obtain ⟨dl, hu, hn, hvd⟩ := h2
 have h := build_val ok neg v1 v2 l dl w hok h1 hu hl.u32 hn.1.u32 hlen (by have := len_le hn (show val dl < pw 9000000 by omega); omega) (by omega) (by omega)
 rwa [show rawq neg l dl = rq neg n d by unfold rawq; rw [if_neg (by omega), hv, hvd, Int.toNat_natCast, Int.toNat_natCast]] at h
theorem build_nat (ok : Nat → Prop) (neg : Bool) (v1 v2 : Value) (n d : Nat) (w : World) (hok : ∀ k, w.heap.size ≤ k → ok k) (h1 : IsNat w ok v1 n) (h2 : IsNat w ok v2 d) (hd : d ≠ 0) (hs1 : (n : Int) < pw 9000000) (hs2 : (d : Int) < pw 9000000) :
  Calls Tryz.prog 28 #[.bool neg, v1, v2] w (RetRat ok (rq neg n d) w) := by
 obtain ⟨l, hu, hn, hv⟩ := h1
 exact build_lim ok neg v1 v2 l n d w hok hu hn.1 hv (by have := len_le hn (show val l < pw 9000000 by omega); omega) h2 hd hs1 hs2
/-
  The contracts of Canonical and Neg (the reference of layer 1).
-/
theorem rawq_not (neg : Bool) (nl dl : List Int) : rawq (!neg) nl dl = - rawq neg nl dl := by
 unfold rawq
 split
 ·rfl
 ·unfold rq
  rw [Rat.neg_mkRat]
  congr 1
  unfold sgn
  cases neg <;> simp
set_option maxHeartbeats 2000000 in
theorem canonical_ref (ok : Nat → Prop) (v : Value) (q : Rat) (k : Nat) (w : World) (hok : ∀ k, w.heap.size ≤ k → ok k) (h : IsRaw w ok v q k) (hk : k ≤ 8000000) :
  Calls Tryz.prog 50 #[v] w (RetRat ok q w) := by
 obtain ⟨neg, v1, v2, nl, dl, rfl, h1, h2, h3, h4, h5, h6, rfl⟩ := h
 obtain ⟨W2, hW2⟩ : ∃ W2, (w.alloc (.cells #[.bool neg, v1, v2] 46)).alloc (.cells #[.bool false, .slice none 0 0, .slice none 0 0] 46) = W2 := ⟨_, rfl⟩
 have hb2 : Below w.heap.size w W2 := by rw [← hW2]; exact below_alloc (below_alloc (Below.refl _ _) _) _
 have hsz : W2.heap.size = w.heap.size + 2 := by rw [← hW2, size_alloc, size_alloc]
 obtain ⟨ok', hok'⟩ : ∃ ok' : Nat → Prop, ok' = fun k => ok k ∧ k ≠ w.heap.size + 1 := ⟨_, rfl⟩
 have HOK' := As hok'
 have HN := As ((h1.old hb2).mono (ok' := ok') (fun k hk => by rw [hok']; exact ⟨hk.1, by have := hk.2; omega⟩))
 have HD := As ((h2.old hb2).mono (ok' := ok') (fun k hk => by rw [hok']; exact ⟨hk.1, by have := hk.2; omega⟩))
 have HOK2 := As (show ∀ k, W2.heap.size ≤ k → ok' k from fun k hk => by rw [hok']; exact ⟨hok k (by omega), by omega⟩)
 have HB2 := As hb2
 have HSZ := As hsz
 have hu4 := As h4
 have hu3 := As h3
 have HL5 := As h5
 have HL6 := As h6
 have HK := As hk
 have HW2 := As hW2
 obtain ⟨A1, c1, rfl, _, _⟩ := h1
 obtain ⟨A2, c2, rfl, _, _⟩ := h2
 clear h3 h4 h5 h6 hok hok' hb2 hsz hW2 hk
 go_enter Tryz.func50, Tryz.ntmps50
 go_wp2_with fail
 rw [HW2.out]
 with_reducible refine (build_rat ok' (neg) _ _ nl dl k _ HOK2.out HN.out HD.out hu3.out hu4.out HL5.out HL6.out HK.out).mono ?_
 rintro e w3 ⟨vr, rfl, hr, hb⟩
 obtain ⟨bc, bf⟩ := bcell hb
 rw [HSZ.out, ← HW2.out] at bc bf
 have hz3 : w.heap.size + 1 < w3.heap.size := by have := hb.size; have := HSZ.out; omega
 have hz3' : w.heap.size < w3.heap.size := by omega
 have HB3 := As (below_weaken HB2.out HB2.out.size hb)
 have HR := As hr
 obtain ⟨Ar, nr, cr, Ar', nr', cr', rfl⟩ := hr.shape
 clear hr hb
 obtain ⟨bs, hbs⟩ : ∃ bs, decide ((rawq (neg) nl dl).num < 0) = bs := ⟨_, rfl⟩
 rw [hbs] at HR ⊢
 go_wp2
 refine bodyPost_ret (v := .agg #[.bool bs, .slice Ar nr cr, .slice Ar' nr' cr']) (by simp [results, Tryz.results50, go_sem, bc, bf, hz3]) rfl ⟨_, rfl, ?_, ?_⟩
 ·have hne : ∀ k, ok' k → k ≠ w.heap.size + 1 := fun k hk => by rw [HOK'.out] at hk; exact hk.2
  have hmo : ∀ k, ok' k → ok k := fun k hk => by rw [HOK'.out] at hk; exact hk.1
  exact (((HR.out.set hne 0 _).set hne 1 _).set hne 2 _).mono hmo
 ·exact below_set (below_set (below_set HB3.out (by omega)) (by omega)) (by omega)
set_option maxHeartbeats 2000000 in
theorem neg_ref (ok : Nat → Prop) (v : Value) (q : Rat) (k : Nat) (w : World) (hok : ∀ k, w.heap.size ≤ k → ok k) (h : IsRaw w ok v q k) (hk : k ≤ 8000000) :
  Calls Tryz.prog 52 #[v] w (RetRat ok (-q) w) := by
 obtain ⟨neg, v1, v2, nl, dl, rfl, h1, h2, h3, h4, h5, h6, rfl⟩ := h
 obtain ⟨W2, hW2⟩ : ∃ W2, (w.alloc (.cells #[.bool neg, v1, v2] 46)).alloc (.cells #[.bool false, .slice none 0 0, .slice none 0 0] 46) = W2 := ⟨_, rfl⟩
 have hb2 : Below w.heap.size w W2 := by rw [← hW2]; exact below_alloc (below_alloc (Below.refl _ _) _) _
 have hsz : W2.heap.size = w.heap.size + 2 := by rw [← hW2, size_alloc, size_alloc]
 obtain ⟨ok', hok'⟩ : ∃ ok' : Nat → Prop, ok' = fun k => ok k ∧ k ≠ w.heap.size + 1 := ⟨_, rfl⟩
 have HOK' := As hok'
 have HN := As ((h1.old hb2).mono (ok' := ok') (fun k hk => by rw [hok']; exact ⟨hk.1, by have := hk.2; omega⟩))
 have HD := As ((h2.old hb2).mono (ok' := ok') (fun k hk => by rw [hok']; exact ⟨hk.1, by have := hk.2; omega⟩))
 have HOK2 := As (show ∀ k, W2.heap.size ≤ k → ok' k from fun k hk => by rw [hok']; exact ⟨hok k (by omega), by omega⟩)
 have HB2 := As hb2
 have HSZ := As hsz
 have hu4 := As h4
 have hu3 := As h3
 have HL5 := As h5
 have HL6 := As h6
 have HK := As hk
 have HW2 := As hW2
 obtain ⟨A1, c1, rfl, _, _⟩ := h1
 obtain ⟨A2, c2, rfl, _, _⟩ := h2
 clear h3 h4 h5 h6 hok hok' hb2 hsz hW2 hk
 go_enter Tryz.func52, Tryz.ntmps52
 go_wp2_with fail
 rw [HW2.out]
 with_reducible refine (build_rat ok' (!neg) _ _ nl dl k _ HOK2.out HN.out HD.out hu3.out hu4.out HL5.out HL6.out HK.out).mono ?_
 rintro e w3 ⟨vr, rfl, hr, hb⟩
 obtain ⟨bc, bf⟩ := bcell hb
 rw [HSZ.out, ← HW2.out] at bc bf
 have hz3 : w.heap.size + 1 < w3.heap.size := by have := hb.size; have := HSZ.out; omega
 have hz3' : w.heap.size < w3.heap.size := by omega
 have HB3 := As (below_weaken HB2.out HB2.out.size hb)
 have HR := As hr
 obtain ⟨Ar, nr, cr, Ar', nr', cr', rfl⟩ := hr.shape
 clear hr hb
 obtain ⟨bs, hbs⟩ : ∃ bs, decide ((rawq (!neg) nl dl).num < 0) = bs := ⟨_, rfl⟩
 rw [hbs] at HR ⊢
 go_wp2
 refine bodyPost_ret (v := .agg #[.bool bs, .slice Ar nr cr, .slice Ar' nr' cr']) (by simp [results, Tryz.results52, go_sem, bc, bf, hz3]) rfl ⟨_, rfl, ?_, ?_⟩
 ·have hne : ∀ k, ok' k → k ≠ w.heap.size + 1 := fun k hk => by rw [HOK'.out] at hk; exact hk.2
  have hmo : ∀ k, ok' k → ok k := fun k hk => by rw [HOK'.out] at hk; exact hk.1
  rw [← rawq_not]
  exact (((HR.out.set hne 0 _).set hne 1 _).set hne 2 _).mono hmo
 ·exact below_set (below_set (below_set HB3.out (by omega)) (by omega)) (by omega)
end Go.Proofs.YtldkcpgnccknpaaGreat
