/-
  The parts NatG, NatH, NatI, NatJ, NatK, NatL: the contracts of the program's functions and the plain laws below them; each part's own remark says which.
-/
import Derived.Test.YtldkcpgnccknpaaGreatMA
import Derived.Test.YtldkcpgnccknpaaGreatMN
import Derived.Deep.DeepCutAuto
import Derived.Deep.CutBlock
import Derived.RegionTactic
import Derived.WalkLawsBesides
set_option linter.unusedVariables false
set_option linter.unusedSimpArgs false
/-
  A window of a row of the call's own: read, written.
-/
namespace Go.Proofs.YtldkcpgnccknpaaGreat
open Go.RowKit Go.Proofs.YtldkcpgnccknpaaGreatW.PrintWords Go.Proofs.YtldkcpgnccknpaaGreatW.PrintMore Num
set_option linter.unusedVariables false
section
variable {w w1 : World} {base g N cap : Nat} {pre W post l : List Int}
theorem own_len (h : Own w base (.slice (some ⟨g, 0, none⟩) N cap) l) : N = l.length := (Kd.R_reads' h).1
theorem nth_win (pre W post : List Int) {i : Nat} (hi : i < W.length) : nth (pre ++ (W ++ post)) (pre.length + i) = nth W i := by
 unfold nth
 rw [List.getD_eq_getElem?_getD, List.getD_eq_getElem?_getD, List.getElem?_append_right (by omega), Nat.add_sub_cancel_left, List.getElem?_append_left hi]
theorem set_win (pre W post : List Int) {i : Nat} (hi : i < W.length) (x : Int) : (pre ++ (W ++ post)).set (pre.length + i) x = pre ++ (W.set i x ++ post) := by
 rw [List.set_append_right _ _ (by omega), Nat.add_sub_cancel_left, List.set_append_left _ _ hi]
theorem own_win (h : Own w base (.slice (some ⟨g, 0, none⟩) N cap) (pre ++ (W ++ post))) {off : Nat} (ho : pre.length = off) {i : Nat} (hi : i < W.length) :
  w.cell? ⟨g, off + i, none⟩ = some (.int .u32 (nth W i)) ∧ w.frozen? ⟨g, off + i, none⟩ = false := by
 subst ho
 have hl := own_len h
 have h1 := Kd.R_celln 0 h ((pre.length + i : Nat) : Int) (by omega) (by rw [hl]; simp; omega)
 simp only [Int.toNat_natCast, rdOf_nth, nth_win pre W post hi] at h1
 exact h1
theorem own_win_put (h : Own w base (.slice (some ⟨g, 0, none⟩) N cap) (pre ++ (W ++ post))) {off : Nat} (ho : pre.length = off) {i : Nat} (hi : i < W.length) (x : Int) :
  Own (w.setCell ⟨g, off + i, none⟩ (.int .u32 x)) base (.slice (some ⟨g, 0, none⟩) N cap) (pre ++ (W.set i x ++ post)) := by
 subst ho
 have := own_put h (pre.length + i) x
 rwa [set_win pre W post hi] at this
theorem grown_put {w0 : World} (h : w0.grownBy w (some g)) (i : Nat) (x : Value) : w0.grownBy (w.setCell ⟨g, i, none⟩ x) (some g) :=
 ⟨h.os, h.tape, h.output, by have := h.size; simpa [World.setCell] using this, fun k hk hne => (Below.heap_setCell w ⟨g, i, none⟩ x k (fun e => hne (by rw [e]))).trans (h.block k hk hne)⟩
theorem grown_drewN {w0 : World} {row : Option Nat} (h : w0.grownBy w row) (n : Nat) : w0.grownBy (w.drewN n) row := ⟨h.os, h.tape, h.output, h.size, h.block⟩
theorem grown_refl (w : World) (row : Option Nat) : w.grownBy w row := ⟨rfl, rfl, rfl, Nat.le_refl _, fun _ _ _ => rfl⟩
end
theorem addr_add (b o i : Nat) : (⟨b, o, none⟩ : Addr).add i = ⟨b, o + i, none⟩ := by unfold Addr.add; split <;> simp_all
/-- The cells of a row that is read, its address laid open. -/
theorem F_spot {w : World} {ok : Nat → Prop} {A : Option Addr} {l : List Int} (h : Kd.F (Kd.int .u32) w ok A l.length l) (hp : 0 < l.length) :
  ∃ b o, A = some ⟨b, o, none⟩ ∧ ∀ W' : World, (∀ k, ok k → k < w.heap.size → W'.heap[k]? = w.heap[k]?) → ∀ i, i < l.length → W'.cell? ⟨b, o + i, none⟩ = some (.int .u32 (nth l i)) := by
 obtain ⟨ad, rfl, hc⟩ := F_at h 0 hp
 have hsp := World.cell?_spot hc
 simp [Addr.add] at hsp
 obtain ⟨b, o, sp⟩ := ad
 simp at hsp
 subst hsp
 refine ⟨b, o, rfl, fun W' hW i hi => ?_⟩
 have hF' : Kd.F (Kd.int .u32) W' ok (some ⟨b, o, none⟩) l.length l := Kd.F_step h hW
 obtain ⟨ad', e, hc'⟩ := F_at hF' i hi
 injection e with e
 rw [← e, addr_add] at hc'
 exact hc'
/-
  The contract of step (package rational): one digit of a quotient.
-/
structure StepEnd (base g N cap : Nat) (pre W post y : List Int) (w0 w' : World) (W' : List Int) : Prop where
 own : Own w' base (.slice (some ⟨g, 0, none⟩) N cap) (pre ++ (W' ++ post))
 len : W'.length = W.length
 lim : Lim W'
 val : val W' = val W % val y
 grown : w0.grownBy w' (some g)
def RetStep (base g N cap : Nat) (pre W post y : List Int) (w0 : World) (e : Ending) (w' : World) : Prop := e = .returned (.int .u32 (Q y W)) ∧ ∃ W', StepEnd base g N cap pre W post y w0 w' W'
theorem ret_q {a q : Int} (h : q = a) : Ending.returned (.int .u32 a) = .returned (.int .u32 q) := by rw [h]
set_option maxRecDepth 100000 in
set_option maxHeartbeats 2000000 in
theorem step_nat {base g N cap cap2 off m : Nat} (v1 : Value) (pre W post y : List Int) (w : World) (ho : pre.length = off) (hO : Own w base (.slice (some ⟨g, 0, none⟩) N cap) (pre ++ (W ++ post))) (h1 : U w (fun k => k ≠ g) v1 y) (hs : Step y W m)
  (hcap : m + 3 ≤ cap2) (hoff : off ≤ 100000000) (hm : m ≤ 100000000) :
  Calls Tryz.prog 129 #[.slice (some ⟨g, off, none⟩) (m + 3) cap2, v1] w (RetStep base g N cap pre W post y w) := by
 obtain ⟨A', c', rfl, hc', hF'⟩ := h1
 have HF' := As hF'
 have HO := As hO
 have HS := As hs
 have HP := As ho
 rw [hs.ny] at hc' ⊢
 have hu2 := own_win hO ho (i := m + 2) (by rw [hs.nW]; omega)
 have hu1 := own_win hO ho (i := m + 1) (by rw [hs.nW]; omega)
 obtain ⟨vb, vo, rfl, hvc⟩ := F_spot hF' (by rw [hs.ny]; omega)
 have hv1 := hvc w (fun _ _ _ => rfl) (m + 1) (by rw [hs.ny]; omega)
 have HV := As hvc
 clear hvc
 have hx2 := hs.lW.nth (m + 2)
 have hx1 := hs.lW.nth (m + 1)
 have hy1 := hs.ly.nth (m + 1)
 have htop := hs.top
 have hle := hs.u2
 clear hF' hO hs ho
 go_enter Tryz.func129, Tryz.ntmps129
 go_wp2
 have e1 : IntKind.i64.wrap ((m : Int) + 2 - 1) = (m : Int) + 1 := by rw [IntWalk.i64_in _ (by omega)]; omega
 have e2 : ((m : Int) + 2).toNat = m + 2 := by omega
 have e3 : ((m : Int) + 1).toNat = m + 1 := by omega
 have e4 : (0 : Int) ≤ (m : Int) + 2 := by omega
 have e5 : (0 : Int) ≤ (m : Int) + 1 := by omega
 have e6 : (m : Int) + 2 < (m : Int) + 3 := by omega
 have e7 : (m : Int) + 1 < (m : Int) + 3 := by omega
 have e8 : (m : Int) + 1 < (m : Int) + 2 := by omega
 have e9 : IntKind.u64.wrap (nth W (m + 2)) = nth W (m + 2) := u64_in (by omega) (by omega)
 have e10 : IntKind.u64.wrap (nth W (m + 2) * 1000000000) = nth W (m + 2) * 1000000000 := u64_in (by omega) (by omega)
 have e11 : IntKind.u64.wrap (nth W (m + 1)) = nth W (m + 1) := u64_in (by omega) (by omega)
 have e12 : IntKind.u64.wrap (nth W (m + 2) * 1000000000 + nth W (m + 1)) = nth W (m + 2) * 1000000000 + nth W (m + 1) := u64_in (by omega) (by omega)
 obtain ⟨G0, hG0⟩ : ∃ G0, head W m / nth y (m + 1) = G0 := ⟨_, rfl⟩
 obtain ⟨R0, hR0⟩ : ∃ R0, head W m % nth y (m + 1) = R0 := ⟨_, rfl⟩
 have HG := As (show Guess y W m G0 R0 by rw [← hG0, ← hR0]; exact HS.out.first)
 have hr9 : R0 < 1000000000 := by have := Int.emod_lt_of_pos (head W m) (show 0 < nth y (m + 1) by omega); omega
 have e13 : IntKind.u64.wrap (nth y (m + 1)) = nth y (m + 1) := u64_in (by omega) (by omega)
 have e14 : (nth y (m + 1) == 0) = false := by simp; omega
 have e15 : IntKind.u64.wrap (Int.tdiv (nth W (m + 2) * 1000000000 + nth W (m + 1)) (nth y (m + 1))) = G0 := by
  rw [Int.tdiv_eq_ediv_of_nonneg (by omega), ← hG0]; exact u64_in (by have := HG.out.g0; rw [← hG0] at this; exact this) (by have := HG.out.g1; rw [← hG0] at this; unfold head at this; omega)
 have e16 : IntKind.u64.wrap (Int.tmod (nth W (m + 2) * 1000000000 + nth W (m + 1)) (nth y (m + 1))) = R0 := by
  rw [Int.tmod_eq_emod_of_nonneg (by omega), ← hR0]; exact u64_in (by have := HG.out.r0; rw [← hR0] at this; exact this) (by have := hr9; rw [← hR0] at this; unfold head at this; omega)
 have HR0 := As hR0
 clear hG0 hR0
 go_quiet (fail)
 go_wp2
 go_quiet (fail)
 go_upto_block 0 with fail
 clear e10 e12 e15 e16 e11 e9
 go_cut [7] (fun s7 wx => ∃ G : Int, s7 = .int .u64 G ∧ 0 ≤ G ∧ G ≤ 1000000000 ∧ Aside0 (Q y W ≤ G ∧ G ≤ Q y W + 1) ∧ Drawn0 w wx)
 case first =>
  go_wp2
  go_loopw [7, 8] (fun vg vr wr => ∃ G R : Int, vg = .int .u64 G ∧ vr = .int .u64 R ∧ 0 ≤ G ∧ G ≤ 1000000001 ∧ 0 ≤ R ∧ R < 1000000000 ∧ Aside0 (Guess y W m G R) ∧ Drawn0 w wr) (fun vg _ _ => (intOf vg).toNat)
  case atStart => exact ⟨G0, _, rfl, rfl, HG.out.g0, HG.out.g1, by have h := HG.out.r0; rw [← HR0.out] at h; exact h, by have h := hr9; rw [← HR0.out] at h; exact h, ⟨by have h := HG.out; rw [← HR0.out] at h; exact h⟩, by repeat (first | exact Drawn0.refl _ | apply Drawn0.step)⟩
  case round =>
   clear HG HR0 hr9
   obtain ⟨G, R, rfl, rfl, hg0, hg1, hr0, hr9, HG, ⟨nd, rfl⟩⟩ := hrel
   have hu0 := own_win HO.out HP.out (i := m) (by rw [HS.out.nW]; omega)
   have hv0 := HV.out w (fun _ _ _ => rfl) m (by rw [HS.out.ny]; omega)
   have hx0 := HS.out.lW.nth m
   have hy0 := HS.out.ly.nth m
   have f1 : IntKind.i64.wrap ((m : Int) + 2 - 2) = (m : Int) := by rw [IntWalk.i64_in _ (by omega)]; omega
   have f2 : (0 : Int) ≤ (m : Int) := by omega
   have f3 : (m : Int) < (m : Int) + 2 := by omega
   have f4 : (m : Int) < (m : Int) + 3 := by omega
   by_cases hbig : 1000000000 ≤ G
   ·have hbg : decide (1000000000 ≤ G) = true := decide_eq_true hbig
    have HG2 := As (Guess.big HS.out HG.out hbig)
    have hG1 : 1 ≤ G := by omega
    by_cases hbr : 1000000000 ≤ R + nth y (m + 1)
    ·have hbb : decide (1000000000 ≤ R + nth y (m + 1)) = true := decide_eq_true hbr
     have HD := As (Guess.brk HS.out HG2.out (by omega) hbr)
     go_wp2
     go_quiet (fail)
     go_wp2
     go_meet
     case rel => exact ⟨G - 1, rfl, by have := HG2.out.g0; omega, by omega, HD, by repeat (first | exact Drawn0.refl _ | apply Drawn0.step)⟩
    ·have hbb : decide (1000000000 ≤ R + nth y (m + 1)) = false := decide_eq_false hbr
     go_wp2
     go_quiet (fail)
     go_wp2
     go_roundw
     case rel => exact ⟨G - 1, R + nth y (m + 1), rfl, rfl, by have := HG2.out.g0; omega, by omega, by omega, by omega, HG2, by repeat (first | exact Drawn0.refl _ | apply Drawn0.step)⟩
     case measure => simp [intOf]; omega
   ·have hbg : decide (1000000000 ≤ G) = false := decide_eq_false hbig
    have hp : 0 ≤ G * nth y m ∧ G * nth y m ≤ 999999998000000001 := prod_bd hg0 (by omega) hy0.1 hy0.2
    have f5 : IntKind.u64.wrap (nth y m) = nth y m := u64_in (by omega) (by omega)
    have f6 : IntKind.u64.wrap (G * nth y m) = G * nth y m := u64_in (by omega) (by omega)
    have f7 : IntKind.u64.wrap (R * 1000000000) = R * 1000000000 := u64_in (by omega) (by omega)
    have f8 : IntKind.u64.wrap (nth W m) = nth W m := u64_in (by omega) (by omega)
    have f9 : IntKind.u64.wrap (R * 1000000000 + nth W m) = R * 1000000000 + nth W m := u64_in (by omega) (by omega)
    by_cases hov : R * 1000000000 + nth W m < G * nth y m
    ·have hbo : decide (R * 1000000000 + nth W m < G * nth y m) = true := decide_eq_true hov
     have HG2 := As (Guess.over HS.out HG.out hov)
     have hG1 : 1 ≤ G := by have := HG2.out.g0; omega
     by_cases hbr : 1000000000 ≤ R + nth y (m + 1)
     ·have hbb : decide (1000000000 ≤ R + nth y (m + 1)) = true := decide_eq_true hbr
      have HD := As (Guess.brk HS.out HG2.out (by omega) hbr)
      go_wp2
      go_quiet (fail)
      go_wp2
      go_meet
      case rel => exact ⟨G - 1, rfl, by have := HG2.out.g0; omega, by omega, HD, by repeat (first | exact Drawn0.refl _ | apply Drawn0.step)⟩
     ·have hbb : decide (1000000000 ≤ R + nth y (m + 1)) = false := decide_eq_false hbr
      go_wp2
      go_quiet (fail)
      go_wp2
      go_roundw
      case rel => exact ⟨G - 1, R + nth y (m + 1), rfl, rfl, by have := HG2.out.g0; omega, by omega, by omega, by omega, HG2, by repeat (first | exact Drawn0.refl _ | apply Drawn0.step)⟩
      case measure => simp [intOf]; omega
    ·have hbo : decide (R * 1000000000 + nth W m < G * nth y m) = false := decide_eq_false hov
     have HD := As (Guess.done HS.out HG.out (by omega) (by omega))
     go_wp2
     go_quiet (fail)
     go_wp2
     go_meet
     case rel => exact ⟨G, rfl, hg0, by omega, HD, by repeat (first | exact Drawn0.refl _ | apply Drawn0.step)⟩
 case rest =>
  obtain ⟨G, rfl, hg0, hg1, HQ, ⟨nd, rfl⟩⟩ := hcut
  go_wp2
  go_loopw [9, 10, 84] (fun vb_ vc_ vi wr => ∃ (i : Nat) (Z : List Int) (b c : Int), vi = .int .i64 i ∧ vb_ = .int .u32 b ∧ vc_ = .int .u64 c ∧ i ≤ m + 3 ∧ 0 ≤ b ∧ b ≤ 1 ∧ 0 ≤ c ∧ c < 1000000000 ∧ Aside0 (Own wr base (.slice (some ⟨g, 0, none⟩) N cap) (pre ++ (Z ++ post))) ∧ Aside0 (SubW y W Z G i c b) ∧ Aside0 (w.grownBy wr (some g))) (fun _ _ vi _ => m + 3 - (intOf vi).toNat)
  case atStart => exact ⟨0, W, 0, 0, rfl, rfl, rfl, by omega, by omega, by omega, by omega, by omega, ⟨Kd.R_drewN HO.out _⟩, ⟨SubW.start HS.out.lW G⟩, ⟨grown_drewN (grown_refl w _) _⟩⟩
  case round =>
   clear HO hu2 hu1 hv1
   obtain ⟨i, Z, b, c, rfl, rfl, rfl, hi, hb0, hb1, hc0, hc1, HO, HN, HGr⟩ := hrel
   by_cases hlt : i < m + 3
   ·have hzi : i < Z.length := by rw [HN.out.nZ, HS.out.nW]; omega
    have hz := HN.out.lZ.nth i
    have hzc := own_win HO.out HP.out (i := i) hzi
    have hlt' : (i : Int) < (m : Int) + 3 := by omega
    have hlt'' : decide ((i : Int) < (m : Int) + 2 + 1) = true := decide_eq_true (by omega)
    by_cases hly : i < m + 2
    ·have hvc := HV.out wr (fun k hk hlt => HGr.out.block k hlt (fun e => hk (by injection e))) i (by rw [HS.out.ny]; omega)
     have hy := HS.out.ly.nth i
     have hp : 0 ≤ G * nth y i ∧ G * nth y i ≤ 1000000000 * nth y i := ⟨Int.mul_nonneg hg0 hy.1, mul_le_of hy.1 hg1⟩
     have hly' : decide ((i : Int) < (m : Int) + 2) = true := decide_eq_true (by omega)
     by_cases hbo : nth Z i < (c + G * nth y i) % 1000000000 + b
     ·have hbb : decide (nth Z i < (c + G * nth y i) % 1000000000 + b) = true := decide_eq_true hbo
      go_wp2
      go_roundw
      case rel => exact ⟨i + 1, _, 1, (c + G * nth y i) / 1000000000, by go_num, rfl, rfl, by omega, by omega, by omega, by omega, by omega, ⟨own_win_put HO.out HP.out hzi _⟩, ⟨SubW.next HN.out (p := (c + G * nth y i)) (t := (c + G * nth y i) % 1000000000 + b) (x := nth Z i + 1000000000 - ((c + G * nth y i) % 1000000000 + b)) (by rw [HS.out.nW]; omega) hg0 hg1 HS.out.ly (by rfl) rfl (by omega) (by omega) (by omega) (by omega) (by omega)⟩, ⟨grown_put HGr.out _ _⟩⟩
      case measure => simp [intOf]; omega
     ·have hbb : decide (nth Z i < (c + G * nth y i) % 1000000000 + b) = false := decide_eq_false hbo
      go_wp2
      go_roundw
      case rel => exact ⟨i + 1, _, 0, (c + G * nth y i) / 1000000000, by go_num, rfl, rfl, by omega, by omega, by omega, by omega, by omega, ⟨own_win_put HO.out HP.out hzi _⟩, ⟨SubW.next HN.out (p := (c + G * nth y i)) (t := (c + G * nth y i) % 1000000000 + b) (x := nth Z i - ((c + G * nth y i) % 1000000000 + b)) (by rw [HS.out.nW]; omega) hg0 hg1 HS.out.ly (by rfl) rfl (by omega) (by omega) (by omega) (by omega) (by omega)⟩, ⟨grown_put HGr.out _ _⟩⟩
      case measure => simp [intOf]; omega
    ·have hly' : decide ((i : Int) < (m : Int) + 2) = false := decide_eq_false (by omega)
     have HY0 := As (show nth y i = 0 from nth_of_ge (by rw [HS.out.ny]; omega))
     by_cases hbo : nth Z i < c % 1000000000 + b
     ·have hbb : decide (nth Z i < c % 1000000000 + b) = true := decide_eq_true hbo
      go_wp2
      go_roundw
      case rel => exact ⟨i + 1, _, 1, c / 1000000000, by go_num, rfl, rfl, by omega, by omega, by omega, by omega, by omega, ⟨own_win_put HO.out HP.out hzi _⟩, ⟨SubW.next HN.out (p := c) (t := c % 1000000000 + b) (x := nth Z i + 1000000000 - (c % 1000000000 + b)) (by rw [HS.out.nW]; omega) hg0 hg1 HS.out.ly (by rw [HY0.out]; omega) rfl (by omega) (by omega) (by omega) (by omega) (by omega)⟩, ⟨grown_put HGr.out _ _⟩⟩
      case measure => simp [intOf]; omega
     ·have hbb : decide (nth Z i < c % 1000000000 + b) = false := decide_eq_false hbo
      go_wp2
      go_roundw
      case rel => exact ⟨i + 1, _, 0, c / 1000000000, by go_num, rfl, rfl, by omega, by omega, by omega, by omega, by omega, ⟨own_win_put HO.out HP.out hzi _⟩, ⟨SubW.next HN.out (p := c) (t := c % 1000000000 + b) (x := nth Z i - (c % 1000000000 + b)) (by rw [HS.out.nW]; omega) hg0 hg1 HS.out.ly (by rw [HY0.out]; omega) rfl (by omega) (by omega) (by omega) (by omega) (by omega)⟩, ⟨grown_put HGr.out _ _⟩⟩
      case measure => simp [intOf]; omega
   ·have he : i = m + 3 := by omega
    subst he
    have hlt'' : decide (((m + 3 : Nat) : Int) < (m : Int) + 2 + 1) = false := decide_eq_false (by omega)
    have hb : b = 0 ∨ b = 1 := by omega
    rcases hb with rfl | rfl
    ·have HE := As (SubW.fits HS.out HN.out HQ.out.1)
     go_wp2
     go_ret
     exact ⟨ret_q HE.out.1, Z, ⟨HO.out, HN.out.nZ, HN.out.lZ, HE.out.2, HGr.out⟩⟩
    ·have HE := As (SubW.over HS.out HN.out HQ.out.2)
     have hG1 : 1 ≤ G := by have := HE.out.1; have := HS.out.q.1; omega
     go_wp2
     go_loopw [14, 137] (fun vc_ vi wr => ∃ (i : Nat) (Z' : List Int) (c : Int), vi = .int .i64 i ∧ vc_ = .int .u32 c ∧ i ≤ m + 3 ∧ 0 ≤ c ∧ c ≤ 1 ∧ Aside0 (Own wr base (.slice (some ⟨g, 0, none⟩) N cap) (pre ++ (Z' ++ post))) ∧ Aside0 (BackW y Z Z' i c) ∧ Aside0 (w.grownBy wr (some g))) (fun _ vi _ => m + 3 - (intOf vi).toNat)
     case atStart => exact ⟨0, Z, 0, rfl, rfl, by omega, by omega, by omega, HO, ⟨BackW.start HN.out.lZ⟩, HGr⟩
     case round =>
      clear HO HGr
      obtain ⟨i, Z', cr, rfl, rfl, hi, hk0, hk1, HO, HB, HGr⟩ := hrel
      have hz := HB.out.lZ.nth i
      by_cases hlt : i < m + 3
      ·have hzi : i < Z'.length := by rw [HB.out.nZ, HN.out.nZ, HS.out.nW]; omega
       have hzc := own_win HO.out HP.out (i := i) hzi
       have hlt' : (i : Int) < (m : Int) + 3 := by omega
       have hlt'' : decide ((i : Int) < (m : Int) + 2 + 1) = true := decide_eq_true (by omega)
       have hy := HS.out.ly.nth i
       by_cases hly : i < m + 2
       ·have hvc := HV.out _ (fun k hk hlt => HGr.out.block k hlt (fun e => hk (by injection e))) i (by rw [HS.out.ny]; omega)
        have hly' : decide ((i : Int) < (m : Int) + 2) = true := decide_eq_true (by omega)
        by_cases hbo : 1000000000 ≤ nth Z' i + cr + nth y i
        ·have hbb : decide (1000000000 ≤ nth Z' i + cr + nth y i) = true := decide_eq_true hbo
         go_wp2
         go_roundw
         case rel => exact ⟨i + 1, _, 1, by go_num, rfl, by omega, by omega, by omega, ⟨own_win_put HO.out HP.out hzi _⟩, ⟨BackW.next HB.out (x := nth Z' i + cr + nth y i - 1000000000) (by rw [HN.out.nZ, HS.out.nW]; omega) (by omega) (by omega) (by omega) (by omega) (by omega)⟩, ⟨grown_put HGr.out _ _⟩⟩
         case measure => simp [intOf]; omega
        ·have hbb : decide (1000000000 ≤ nth Z' i + cr + nth y i) = false := decide_eq_false hbo
         go_wp2
         go_roundw
         case rel => exact ⟨i + 1, _, 0, by go_num, rfl, by omega, by omega, by omega, ⟨own_win_put HO.out HP.out hzi _⟩, ⟨BackW.next HB.out (x := nth Z' i + cr + nth y i) (by rw [HN.out.nZ, HS.out.nW]; omega) (by omega) (by omega) (by omega) (by omega) (by omega)⟩, ⟨grown_put HGr.out _ _⟩⟩
         case measure => simp [intOf]; omega
       ·have hly' : decide ((i : Int) < (m : Int) + 2) = false := decide_eq_false (by omega)
        have HY0 := As (show nth y i = 0 from nth_of_ge (by rw [HS.out.ny]; omega))
        by_cases hbo : 1000000000 ≤ nth Z' i + cr
        ·have hbb : decide (1000000000 ≤ nth Z' i + cr) = true := decide_eq_true hbo
         go_wp2
         go_roundw
         case rel => exact ⟨i + 1, _, 1, by go_num, rfl, by omega, by omega, by omega, ⟨own_win_put HO.out HP.out hzi _⟩, ⟨BackW.next HB.out (x := nth Z' i + cr - 1000000000) (by rw [HN.out.nZ, HS.out.nW]; omega) (by rw [HY0.out]; omega) (by omega) (by omega) (by omega) (by omega)⟩, ⟨grown_put HGr.out _ _⟩⟩
         case measure => simp [intOf]; omega
        ·have hbb : decide (1000000000 ≤ nth Z' i + cr) = false := decide_eq_false hbo
         go_wp2
         go_roundw
         case rel => exact ⟨i + 1, _, 0, by go_num, rfl, by omega, by omega, by omega, ⟨own_win_put HO.out HP.out hzi _⟩, ⟨BackW.next HB.out (x := nth Z' i + cr) (by rw [HN.out.nZ, HS.out.nW]; omega) (by rw [HY0.out]; omega) (by omega) (by omega) (by omega) (by omega)⟩, ⟨grown_put HGr.out _ _⟩⟩
         case measure => simp [intOf]; omega
      ·have he : i = m + 3 := by omega
       subst he
       have hlt'' : decide (((m + 3 : Nat) : Int) < (m : Int) + 2 + 1) = false := decide_eq_false (by omega)
       have HD := As (BackW.done HB.out (by rw [HS.out.ny]; omega) (by rw [HN.out.nZ, HS.out.nW]) HE.out.2 (Int.emod_nonneg _ (by have := HS.out.pos; omega)) (by
        have h1 := Int.emod_lt_of_pos (val W) HS.out.pos
        have h2 := (val_bound HS.out.ly).2
        rw [HS.out.ny] at h2
        have h3 := pw_le (show m + 2 ≤ m + 3 by omega)
        omega))
       go_wp2
       go_ret
       exact ⟨ret_q HE.out.1, Z', ⟨HO.out, by rw [HB.out.nZ, HN.out.nZ], HB.out.lZ, HD.out, HGr.out⟩⟩
/-
  The contract of div (package rational).
-/
def RetDiv (ok : Nat → Prop) (a b : Nat) (w0 : World) (e : Ending) (w' : World) : Prop := ∃ q r, e = .returned (.tuple #[q, r]) ∧ IsNat w' ok q (a / b) ∧ IsNat w' ok r (a % b) ∧ Below w0.heap.size w0 w'
theorem IsNat.nil (w : World) (ok : Nat → Prop) : IsNat w ok (.slice none 0 0) 0 := ⟨[], U.nil w ok, Nrm.nil, rfl⟩
theorem U_lit (w : World) (ok : Nat → Prop) (hok : ∀ k, w.heap.size ≤ k → ok k) (x : Int) : U (w.alloc (.cells #[.int .u32 x] 65)) ok (.slice (some ⟨w.heap.size, 0, none⟩) 1 1) [x] := by
 refine ⟨some ⟨w.heap.size, 0, none⟩, 1, rfl, Nat.le_refl _, fun W' hW => ⟨rfl, by simp, fun _ => ⟨_, rfl, fun j p hj => ?_⟩⟩⟩
 have hj0 : j = 0 := by
  rcases Nat.eq_zero_or_pos j with h | h
  ·exact h
  ·rw [List.getElem?_eq_none (by simp; omega)] at hj; cases hj
 subst hj0
 have hp : x = p := by simpa using hj
 subst hp
 refine ⟨[.int .u32 x], rfl, rfl, fun i u hu => ?_⟩
 have hi0 : i = 0 := by
  rcases Nat.eq_zero_or_pos i with h | h
  ·exact h
  ·rw [List.getElem?_eq_none (by simp; omega)] at hu; cases hu
 subst hi0
 have hu' : Value.int .u32 x = u := by simpa using hu
 subst hu'
 have h1 := hW w.heap.size (hok _ (Nat.le_refl _)) (by show w.heap.size < (w.heap.push _).size; simp)
 have h2 : (w.alloc (.cells #[.int .u32 x] 65)).cell? ⟨w.heap.size, 0, none⟩ = some (.int .u32 x) := by simp [go_sem]
 have e : (⟨w.heap.size, 0, none⟩ : Addr).add (0 * (Kd.int .u32).sz + 0) = ⟨w.heap.size, 0, none⟩ := by simp [Addr.add]
 rw [e]
 unfold World.cell? at h2 ⊢
 simp only [h1]
 exact h2
set_option maxRecDepth 100000 in
set_option maxHeartbeats 2000000 in
theorem div_small (ok : Nat → Prop) (v0 v1 : Value) (a b : Nat) (w : World) (h0 : IsNat w ok v0 a) (h1 : IsNat w ok v1 b) (hab : a < b) :
  Calls Tryz.prog 110 #[v0, v1] w (RetDiv ok a b w) := by
 have H0 := As h0
 have H1 := As h1
 have hc : decide (cmpI a b < 0) = true := by rw [cmpI_lt hab]; rfl
 have HAB := As hab
 clear h0 h1 hab
 go_enter Tryz.func110, Tryz.ntmps110
 go_wp2_with (go_at_call 80; ((with_reducible refine (cmp_nat ok _ _ a b _ H0.out H1.out).mono ?_); rintro e w' ⟨rfl, hb⟩; have HB := As hb; clear hb))
 go_ret2
 exact ⟨_, _, rfl, by rw [Nat.div_eq_of_lt HAB.out]; exact IsNat.nil _ _, by rw [Nat.mod_eq_of_lt HAB.out]; exact H0.out.below HB.out, HB.out⟩
set_option maxRecDepth 100000 in
set_option maxHeartbeats 2000000 in
theorem div_one (ok : Nat → Prop) (v0 : Value) (y : List Int) (A : Option Addr) (c a b : Nat) (w : World) (hok : ∀ k, w.heap.size ≤ k → ok k) (h0 : IsNat w ok v0 a) (hc : y.length ≤ c) (hF : Kd.F (Kd.int .u32) w ok A y.length y) (hy : Nrm y) (hv : val y = (b : Int)) (hab : b ≤ a) (hl : y.length = 1) (hs : (a : Int) < pw 10000000) :
  Calls Tryz.prog 110 #[v0, .slice A y.length c] w (RetDiv ok a b w) := by
 have h1 : IsNat w ok (.slice A y.length c) b := ⟨y, ⟨A, c, rfl, hc, hF⟩, hy, hv⟩
 have hyb : nth y 0 = (b : Int) := by
  have h := val_drop (l := y) (i := 0) (by omega)
  rw [List.drop_zero, List.drop_eq_nil_of_le (by omega), val_nil] at h
  omega
 have hb0 : 1 ≤ b := by have := nrm_pos hy (by omega); omega
 have hb1 : b < 1000000000 := by have := (hy.1.nth 0).2; omega
 obtain ⟨ad, rfl, hcell⟩ := F_at hF 0 (by omega)
 have had : ad.add 0 = ad := rfl
 rw [had, hyb] at hcell
 have HC := As hcell
 have H0 := As h0
 obtain ⟨x, hU, hx, hxv⟩ := h0
 have hxl : x.length ≤ 10000000 := len_le hx (by omega)
 have HU := As hU
 have HL := As hx.1
 have HV := As (show (val x).toNat = a by omega)
 have HXL := As hxl
 have H1 := As h1
 have HOK := As hok
 have hc' : decide (cmpI a b < 0) = false := by
  rcases Nat.lt_or_ge b a with h | h
  ·rw [cmpI_gt h]; rfl
  ·rw [cmpI_eq (by omega)]; rfl
 clear hcell had hyb hab hF hv hy hU hx hxv hxl h1 hs hok
 rw [hl] at hc H1 ⊢
 clear hl
 go_enter Tryz.func110, Tryz.ntmps110
 go_wp2_with fail
 with_reducible refine (cmp_nat ok _ _ a b _ H0.out H1.out).mono ?_
 rintro e w1 ⟨rfl, hb⟩
 have HB := As hb
 have hcell := pw_cell_below hb HC.out
 have HU1 := As (HU.out.below hb)
 have HOK1 := As (show ∀ k, w1.heap.size ≤ k → ok k from fun k hk => HOK.out k (by have := hb.size; omega))
 clear hb
 go_wp2_with fail
 with_reducible refine (divSmall_nat ok _ x b _ HOK1.out HU1.out HL.out HXL.out hb0 hb1).mono ?_
 rintro e w2 ⟨q, rfl, hq, hb⟩
 have HQ := As hq
 have HB2 := As (below_step HB.out hb)
 have HOK2 := As (show ∀ k, w2.heap.size ≤ k → ok k from fun k hk => HOK1.out k (by have := hb.size; omega))
 clear hq hb hcell
 rw [HV.out]
 have hr0 : a % b < b := Nat.mod_lt _ (by omega)
 obtain ⟨rm, hrm⟩ : ∃ rm, a % b = rm := ⟨_, rfl⟩
 rw [hrm] at hr0 ⊢
 have HRM := As hrm
 have HL2 := As (Lim.single (x := ((rm : Nat) : Int)) (by omega) (by omega))
 clear hr0 hrm
 go_wp2_with fail
 with_reducible refine (trim_nat ok _ [((rm : Nat) : Int)] _ (U_lit w2 ok HOK2.out _) HL2.out).mono ?_
 rintro e w3 ⟨r, rfl, hr, hb⟩
 have hr' : IsNat w3 ok r rm := by
  have h : (val [((rm : Nat) : Int)]).toNat = rm := by rw [val_single]; omega
  rwa [h] at hr
 have HB3 := As (below_step (below_alloc HB2.out _) hb)
 have HQ3 := As ((HQ.out.below (below_alloc (Below.refl _ _) _)).below hb)
 have HR3 := As hr'
 clear hr hr' hb
 go_wp2
 go_ret2
 have h5 : (val x).toNat / b = a / b := by rw [HV.out]
 exact ⟨_, _, rfl, by rw [← h5]; exact HQ3.out, by rw [HRM.out]; exact HR3.out, HB3.out⟩
/-
  The contract of div (package rational): a divisor of several limbs.
-/
section
variable {w w1 : World} {base g g' N cap : Nat} {l : List Int} {v : Value} {ok : Nat → Prop}
theorem own_other_ (h : Own w base (.slice (some ⟨g, 0, none⟩) N cap) l) (hg : w.grownBy w1 (some g')) (hne : g ≠ g') : Own w1 base (.slice (some ⟨g, 0, none⟩) N cap) l := by
 have h0 : ∀ k, (Value.slice (some ⟨g, 0, none⟩) N cap).ownBlock = some k → k = g := fun k hk => by
  have h1 : g = k := by simpa [Value.ownBlock] using hk
  exact h1.symm
 have h' : Kd.R (Kd.int .u32) 65 w base (fun k => k = g) (.slice (some ⟨g, 0, none⟩) N cap) l := ⟨h0, h.2⟩
 exact Kd.R_mono (Kd.R_step h' (fun k hk hlt => hg.block k hlt (by rw [hk]; simpa using hne))) (fun _ _ => trivial)
/-- An owned row that is not empty: its block, its capacity. -/
theorem own_open (h : Own w base v l) (hp : 0 < l.length) : ∃ g cap, v = .slice (some ⟨g, 0, none⟩) l.length cap ∧ base ≤ g ∧ g < w.heap.size ∧ l.length ≤ cap := by
 obtain ⟨g, cap, e, h1, h2, _⟩ := Kd.R_form h hp
 subst e
 exact ⟨g, cap, rfl, h1, h2, (Kd.R_reads' h).2.1⟩
theorem own_cell (h : Own w base (.slice (some ⟨g, 0, none⟩) N cap) l) {i : Nat} (hi : i < l.length) : w.cell? ⟨g, i, none⟩ = some (.int .u32 (nth l i)) ∧ w.frozen? ⟨g, i, none⟩ = false := by
 have hl := own_len h
 have h1 := Kd.R_celln 0 h ((i : Nat) : Int) (by omega) (by omega)
 simpa only [Int.toNat_natCast, rdOf_nth] using h1
theorem U_take {A : Option Addr} {c : Nat} (h : U w ok (.slice A l.length c) l) {n : Nat} (hn : n ≤ l.length) : U w ok (.slice A n c) (l.take n) := by
 obtain ⟨A', c', e, hc, hF⟩ := h
 injection e with e1 e2 e3
 subst e1 e3
 have hl : (l.take n).length = n := by rw [List.length_take]; omega
 exact ⟨A, c, by rw [hl], by omega, F_take hF hn⟩
end
theorem divSmall_int (ok : Nat → Prop) (v0 : Value) (x : List Int) (s : Int) (w : World) (hok : ∀ k, w.heap.size ≤ k → ok k) (h : U w ok v0 x) (hl : Lim x) (hs : x.length ≤ 10000000) (hd0 : 1 ≤ s) (hd1 : s < 1000000000) :
  Calls Tryz.prog 127 #[v0, .int .u32 s] w (RetDS ok (val x).toNat s.toNat w) := by
 obtain ⟨d, rfl⟩ := Int.eq_ofNat_of_zero_le (show 0 ≤ s by omega)
 exact divSmall_nat ok v0 x d w hok h hl hs (by omega) (by omega)
set_option maxRecDepth 100000 in
set_option maxHeartbeats 4000000 in
theorem div_many (ok : Nat → Prop) (v0 : Value) (y : List Int) (A : Option Addr) (c a b m : Nat) (w : World) (hok : ∀ k, w.heap.size ≤ k → ok k) (h0 : IsNat w ok v0 a) (hc : y.length ≤ c) (hF : Kd.F (Kd.int .u32) w ok A y.length y) (hy : Nrm y) (hv : val y = (b : Int)) (hab : b ≤ a) (hl : y.length = m + 2) (hs : (a : Int) < pw 10000000) :
  Calls Tryz.prog 110 #[v0, .slice A y.length c] w (RetDiv ok a b w) := by
 have h1 : IsNat w ok (.slice A y.length c) b := ⟨y, ⟨A, c, rfl, hc, hF⟩, hy, hv⟩
 have H0 := As h0
 have H1 := As h1
 obtain ⟨x, hU, hx, hxv⟩ := h0
 have hxl : x.length ≤ 10000000 := len_le hx (by omega)
 have hyx : y.length ≤ x.length := len_mono hy hx (by omega)
 obtain ⟨s, hss⟩ : ∃ s : Int, 1000000000 / (nth y (m + 2 - 1) + 1) = s := ⟨_, rfl⟩
 obtain ⟨hs1, hs2, hfit, hb0⟩ := scale_fits hy hl rfl hss.symm
 have htop := fun (v : List Int) (h1 : Lim v) (h2 : v.length = m + 2) (h3 : val v = val y * s) => scale_top hy hl rfl hss.symm h1 h2 h3
 obtain ⟨vb, vo, rfl, hvc⟩ := F_spot hF (by omega)
 have hcell := hvc w (fun _ _ _ => rfl) (m + 1) (by omega)
 have hyt := hy.1.nth (m + 1)
 have hyz : nth y (m + 1) ≠ 0 := by have := hy.2; rw [hl] at this; exact this.resolve_left (by omega)
 have HT := As htop
 have HFIT := As (And.intro hfit hb0)
 have HC := As hcell
 have HY := As (And.intro hF (And.intro hy (And.intro hv hyz)))
 have HX := As (And.intro hx hxv)
 have HU := As hU
 have HLX := As hx.1
 have HLY := As hy.1
 have HOK := As hok
 have hc' : decide (cmpI a b < 0) = false := by
  rcases Nat.lt_or_ge b a with h | h
  ·rw [cmpI_gt h]; rfl
  ·rw [cmpI_eq (by omega)]; rfl
 have hss' : 1000000000 / (nth y (m + 1) + 1) = s := hss
 have HUY := As (show U w ok (.slice (some ⟨vb, vo, none⟩) y.length c) y from ⟨some ⟨vb, vo, none⟩, c, rfl, hc, hF⟩)
 have hly10 : y.length ≤ 10000000 := by omega
 have HLY10 := As hly10
 have HLX10 := As hxl
 have HS0 := As (show (0 : Int) ≤ s by omega)
 have HLEN := As hl
 clear hvc hcell hab hF hv hy hU hx hxv h1 hs hok htop hfit hb0 hss hyz hly10
 rw [hl] at hc H1 HUY ⊢
 rw [hl] at hyx
 go_enter Tryz.func110, Tryz.ntmps110
 clear hl
 go_wp2_with fail
 with_reducible refine (cmp_nat ok _ _ a b _ H0.out H1.out).mono ?_
 rintro e w1 ⟨rfl, hb⟩
 have HB := As hb
 have hcell := pw_cell_below hb HC.out
 have HU1 := As (HU.out.below hb)
 have HUY1 := As (HUY.out.below hb)
 clear hb
 go_wp2_with fail
 with_reducible refine (mulSmall_nat ok _ y s _ HUY1.out HLY.out HLY10.out HS0.out hs2).mono ?_
 rintro e w2 ⟨v2, zv, rfl, ho, hlz, hlen, hvz, hb⟩
 have hzl : zv.length = m + 3 := by have := HLEN.out; omega
 obtain ⟨gv, capv, rfl, hgv1, hgv2, hcv⟩ := own_open ho (by omega)
 have HB2 := As (below_step HB.out hb)
 have HUV := As (U_take (n := m + 2) (ok := fun _ => True) (Own.reads ho (fun _ _ => trivial)) (by omega))
 have HU2 := As (HU1.out.below hb)
 have hvv : val (zv.take (m + 2)) = val y * s := by
  have h1 := val_split zv (i := m + 2) (by omega)
  have h2 := (val_bound (hlz.take (m + 2))).1
  have h3 := (val_bound (hlz.drop (m + 2))).1
  have h4 := HFIT.out.1
  rcases Int.lt_or_le 0 (val (zv.drop (m + 2))) with h5 | h5
  ·have h6 : pw (m + 2) * 1 ≤ pw (m + 2) * val (zv.drop (m + 2)) := Int.mul_le_mul_of_nonneg_left (by omega) (by have := pw_pos (m + 2); omega)
   omega
  ·have : val (zv.drop (m + 2)) = 0 := by omega
   rw [this] at h1
   omega
 obtain ⟨yv, hyv⟩ : ∃ yv, zv.take (m + 2) = yv := ⟨_, rfl⟩
 have hyl : yv.length = m + 2 := by rw [← hyv, List.length_take]; omega
 have hylim : Lim yv := by rw [← hyv]; exact hlz.take _
 rw [hyv] at HUV hvv
 have HYV := As (And.intro hylim (And.intro hyl (And.intro hvv (HT.out yv hylim hyl hvv))))
 rw [hzl] at hcv ⊢
 have hcv2 : m + 2 ≤ capv := by omega
 clear ho hlz hlen hvz hb hzl hgv1 hgv2 hyv hyl hylim hvv hcell hss' hcv
 go_wp2_with fail
 with_reducible refine (mulSmall_nat ok _ x s _ HU2.out HLX.out HLX10.out HS0.out hs2).mono ?_
 rintro e w3 ⟨v3, zu, rfl, ho, hlz, hlen, hvz, hb⟩
 obtain ⟨gu, capu, rfl, hgu1, hgu2, hcu⟩ := own_open ho (by omega)
 have HB3 := As (below_step HB2.out hb)
 have HUV3 := As (((HUV.out.bound).step (fun k hk hlt => hb.block k hlt)).mono (ok' := fun k => k ≠ gu) (fun k hk => by have := hk.2; omega))
 obtain ⟨lq, hlq⟩ : ∃ lq : Nat, x.length = lq + m + 1 := ⟨x.length - (m + 1), by omega⟩
 have hlen' : zu.length = lq + (m + 2) := by omega
 have HOU := As (show Own w3 w2.heap.size (.slice (some ⟨gu, 0, none⟩) (lq + (m + 2)) capu) zu by rw [← hlen']; exact ho)
 have HZU := As (And.intro hlz (And.intro hlen' hvz))
 rw [hlen'] at hcu ⊢
 have hlq1 : 1 ≤ lq := by omega
 have hlqb : lq ≤ 10000000 := by omega
 have hmb : m ≤ 10000000 := by omega
 have hmk0 := As (show 0 ≤ (lq : Int) by omega)
 have hmk1 := As (show (lq : Int).toNat ≤ 70368744177664 by omega)
 have hdiff : (lq : Int) + ((m : Int) + 2) - ((m : Int) + 2) = (lq : Int) := by omega
 have HGU := As (And.intro hgu1 hgu2)
 have HLQ := As hlq
 clear ho hlz hlen hvz hb hlen' hgu1 hgu2 hlq
 go_wp2_with ((with_reducible refine gate_dst (N := 60) rfl ?_); refine Kd.R_make (Kd.int .u32) w3.heap.size 65 rfl (N := 60) rfl 44 _ _ rfl (lq : Int) rfl rfl Tryz.underlying44 (.int .u32 0) 4 info_u32 rfl (by decide) (by omega) 0 (ok := fun _ => True) (okp := fun _ => True) rfl (fun _ hk => hk) trivial hmk0.out (Nat.le_trans (Nat.mul_le_mul_right _ hmk1.out) (by omega)) (Below.refl _ _) (Nat.le_refl _) ?_; intro z0 w4 ho_ hb_ hg_ hnew_; clear hg_ hnew_; rw [Int.toNat_natCast] at ho_; (obtain ⟨gq, capq, rfl, hgq1, hgq2, hcq⟩ := own_open ho_ (by rw [List.length_replicate]; omega)); rw [List.length_replicate] at ho_ hcq ⊢; have HOQ0 := As ho_; have HB34 := As hb_; have HGQ := As (And.intro hgq1 hgq2); clear hb_ ho_ hgq1 hgq2)
 clear hdiff
 go_loopw [63] (fun vk wr => ∃ (k : Nat) (Zu Zq : List Int), vk = .int .i64 k ∧ k ≤ lq ∧ Aside0 (Own wr w2.heap.size (.slice (some ⟨gu, 0, none⟩) (lq + (m + 2)) capu) Zu) ∧ Aside0 (Own wr w3.heap.size (.slice (some ⟨gq, 0, none⟩) lq capq) Zq) ∧ Aside0 (DivRel (val x * s) (val y * s) (m + 2) (x.length + 1) Zu Zq (lq - k)) ∧ Aside0 (Below w.heap.size w wr) ∧ Aside0 (w3.grownBy wr (some gu))) (fun vk _ => lq - (intOf vk).toNat)
 case atStart =>
  refine ⟨0, zu, _, rfl, Nat.zero_le _, ⟨Kd.R_below HOU.out HB34.out⟩, HOQ0, ⟨?_⟩, ⟨below_step HB3.out HB34.out⟩, ⟨grown_of_below HB34.out _⟩⟩
  have h1 := HLQ.out
  have h2 := DivRel.start (u := zu) (v := List.replicate lq 0) (s := s) (n := m + 2) HX.out.1 HY.out.2.1 (by have := HLEN.out; omega) HLEN.out (by omega) hs1 HZU.out.1 (by have := HZU.out.2.1; omega) HZU.out.2.2 (by rw [show x.length + 1 - (m + 2) = lq by omega])
  rw [show x.length + 1 - (m + 2) = lq by omega] at h2
  exact h2
 case round =>
  clear HOQ0 HOU
  obtain ⟨k, Zu, Zq, rfl, hk, HOU, HOQ, HD, HBr, HGr⟩ := hrel
  by_cases hlt : k < lq
  ·obtain ⟨j, hj⟩ : ∃ j : Nat, lq - 1 - k = j := ⟨_, rfl⟩
   have hidx : ((lq : Int) - 1 - (k : Int)) = (j : Int) := by omega
   have hjl : j < lq := by omega
   have hjc : j + (m + 3) ≤ capu := by omega
   have HJ := As hj
   clear hj
   have hV0 : 0 < val y * s := Int.mul_pos HFIT.out.2 (by omega)
   have HV0 := As hV0
   have hd : DivRel (val x * s) (val y * s) (m + 2) (x.length + 1) Zu Zq (j + 1) := by
    have := HD.out
    rwa [show lq - k = j + 1 by have := HJ.out; omega] at this
   have hst : Step yv (win Zu j (m + 2)) m := hd.step HYV.out.1 HYV.out.2.1 HYV.out.2.2.1 rfl HYV.out.2.2.2
   have HST := As hst
   have HD1 := As hd
   have hq := hst.q
   have hpre : (Zu.take j).length = j := by rw [List.length_take]; have := hd.nu; have := HLQ.out; omega
   have HPRE := As hpre
   have HOUs := As (show Own wr w2.heap.size (.slice (some ⟨gu, 0, none⟩) (lq + (m + 2)) capu) (Zu.take j ++ (win Zu j (m + 2) ++ Zu.drop (j + (m + 2 + 1)))) by rw [← win_split]; exact HOU.out)
   have HUVr := As (HUV3.out.step (fun k hk hlt => HGr.out.block k hlt (fun e => hk (by injection e))))
   have hb1 : m + 3 ≤ capu - j := by omega
   have hb2 : j ≤ 100000000 := by omega
   have hb3 : m ≤ 100000000 := by omega
   have hzql : Zq.length = lq := by have := hd.nq; have := HLQ.out; omega
   have HZQL := As hzql
   have HQ0 := As (And.intro hq.1 hq.2.1)
   clear hd hst hq hpre hzql hV0
   go_wp2_with fail
   rw [show j + (m + 2) + 1 - j = m + 3 by omega]
   with_reducible refine (step_nat _ _ _ _ yv wr HPRE.out HOUs.out HUVr.out HST.out hb1 hb2 hb3).mono ?_
   rintro e w5 ⟨rfl, W', hE⟩
   have hoq := own_other_ HOQ.out hE.grown (by have := HGQ.out; have := HGU.out; omega)
   obtain ⟨hqc, hqf⟩ := own_cell hoq (i := j) (by have := HZQL.out; omega)
   have HOQ5 := As hoq
   have HE := As hE
   have hq0 := HQ0.out.1
   have hq1 := HQ0.out.2
   clear hoq hE
   go_wp2
   go_roundw
   case rel =>
    refine ⟨k + 1, Zu.take j ++ (W' ++ Zu.drop (j + (m + 2 + 1))), _, by go_num, by omega, ⟨?_⟩, ⟨own_put HOQ5.out j _⟩, ⟨?_⟩, ⟨?_⟩, ⟨?_⟩⟩
    ·have h1 : Own w5 w2.heap.size (.slice (some ⟨gu, 0, none⟩) (lq + (m + 2)) capu) (Zu.take j ++ (W' ++ Zu.drop (j + (m + 2 + 1)))) := HE.out.own
     have hne : gu ≠ gq := by have := HGQ.out; have := HGU.out; omega
     exact own_other_ h1 (grown_put (grown_refl _ _) j _) hne
    ·rw [show lq - (k + 1) = j by have := HJ.out; omega]
     have h2 := HYV.out.2.2.1
     have hV : val y * s ≤ pw (m + 2) := by have := HFIT.out.1; omega
     have h3 := HD1.out.next hV HV0.out (W' := W') HE.out.lim HE.out.len (by rw [← h2]; exact HE.out.val) (by rw [← h2]; exact hq0) (by rw [← h2]; exact hq1)
     rw [← h2] at h3 ⊢
     exact h3
    ·refine below_set (g := gq) ?_ (by have := HGQ.out.1; have := HB3.out.size; omega)
     exact pw_below_grown HBr.out (some gu) HBr.out.size HE.out.grown (fun k hk => by injection hk with hk; have := HGU.out.1; have := HB2.out.size; omega)
    ·have h4 := HGr.out
     have h5 := HE.out.grown
     refine ⟨h5.os.trans h4.os, h5.tape.trans h4.tape, h5.output.trans h4.output, ?_, fun k hk hne => ?_⟩
     ·have := h4.size; have := h5.size; simp [World.setCell]; omega
     ·have h6 := HGQ.out.1
      exact ((Below.heap_setCell w5 ⟨gq, j, none⟩ _ k (by simp; omega)).trans (h5.block k (by have := h4.size; omega) hne)).trans (h4.block k hk hne)
   case measure => simp [intOf]; omega
  ·have hkl : k = lq := by omega
   subst hkl
   have hV0 : 0 < val y * s := Int.mul_pos HFIT.out.2 (by omega)
   have hV : val y * s ≤ pw (m + 2) := by have := HFIT.out.1; omega
   have hd : DivRel (val x * s) (val y * s) (m + 2) (x.length + 1) Zu Zq 0 := by
    have := HD.out
    rwa [Nat.sub_self] at this
   have hdone := hd.done hV0 hV (by omega)
   have hul : Zu.length = k + (m + 2) := by have := hd.nu; have := HLQ.out; omega
   have hur : U wr ok (.slice (some ⟨gu, 0, none⟩) Zu.length capu) Zu := by
    have := Own.reads (ok := ok) HOU.out (fun k hk => HOK.out k (by have := HB2.out.size; omega))
    rwa [← hul] at this
   have HUT := As (U_take hur (n := m + 2) (by omega))
   have HLT := As (hd.lu.take (m + 2))
   have HDN := As hdone
   have HLQ2 := As hd.lq
   have HPOS := As hV0
   clear hV0 hV hd hdone hul hur
   go_wp2_with fail
   with_reducible refine (trim_nat ok _ (Zu.take (m + 2)) _ HUT.out HLT.out).mono ?_
   rintro e w5 ⟨t5, rfl, hn, hb⟩
   have HB5 := As (below_step HBr.out hb)
   have HOQ5 := As (Kd.R_below HOQ.out hb)
   obtain ⟨l5, hu5, hl5, hv5⟩ := hn
   have hlen5 : l5.length ≤ 10000000 := Nat.le_trans (len_le (K := m + 2) hl5 (by
    rw [hv5, Int.toNat_of_nonneg (val_bound HLT.out).1, HDN.out.2.2, HDN.out.2.1]
    have h1 := Int.emod_lt_of_pos (val x * s) HPOS.out
    have h2 := HFIT.out.1
    omega)) (by omega)
   have HU5 := As hu5
   have HL5 := As hl5.1
   have HLEN5 := As hlen5
   have HV5 := As hv5
   have HOK5 := As (show ∀ k, w5.heap.size ≤ k → ok k from fun k hk => HOK.out k (by have := HB5.out.size; omega))
   clear hb hu5 hl5 hv5 hlen5
   go_wp2_with fail
   with_reducible refine (divSmall_int ok _ l5 s _ HOK5.out HU5.out HL5.out HLEN5.out hs1 hs2).mono ?_
   rintro e w6 ⟨r6, rfl, hr6, hb⟩
   have HB6 := As (below_step HB5.out hb)
   have HOQ6 := As (Kd.R_below HOQ5.out hb)
   have HR6 := As hr6
   have HUQ := As (Own.reads (ok := ok) HOQ6.out (fun k hk => HOK.out k (by have := HB3.out.size; omega)))
   clear hb hr6
   go_wp2_with fail
   with_reducible refine (trim_nat ok _ Zq _ HUQ.out HLQ2.out).mono ?_
   rintro e w7 ⟨q7, rfl, hq7, hb⟩
   have HB7 := As (below_step HB6.out hb)
   have HR7 := As (HR6.out.below hb)
   have HQ7 := As hq7
   clear hb hq7
   go_wp2
   go_ret2
   have ha : val x = (a : Int) := HX.out.2
   have hbv : val y = (b : Int) := HY.out.2.2.1
   have hb0 : 0 < (b : Int) := by have := HFIT.out.2; omega
   refine ⟨_, _, rfl, ?_, ?_, HB7.out⟩
   ·have h1 : val Zq = ((a / b : Nat) : Int) := by
     rw [HDN.out.1, ha, hbv, Int.mul_ediv_mul_of_pos_left _ _ (by omega)]
     exact (Int.natCast_ediv _ _).symm
    rw [show a / b = (val Zq).toNat by rw [h1, Int.toNat_natCast]]
    exact HQ7.out
   ·have h2 : val l5 = ((a % b : Nat) : Int) * s := by
     rw [HV5.out, Int.toNat_of_nonneg (val_bound HLT.out).1, HDN.out.2.2, HDN.out.2.1, ha, hbv, Int.mul_comm (a : Int), Int.mul_comm (b : Int), Int.mul_emod_mul_of_pos _ _ (by omega), Int.mul_comm s]
     rw [Int.natCast_emod]
    have h3 : (val l5).toNat / s.toNat = a % b := by
     have h4 : (((val l5).toNat / s.toNat : Nat) : Int) = ((a % b : Nat) : Int) := by
      rw [Int.natCast_ediv, Int.toNat_of_nonneg (by rw [h2]; exact Int.mul_nonneg (by omega) (by omega)), Int.toNat_of_nonneg (by omega), h2, Int.mul_ediv_cancel _ (by omega)]
     omega
    rw [← h3]
    exact HR7.out
/-
  The contracts of div (whole), gcd (package rational) and of slices.Clone at []uint32.
-/
theorem div_nat (ok : Nat → Prop) (v0 v1 : Value) (a b : Nat) (w : World) (hok : ∀ k, w.heap.size ≤ k → ok k) (h0 : IsNat w ok v0 a) (h1 : IsNat w ok v1 b) (hb : b ≠ 0) (hs : (a : Int) < pw 10000000) :
  Calls Tryz.prog 110 #[v0, v1] w (RetDiv ok a b w) := by
 rcases Nat.lt_or_ge a b with h | h
 ·exact div_small ok v0 v1 a b w h0 h1 h
 ·obtain ⟨y, ⟨A, c, rfl, hc, hF⟩, hy, hv⟩ := h1
  have hl : y.length ≠ 0 := fun e => hb (by rw [nil_zero e] at hv; omega)
  by_cases h1 : y.length = 1
  ·exact div_one ok v0 y A c a b w hok h0 hc hF hy hv h h1 hs
  ·exact div_many ok v0 y A c a b (y.length - 2) w hok h0 hc hF hy hv h (by omega) hs
set_option maxHeartbeats 1000000 in
theorem gcd_nat (ok : Nat → Prop) (v0 v1 : Value) (a b : Nat) (w : World) (hok : ∀ k, w.heap.size ≤ k → ok k) (h0 : IsNat w ok v0 a) (h1 : IsNat w ok v1 b) (hs : (a : Int) < pw 10000000) (hs' : (b : Int) < pw 10000000) :
  Calls Tryz.prog 109 #[v0, v1] w (RetNat ok (Nat.gcd a b) w) := by
 have H0 := As h0
 have H1 := As h1
 have HOK := As hok
 have HS := As (And.intro hs hs')
 clear h0 h1 hok hs hs'
 go_enter Tryz.func109, Tryz.ntmps109
 go_wp2
 go_loopg [0, 1] b (fun kq x y wr => ∃ a' : Nat, Aside0 (IsNat wr ok x a') ∧ Aside0 (IsNat wr ok y kq) ∧ Aside0 (Nat.gcd a' kq = Nat.gcd a b) ∧ Aside0 ((a' : Int) < pw 10000000 ∧ (kq : Int) < pw 10000000) ∧ Aside0 (Below w.heap.size w wr))
 case atStart => exact ⟨a, H0, H1, ⟨rfl⟩, HS, ⟨Below.refl _ _⟩⟩
 case round =>
  obtain ⟨a', HX, HY, HG, HS2, HB⟩ := hrel
  have hy := HY.out
  obtain ⟨l, ⟨A, c, rfl, hc, hF⟩, hl, hv⟩ := hy
  by_cases hz : l.length = 0
  ·have hk : gk = 0 := by rw [nil_zero hz] at hv; omega
   subst hk
   have HZ := As hz
   have hzb : decide (0 < l.length) = false := decide_eq_false (by omega)
   clear hF hl hv hz
   go_wp2
   go_ret
   exact ⟨_, rfl, by rw [← HG.out, Nat.gcd_zero_right]; exact HX.out, HB.out⟩
  ·have hk : gk ≠ 0 := by
    intro e
    subst e
    exact hz (nrm_zero hl hv)
   have hzb : decide (0 < l.length) = true := decide_eq_true (by omega)
   have HOK2 := As (show ∀ k, wr.heap.size ≤ k → ok k from fun k hk => HOK.out k (by have := HB.out.size; omega))
   have HK := As hk
   have hs1 := As HS2.out.1
   clear hF hl hv hz hk
   go_wp2_with (go_at_call 110; ((with_reducible refine (div_nat ok _ _ a' gk _ HOK2.out HX.out HY.out HK.out hs1.out).mono ?_); rintro e w' ⟨q, r, rfl, hq, hr, hb⟩; have HR := As hr; have HY2 := As (HY.out.below hb); have HB2 := As (below_step HB.out hb); clear hq hr hb))
   have hlt : a' % gk < gk := Nat.mod_lt _ (by have := HK.out; omega)
   have HLT := As hlt
   clear hlt
   go_roundg (a' % gk)
   case measure => exact HLT.out
   case rel => exact ⟨gk, HY2, HR, ⟨by rw [← HG.out, Nat.gcd_comm a' gk, Nat.gcd_rec gk a', Nat.gcd_comm]⟩, ⟨HS2.out.2, by have := HLT.out; have := HS2.out.2; omega⟩, HB2⟩
/-
  The contract of slices.Clone at []uint32.
-/
def RetU (ok : Nat → Prop) (l : List Int) (w0 : World) (e : Ending) (w' : World) : Prop := ∃ v, e = .returned v ∧ U w' ok v l ∧ Below w0.heap.size w0 w'
theorem own_empty (w : World) : Own (w.alloc (.cells #[] 65)) w.heap.size (.slice (some ⟨w.heap.size, 0, none⟩) 0 0) [] := by
 refine ⟨fun _ _ => trivial, [], ⟨rfl, .inr ⟨w.heap.size, 0, #[], rfl, Nat.le_refl _, ?_, Nat.le_refl _, Nat.zero_le _, rfl, rfl⟩⟩, ⟨rfl, fun j p hj => by simp at hj⟩⟩
 show (w.heap.push _)[w.heap.size]? = _
 simp
set_option maxHeartbeats 1000000 in
theorem clone_u32 (ok : Nat → Prop) (v0 : Value) (l : List Int) (w : World) (hok : ∀ k, w.heap.size ≤ k → ok k) (h0 : U w ok v0 l) (hs : l.length ≤ 10000000) :
  Calls Tryz.prog 111 #[v0] w (RetU ok l w) := by
 obtain ⟨A, c, rfl, hc, hF⟩ := h0
 have HF := As hF
 clear hF
 cases A with
 | none =>
  have hl : l.length = 0 := by
   rcases Nat.eq_zero_or_pos l.length with h | h
   ·exact h
   ·obtain ⟨ad, e, _⟩ := F_at HF.out 0 h
    cases e
  have HL := As (List.eq_nil_of_length_eq_zero hl)
  clear hl
  have hnil := fun w => Lib.run_eql_slice_nil (P := Tryz.prog) w 44 65 none l.length c 0 0 Tryz.underlying44
  go_enter Tryz.func111, Tryz.ntmps111
  go_wp2
  go_ret
  exact ⟨_, rfl, by rw [HL.out]; exact U.nil _ _, Below.refl _ _⟩
 | some ad =>
  have hnil := fun w => Lib.run_eql_slice_nil (P := Tryz.prog) w 44 65 (some ad) l.length c 0 0 Tryz.underlying44
  have HO := As (own_empty w)
  have HC := As (Kd.C_below (Kd.F_now HF.out) (below_alloc (Below.refl _ _) (.cells #[] 65)))
  have HB := As (below_alloc (Below.refl w.heap.size w) (.cells #[] 65))
  go_enter Tryz.func111, Tryz.ntmps111
  go_wp2_with ((with_reducible refine gate_builtin (b := .append) (xs := #[.tmp 5, .tmp 6]) rfl ?_); refine Kd.R_append_rows (Kd.int .u32) (w0 := w) w.heap.size rfl (.tmp 5) (.tmp 6) 44 65 (.int .u32 0) 4 rfl Tryz.underlying44 info_u32 rfl (by decide) (by omega) _ [] l (some ad) l.length c (fun _ => True) (fun _ => False) rfl rfl HO.out HC.out (fun x cs h => h) (fun _ hk => hk.elim) (fun _ _ => trivial) HB.out HB.out.size (by simp; omega) ?_; intro v1 w1 ho_ hb_ hg_ hat_; have HO1 := As ho_; have HB1 := As hb_; clear ho_ hb_ hg_ hat_)
  go_ret
  exact ⟨_, rfl, Own.reads HO1.out hok, HB1.out⟩
end Go.Proofs.YtldkcpgnccknpaaGreat
