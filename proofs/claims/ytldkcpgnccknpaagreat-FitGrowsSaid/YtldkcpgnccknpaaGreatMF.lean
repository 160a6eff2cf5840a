/-
  The parts BinA, BinB, BinC, BinD: the contracts of the program's functions and the plain laws below them; each part's own remark says which.
-/
import Derived.Test.YtldkcpgnccknpaaGreatME
import Derived.Deep.RegionWith
import Derived.Test.YtldkcpgnccknpaaGreatWN
set_option linter.unusedVariables false
set_option linter.unusedSimpArgs false
/-
  The contract of choose (package binomial).
-/
namespace Go.Proofs.YtldkcpgnccknpaaGreat
open Go.RowKit Go.Proofs.YtldkcpgnccknpaaGreatW.PrintWords Go.Proofs.YtldkcpgnccknpaaGreatW.PrintMore Go.Proofs.YtldkcpgnccknpaaGreatW.PrintLast Num
set_option linter.unusedVariables false
/-- n (n - 1) .. (n - k + 1) / k! -/
def ch (n : Int) : Nat → Rat
 | 0 => 1
 | k + 1 => ch n k * ((n : Rat) - ((k : Int) : Rat)) / (((k : Int) + 1 : Int) : Rat)
theorem RS.int (n : Int) (h : n.natAbs < 1000000000000000000000000000) : RS 3 (n : Rat) := by
 have h3 : pw 3 = 1000000000000000000000000000 := rfl
 refine ⟨?_, ?_⟩
 ·rw [Rat.num_intCast]; omega
 ·rw [Rat.den_intCast]; omega
theorem RS.ch (n : Int) (hn : n.natAbs < 1000000000000000000) : ∀ k : Nat, k ≤ 1000 → RS (10 * k + 3) (ch n k)
 | 0, _ => RS.int 1 (by decide)
 | k + 1, hk => by
  have h1 := RS.ch n hn k (by omega)
  have h2 := RS.sub (RS.int n (by omega)) (RS.int (k : Int) (by omega))
  have h3 := RS.int ((k : Int) + 1) (by omega)
  have h4 : (((k : Int) + 1 : Int) : Rat) ≠ 0 := by
   intro e
   have h5 : ((k : Int) + 1 : Int) = 0 := by exact_mod_cast e
   omega
  exact (RS.div (RS.mul h1 h2) h3 h4).mono (by omega)
theorem IsCan.shapeb {w : World} {ok : Nat → Prop} {v : Value} {q : Rat} (h : IsCan w ok v q) : ∃ b A n c A' n' c', v = .agg #[.bool b, .slice A n c, .slice A' n' c'] := by
 obtain ⟨A, n, c, A', n', c', e⟩ := h.shape
 exact ⟨_, A, n, c, A', n', c', e⟩
/-- A variable of the call that holds a canonical number; the result's variable is as it was laid. -/
def ChBox (w0 : World) (ok : Nat → Prop) (g : Nat) (w : World) (q : Rat) : Prop :=
 Below w0.heap.size w0 w ∧ w0.heap.size < g ∧ w.heap[w0.heap.size]? = some (.cells #[.bool false, .slice none 0 0, .slice none 0 0] 46 (0, 0)) ∧
 ∃ b A m c A' m' c', w.heap[g]? = some (.cells #[.bool b, .slice A m c, .slice A' m' c'] 46 (0, 0)) ∧ IsCan w (fun k => ok k ∧ k ≠ w0.heap.size ∧ k ≠ g) (.agg #[.bool b, .slice A m c, .slice A' m' c']) q
section
variable {w0 w w1 : World} {ok : Nat → Prop} {g : Nat} {p q : Rat}
theorem ChBox.below_ (h : ChBox w0 ok g w q) (hb : Below w.heap.size w w1) : ChBox w0 ok g w1 q := by
 obtain ⟨h1, h2, h3, b, A, m, c, A', m', c', h4, h5⟩ := h
 exact ⟨below_step h1 hb, h2, (hb.block _ (heap_lt_ h3)).trans h3, b, A, m, c, A', m', c', (hb.block _ (heap_lt_ h4)).trans h4, h5.below hb⟩
theorem ChBox.put (h : ChBox w0 ok g w p) {b : Bool} {A A' : Option Addr} {m c m' c' : Nat} (hv : IsCan w (fun k => ok k ∧ k ≠ w0.heap.size ∧ k ≠ g) (.agg #[.bool b, .slice A m c, .slice A' m' c']) q) : ChBox w0 ok g (put3 w g (.bool b) (.slice A m c) (.slice A' m' c')) q := by
 obtain ⟨h1, h2, h3, _, _, _, _, _, _, _, h4, h5⟩ := h
 exact ⟨below_put3 h1 (by omega) _ _ _, h2, (heap_put3_far (by omega) _ _ _).trans h3, b, A, m, c, A', m', c', heap_put3 h4, hv.step (fun k hk _ => heap_put3_far hk.2.2 _ _ _)⟩
theorem ChBox.fresh (h : ChBox w0 ok g w q) (hok : ∀ k, w0.heap.size ≤ k → ok k) : ∀ k, w.heap.size ≤ k → ok k ∧ k ≠ w0.heap.size ∧ k ≠ g := fun k hk => by
 obtain ⟨h1, h2, h3, b, A, m, c, A', m', c', h4, h5⟩ := h
 have := h1.size
 have := heap_lt_ h3
 have := heap_lt_ h4
 exact ⟨hok k (by omega), by omega, by omega⟩
end
set_option maxRecDepth 100000 in
set_option maxHeartbeats 4000000 in
theorem choose_rat (ok : Nat → Prop) (n : Int) (k : Nat) (w : World) (hok : ∀ k, w.heap.size ≤ k → ok k) (hn0 : -1000000 ≤ n) (hn1 : n ≤ 1000000) (hk : k ≤ 64) :
  Calls Tryz.prog 49 #[.int .i64 n, .int .i64 (k : Int)] w (RetRat ok (ch n k) w) := by
 obtain ⟨W1, hW1⟩ : ∃ W1, w.alloc (.cells #[.bool false, .slice none 0 0, .slice none 0 0] 46) = W1 := ⟨_, rfl⟩
 have hb1 : Below w.heap.size w W1 := by rw [← hW1]; exact below_alloc (Below.refl _ _) _
 have hsz : W1.heap.size = w.heap.size + 1 := by rw [← hW1, size_alloc]
 obtain ⟨ok', hok'⟩ : ∃ ok' : Nat → Prop, ok' = fun k => ok k ∧ k ≠ w.heap.size := ⟨_, rfl⟩
 have HOK' := As hok'
 have HOK1 := As (show ∀ k, W1.heap.size ≤ k → ok' k from fun k hk => by rw [hok']; exact ⟨hok k (by omega), by omega⟩)
 have HC := As (show W1.heap[w.heap.size]? = some (.cells #[.bool false, .slice none 0 0, .slice none 0 0] 46 (0, 0)) by rw [← hW1, heap_new])
 have HB1 := As hb1
 have HSZ := As hsz
 have HW1 := As hW1
 have HOK := As hok
 have hm1 := As (show (-9223372036854775808 : Int) ≤ 1 by decide)
 have hm2 := As (show (1 : Int) ≤ 9223372036854775807 by decide)
 have HN1 := As (show (-9223372036854775808 : Int) ≤ n by omega)
 have HN2 := As (show n ≤ 9223372036854775807 by omega)
 clear hW1 hb1 hsz hok hok'
 go_enter Tryz.func49, Tryz.ntmps49
 go_wp2_with fail
 rw [HW1.out]
 with_reducible refine (fromInt_rat ok' 1 _ HOK1.out hm1.out hm2.out).mono ?_
 rintro e w1 ⟨v1, rfl, h1, hb⟩
 have HB2 := As (below_weaken HB1.out HB1.out.size hb)
 have HC2 := As ((hb.block _ (heap_lt_ HC.out)).trans HC.out)
 obtain ⟨A0, m0, c0, A0', m0', c0', rfl⟩ := h1.shape
 have hsz1 : w.heap.size < w1.heap.size := heap_lt_ HC2.out
 obtain ⟨b0, hb0⟩ : ∃ b0, decide ((((1 : Int) : Rat)).num < 0) = b0 := ⟨_, rfl⟩
 rw [hb0] at h1 ⊢
 obtain ⟨g, hg⟩ : ∃ g, g = w1.heap.size := ⟨_, rfl⟩
 have HG := As hg
 have HS := As (show ChBox w ok g (w1.alloc (.cells #[.bool b0, .slice A0 m0 c0, .slice A0' m0' c0'] 46)) (ch n 0) from ⟨below_alloc HB2.out _, by omega, (heap_old _ (by omega)).trans HC2.out, b0, A0, m0, c0, A0', m0', c0', by rw [hg]; exact heap_new _ _, by
  have h2 := (h1.old (below_alloc (Below.refl w1.heap.size w1) (.cells #[.bool b0, .slice A0 m0 c0, .slice A0' m0' c0'] 46))).mono (ok' := fun k => ok k ∧ k ≠ w.heap.size ∧ k ≠ g) (fun k hk => by
   have h3 := hk.1
   rw [HOK'.out] at h3
   exact ⟨h3.1, h3.2, by have := hk.2; omega⟩)
  exact h2⟩)
 clear h1 hb hb0 hg
 go_wp2
 rw [← HG.out]
 go_loopw [9] (fun vi wr => ∃ i : Nat, vi = .int .i64 i ∧ i ≤ k ∧ Aside0 (ChBox w ok g wr (ch n i))) (fun vi _ => k - (intOf vi).toNat)
 case atStart => exact ⟨0, rfl, Nat.zero_le _, HS⟩
 case round =>
  clear HS
  obtain ⟨i, rfl, hi, HS⟩ := hrel
  obtain ⟨hbe, hgw, hrc, b, A, m, c, A', m', c', hgc, hcan⟩ := HS.out
  obtain ⟨x0, x1, x2, x3, x4, x5⟩ := cells3 hgc
  obtain ⟨r0, r1, r2, r3, r4, r5⟩ := cells3 hrc
  have hgl := heap_lt_ hgc
  have hrl := heap_lt_ hrc
  have HCAN := As hcan
  have HBE := As hbe
  clear hbe hgc hrc hcan
  by_cases hlt : i < k
  ·have hlb : decide ((i : Int) < (k : Int)) = true := decide_eq_true (by omega)
   have HNI1 := As (show (-9223372036854775808 : Int) ≤ (i : Int) by omega)
   have HNI2 := As (show (i : Int) ≤ 9223372036854775807 by omega)
   have HNJ1 := As (show (-9223372036854775808 : Int) ≤ (i : Int) + 1 by omega)
   have HNJ2 := As (show (i : Int) + 1 ≤ 9223372036854775807 by omega)
   have HR3 := As (RS.int n (by omega))
   have HRI := As (RS.int (i : Int) (by omega))
   have HRJ := As (RS.int ((i : Int) + 1) (by omega))
   have HRC := As (RS.ch n (by omega) i (by omega))
   have HD3 := As (show 3 ≤ 900000 by decide)
   have HD7 := As (show 3 + 3 + 1 ≤ 1000000 by decide)
   have HDC := As (show 10 * i + 3 ≤ 1000000 by omega)
   have HOKF := As (show ∀ wq, ChBox w ok g wq (ch n i) → ∀ k, wq.heap.size ≤ k → (ok k ∧ k ≠ w.heap.size ∧ k ≠ g) from fun wq h => h.fresh HOK.out)
   obtain ⟨okk, hokk⟩ : ∃ okk : Nat → Prop, okk = fun k => ok k ∧ k ≠ w.heap.size ∧ k ≠ g := ⟨_, rfl⟩
   have HOKK := As hokk
   rw [← hokk] at HCAN
   have HOKG := As (show ∀ wq, ChBox w ok g wq (ch n i) → ∀ k, wq.heap.size ≤ k → okk k from fun wq h => by rw [hokk]; exact h.fresh HOK.out)
   clear hokk HOKF
   go_upto_region 5 with fail
   have HSd := As (HS.out.below_ (below_drew1 (Below.refl wr.heap.size wr)))
   have HCANd := As (HCAN.out.below (below_drew1 (Below.refl wr.heap.size wr)))
   go_cut [5] from 12 to 18 (fun s5 wx => s5 = ptr g ∧ Aside0 (ChBox w ok g wx (ch n i * ((n : Rat) - ((i : Int) : Rat)))))
   case first =>
    have HCd := HCANd
    go_region_with (first
     | (go_at_call_of 45 (n); ((with_reducible refine (fromInt_rat okk n _ (HOKG.out _ HSd.out) HN1.out HN2.out).mono ?_); rintro e w2 ⟨v2, rfl, hv, hb⟩; have HA2 := As (hv.raw HR3.out); have HS2 := As (HSd.out.below_ hb); have HC2 := As (HCd.out.below hb); (have k20 := pw_cell_below hb x0); (have k21 := pw_cell_below hb x1); (have k22 := pw_cell_below hb x2); (have hg2 : g < w2.heap.size := Nat.lt_of_lt_of_le hgl hb.size); clear hv hb))
     | (go_at_call 45; ((with_reducible refine (fromInt_rat okk (i : Int) _ (HOKG.out _ HS2.out) HNI1.out HNI2.out).mono ?_); rintro e w3 ⟨v3, rfl, hv, hb⟩; have HA3 := As (HA2.out.below hb); have HI3 := As (hv.raw HRI.out); have HS3 := As (HS2.out.below_ hb); have HC3 := As (HC2.out.below hb); (have k30 := pw_cell_below hb k20); (have k31 := pw_cell_below hb k21); (have k32 := pw_cell_below hb k22); (have hg3 : g < w3.heap.size := Nat.lt_of_lt_of_le hg2 hb.size); clear hv hb))
     | (go_at_call 43; ((with_reducible refine (sub_rat okk _ _ _ _ _ _ _ (HOKG.out _ HS3.out) HA3.out HI3.out HD3.out HD3.out).mono ?_); rintro e w4 ⟨v4, rfl, hv, hb⟩; have HI4 := As (hv.raw (RS.sub HR3.out HRI.out)); have HS4 := As (HS3.out.below_ hb); have HC4 := As (HC3.out.below hb); (have k40 := pw_cell_below hb k30); (have k41 := pw_cell_below hb k31); (have k42 := pw_cell_below hb k32); (have hg4 : g < w4.heap.size := Nat.lt_of_lt_of_le hg3 hb.size); clear hv hb))
     | (go_at_call 48; ((with_reducible refine (mul_rat okk _ _ _ _ _ _ _ (HOKG.out _ HS4.out) (HC4.out.raw HRC.out) HI4.out HDC.out HD7.out).mono ?_); rintro e w5 ⟨v5, rfl, hv, hb⟩; have HM5 := As hv; (obtain ⟨b5, A5, m5, c5, A5', m5', c5', rfl⟩ := hv.shapeb); have HS5 := As (HS4.out.below_ hb); have HC5 := As (HC4.out.below hb); (obtain ⟨_, _, _, _, _, _, _, _, _, _, hq, _⟩ := HS5.out); (obtain ⟨k50, k51, k52, k53, k54, k55⟩ := cells3 hq); clear hq; (have hg5 : g < w5.heap.size := Nat.lt_of_lt_of_le hg4 hb.size); clear hv hb)))
    all_goals
     (have HP := As (HS5.out.put (q := ch n i * ((n : Rat) - ((i : Int) : Rat))) (by rw [← HOKK.out]; exact HM5.out))
      go_wp2
      go_meet
      case rel => exact ⟨rfl, HP⟩)
   case rest =>
    clear HS HSd HCANd HCAN HBE x0 x1 x2 x3 x4 x5 r0 r1 r2 r3 r4 r5 hgl hrl
    obtain ⟨rfl, HS⟩ := hcut
    obtain ⟨hbe, _, hrc, b, A, m, c, A', m', c', hgc, hcan⟩ := HS.out
    obtain ⟨z0, z1, z2, z3, z4, z5⟩ := cells3 hgc
    have hgl2 := heap_lt_ hgc
    rw [← HOKK.out] at hcan
    have HSd := As (HS.out.below_ (below_drew1 (Below.refl wc.heap.size wc)))
    have HCd := As (hcan.below (below_drew1 (Below.refl wc.heap.size wc)))
    have HOKH := As (show ∀ wq, ChBox w ok g wq (ch n i * ((n : Rat) - ((i : Int) : Rat))) → ∀ k, wq.heap.size ≤ k → okk k from fun wq h => by rw [HOKK.out]; exact h.fresh HOK.out)
    have HRM := As (RS.mul HRC.out (RS.sub HR3.out HRI.out))
    have HDM := As (show 10 * i + 3 + (3 + 3 + 1) ≤ 1000000 by omega)
    have HD3x := As (show 3 ≤ 1000000 by decide)
    have HNZ := As (show (((i : Int) + 1 : Int) : Rat) ≠ 0 from fun e => by
     have h5 : ((i : Int) + 1 : Int) = 0 := by exact_mod_cast e
     omega)
    clear hbe hrc hgc hcan
    have hwi : IntKind.i64.wrap ((i : Int) + 1) = (i : Int) + 1 := IntWalk.i64_in _ (by omega)
    go_upto_region 6 with fail
    go_region_with (first
     | (go_at_call 45; ((with_reducible refine (fromInt_rat okk ((i : Int) + 1) _ (HOKH.out _ HSd.out) HNJ1.out HNJ2.out).mono ?_); rintro e w2 ⟨v2, rfl, hv, hb⟩; have HA2 := As (hv.raw HRJ.out); have HS2 := As (HSd.out.below_ hb); have HC2 := As (HCd.out.below hb); (have k20 := pw_cell_below hb z0); (have k21 := pw_cell_below hb z1); (have k22 := pw_cell_below hb z2); (have hg2 : g < w2.heap.size := Nat.lt_of_lt_of_le hgl2 hb.size); clear hv hb))
     | (go_at_call 82; ((with_reducible refine (div_rat okk _ _ _ _ _ _ _ (HOKH.out _ HS2.out) (HC2.out.raw HRM.out) HA2.out HDM.out HD3x.out HNZ.out).mono ?_); rintro e w3 ⟨v3, rfl, hv, hb⟩; have HM3 := As hv; (obtain ⟨b5, A5, m5, c5, A5', m5', c5', rfl⟩ := hv.shapeb); have HS3 := As (HS2.out.below_ hb); have HC3 := As (HC2.out.below hb); (obtain ⟨_, _, _, _, _, _, _, _, _, _, hq, _⟩ := HS3.out); (obtain ⟨k30, k31, k32, k33, k34, k35⟩ := cells3 hq); clear hq; (have hg3 : g < w3.heap.size := Nat.lt_of_lt_of_le hg2 hb.size); clear hv hb)))
    all_goals
     (have HP := As (HS3.out.put (q := ch n (i + 1)) (by rw [← HOKK.out]; exact HM3.out))
      go_wp2
      go_roundw
      case rel => (refine ⟨_, _, _, _, _, _, _, _, _, _, _, _, _, _, _, _, _, _, _, _, ⟨i + 1, ?_, by omega, HP⟩, rfl⟩; go_num)
      case measure => simp [intOf]; omega)
  ·have hlb : decide ((i : Int) < (k : Int)) = false := decide_eq_false (by omega)
   have he : i = k := by omega
   subst he
   go_wp2
   refine bodyPost_ret (v := .agg #[.bool b, .slice A m c, .slice A' m' c']) (by simp [results, Tryz.results49, go_sem, hrl, r0, r1, r2]) rfl ⟨_, rfl, ?_, ?_⟩
   ·have hne : ∀ k, (ok k ∧ k ≠ w.heap.size ∧ k ≠ g) → k ≠ w.heap.size := fun k hk => hk.2.1
    exact (((HCAN.out.set hne 0 _).set hne 1 _).set hne 2 _).mono (fun k hk => hk.1)
   ·exact below_set (below_set (below_set HBE.out (Nat.le_refl _)) (Nat.le_refl _)) (Nat.le_refl _)
/-
  Slices of numbers that are read; the contract of Rat (the bounds of the statements).
-/
/-- A number as it lies: its sign, its limbs above and below. -/
abbrev RawN := Bool × (List Int × List Int)
/-- How a number lies in memory. -/
def kRat : Kd RawN := Kd.pair Kd.bool (Kd.pair (Kd.slice 65 (Kd.int .u32)) (Kd.slice 65 (Kd.int .u32)))
/-- A slice of numbers that reads as xs. -/
def RLs (w : World) (ok : Nat → Prop) (v : Value) (xs : List RawN) : Prop := ∃ A c, v = .slice A xs.length c ∧ xs.length ≤ c ∧ Kd.F kRat w ok A xs.length xs
def rz : RawN := (false, [], [])
theorem rl_at {w : World} {ok : Nat → Prop} {A : Option Addr} {xs : List RawN} (h : Kd.F kRat w ok A xs.length xs) (i : Nat) (hi : i < xs.length) :
  ∃ b o A1 c1 A2 c2, A = some ⟨b, o, none⟩ ∧ w.cell? ⟨b, o + i * 3, none⟩ = some (.bool (xs.getD i rz).1) ∧ w.cell? ⟨b, o + i * 3 + 1, none⟩ = some (.slice A1 (xs.getD i rz).2.1.length c1) ∧ w.cell? ⟨b, o + i * 3 + 2, none⟩ = some (.slice A2 (xs.getD i rz).2.2.length c2) ∧
   U w ok (.slice A1 (xs.getD i rz).2.1.length c1) (xs.getD i rz).2.1 ∧ U w ok (.slice A2 (xs.getD i rz).2.2.length c2) (xs.getD i rz).2.2 ∧ ok b := by
 obtain ⟨ad, c, e, hlen, hK, hc, hin⟩ := Kd.F_get h rz (i : Int) (by omega) (by omega)
 rw [Int.toNat_natCast] at hK hc
 obtain ⟨x, hx⟩ : ∃ x, xs.getD i rz = x := ⟨_, rfl⟩
 rw [hx] at hK ⊢
 obtain ⟨c0, c1, rfl, h0, c2, c3, rfl, ⟨A1, k1, rfl, hl1, hC1⟩, ⟨A2, k2, rfl, hl2, hC2⟩⟩ := hK w (fun _ _ _ => rfl)
 have h0' : c0 = [.bool x.1] := h0
 subst h0'
 have g0 := hc 0 (.bool x.1) rfl
 have g1 := hc 1 (.slice A1 x.2.1.length k1) rfl
 have g2 := hc 2 (.slice A2 x.2.2.length k2) rfl
 obtain ⟨ad0, cc, e0, hlen0, _, hc0, _⟩ := Kd.F_get h rz 0 (by omega) (by omega)
 rw [e] at e0
 injection e0 with e0
 subst e0
 have hsp := World.cell?_spot (hc0 0 _ (List.getElem?_eq_getElem (by rw [hlen0]; decide)))
 simp [Addr.add] at hsp
 obtain ⟨b, o, sp⟩ := ad
 simp at hsp
 subst hsp
 rw [addr_add] at g0 g1 g2
 refine ⟨b, o, A1, k1, A2, k2, e, g0, g1, g2, ⟨A1, k1, rfl, hl1, fun W' hW => ?_⟩, ⟨A2, k2, rfl, hl2, fun W' hW => ?_⟩, hin (by decide)⟩
 ·obtain ⟨d0, d1, e1, h0, d2, d3, rfl, ⟨B1, j1, rfl, hm1, hD1⟩, ⟨B2, j2, rfl, hm2, hD2⟩⟩ := hK W' hW
  have h0' : d0 = [.bool x.1] := h0
  subst h0'
  simp at e1
  rw [e1.1.1]
  exact hD1
 ·obtain ⟨d0, d1, e1, h0, d2, d3, rfl, ⟨B1, j1, rfl, hm1, hD1⟩, ⟨B2, j2, rfl, hm2, hD2⟩⟩ := hK W' hW
  have h0' : d0 = [.bool x.1] := h0
  subst h0'
  simp at e1
  rw [e1.2.1]
  exact hD2
/-
  The contract of Rats (the bounds of the statements).
-/
/-- A number of at most two limbs above and below. -/
theorem RLs.step {w w1 : World} {ok : Nat → Prop} {v : Value} {xs : List RawN} (h : RLs w ok v xs) (hm : ∀ k, ok k → k < w.heap.size → w1.heap[k]? = w.heap[k]?) : RLs w1 ok v xs := by
 obtain ⟨A, c, e, hc, hF⟩ := h
 exact ⟨A, c, e, hc, Kd.F_step hF hm⟩
theorem RLs.below {w w1 : World} {ok : Nat → Prop} {v : Value} {xs : List RawN} (h : RLs w ok v xs) (hb : Below w.heap.size w w1) : RLs w1 ok v xs := h.step (fun k _ hlt => hb.block k hlt)
theorem RLs.mono {w : World} {ok ok' : Nat → Prop} {v : Value} {xs : List RawN} (h : RLs w ok v xs) (hok : ∀ k, ok k → ok' k) : RLs w ok' v xs := by
 obtain ⟨A, c, e, hc, hF⟩ := h
 exact ⟨A, c, e, hc, Kd.F_mono hF hok⟩
theorem RLs.bound {w : World} {ok : Nat → Prop} {v : Value} {xs : List RawN} (h : RLs w ok v xs) : RLs w (fun k => ok k ∧ k < w.heap.size) v xs := by
 obtain ⟨A, c, e, hc, hF⟩ := h
 exact ⟨A, c, e, hc, Kd.F_bound hF⟩
/-
  Slices of numbers by their values.
-/
theorem RS.zero (k : Nat) : RS (k + 1) 0 := ⟨by have := pw_pos (k + 1); simpa using this, by
 have h1 := pw_le (show 1 ≤ k + 1 by omega)
 have h2 : pw 1 = 1000000000 := rfl
 show ((1 : Nat) : Int) < _
 omega⟩
def qv (x : RawN) : Rat := rawq x.1 x.2.1 x.2.2
/-- The limbs fit their type and are at most k on each side. -/
def okN (k : Nat) (x : RawN) : Prop := U32 x.2.1 ∧ U32 x.2.2 ∧ x.2.1.length ≤ k ∧ x.2.2.length ≤ k
/-- A slice of numbers, of at most k limbs on each side, that reads as qs. -/
def RQ (w : World) (ok : Nat → Prop) (v : Value) (qs : List Rat) (k : Nat) : Prop := ∃ xs, RLs w ok v xs ∧ qs = xs.map qv ∧ ∀ x ∈ xs, okN k x
section
variable {w w1 : World} {ok ok' : Nat → Prop} {v : Value} {qs : List Rat} {k : Nat}
theorem RQ.step (h : RQ w ok v qs k) (hm : ∀ k, ok k → k < w.heap.size → w1.heap[k]? = w.heap[k]?) : RQ w1 ok v qs k := by
 obtain ⟨xs, h1, h2, h3⟩ := h
 exact ⟨xs, h1.step hm, h2, h3⟩
theorem RQ.below (h : RQ w ok v qs k) (hb : Below w.heap.size w w1) : RQ w1 ok v qs k := h.step (fun k _ hlt => hb.block k hlt)
theorem RQ.mono (h : RQ w ok v qs k) (hok : ∀ k, ok k → ok' k) : RQ w ok' v qs k := by
 obtain ⟨xs, h1, h2, h3⟩ := h
 exact ⟨xs, h1.mono hok, h2, h3⟩
theorem RQ.bound (h : RQ w ok v qs k) : RQ w (fun k => ok k ∧ k < w.heap.size) v qs k := by
 obtain ⟨xs, h1, h2, h3⟩ := h
 exact ⟨xs, h1.bound, h2, h3⟩
theorem RQ.old (h : RQ w ok v qs k) (hb : Below w.heap.size w w1) : RQ w1 (fun k => ok k ∧ k < w.heap.size) v qs k := h.bound.step (fun k _ hlt => hb.block k hlt)
theorem RQ.shape (h : RQ w ok v qs k) : ∃ A c, v = .slice A qs.length c ∧ qs.length ≤ c ∧ qs.length ≤ 9223372036854775807 := by
 obtain ⟨xs, ⟨A, c, rfl, hc, hF⟩, rfl, h3⟩ := h
 exact ⟨A, c, by rw [List.length_map], by rw [List.length_map]; exact hc, by rw [List.length_map]; exact Kd.F_max hF⟩
/-- The number at place i. -/
theorem RQ.at {A : Option Addr} {c n : Nat} (h : RQ w ok (.slice A n c) qs k) (i : Nat) (hi : i < qs.length) :
  ∃ b o nb A1 m1 c1 A2 m2 c2, A = some ⟨b, o, none⟩ ∧ w.cell? ⟨b, o + i * 3, none⟩ = some (.bool nb) ∧ w.cell? ⟨b, o + i * 3 + 1, none⟩ = some (.slice A1 m1 c1) ∧ w.cell? ⟨b, o + i * 3 + 2, none⟩ = some (.slice A2 m2 c2) ∧ IsRaw w ok (.agg #[.bool nb, .slice A1 m1 c1, .slice A2 m2 c2]) (qs.getD i 0) k := by
 obtain ⟨xs, ⟨A', c', e, hc, hF⟩, rfl, h3⟩ := h
 rw [List.length_map] at hi
 obtain ⟨rfl, rfl, rfl⟩ : A = A' ∧ n = xs.length ∧ c = c' := by simpa using e
 obtain ⟨b, o, A1, c1, A2, c2, rfl, g0, g1, g2, hU1, hU2, _⟩ := rl_at hF i hi
 have hx := h3 (xs.getD i rz) (by rw [List.getD_eq_getElem?_getD, List.getElem?_eq_getElem hi]; exact List.getElem_mem hi)
 refine ⟨b, o, _, A1, _, c1, A2, _, c2, rfl, g0, g1, g2, ⟨_, _, _, _, _, rfl, hU1, hU2, hx.1, hx.2.1, hx.2.2.1, hx.2.2.2, ?_⟩⟩
 rw [List.getD_eq_getElem?_getD, List.getD_eq_getElem?_getD, List.getElem?_map, List.getElem?_eq_getElem hi]
 rfl
theorem RQ.rs (h : RQ w ok v qs k) (i : Nat) : RS (k + 1) (qs.getD i 0) := by
 obtain ⟨xs, h1, rfl, h3⟩ := h
 rw [List.getD_eq_getElem?_getD, List.getElem?_map]
 rcases Nat.lt_or_ge i xs.length with hi | hi
 ·rw [List.getElem?_eq_getElem hi]
  have hx := h3 _ (List.getElem_mem hi)
  have h : RS (k + 1) (rawq xs[i].1 xs[i].2.1 xs[i].2.2) := by
   unfold rawq
   split
   ·exact RS.zero k
   ·rename_i hd
    have g1 := val_u_pw hx.1 hx.2.2.1
    have g2 := val_u_pw hx.2.1 hx.2.2.2
    have g3 := val_nonneg_u hx.1
    have g4 := val_nonneg_u hx.2.1
    exact RS.rq _ (by omega) (by omega) (by omega)
  exact h
 ·rw [List.getElem?_eq_none hi]
  exact RS.zero k
end
end Go.Proofs.YtldkcpgnccknpaaGreat
