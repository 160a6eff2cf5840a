/-
  The parts FitG: the contracts of the program's functions and the plain laws below them; each part's own remark says which.
-/
import Derived.Test.YtldkcpgnccknpaaMI
set_option linter.unusedVariables false
set_option linter.unusedSimpArgs false
/-
  FitFinds answers true.
-/
namespace Go.Proofs.Ytldkcpgnccknpaa
open Go.RowKit Go.Proofs.YtldkcpgnccknpaaW.PrintWords Go.Proofs.YtldkcpgnccknpaaW.PrintMore Go.Proofs.YtldkcpgnccknpaaW.PrintLast Num
set_option linter.unusedVariables false

theorem rats_small6 (ok : Nat → Prop) (v : Value) (xs : List RawN) (w : World) (h : RLs w ok v xs) : Calls Try.prog 6 #[v, .int .i64 6] w (fun e w' => e = .returned (.bool (smAll xs 6)) ∧ Below w.heap.size w w') := rats_small ok v xs 6 w h
theorem RN.nil (T : TypeId) (w : World) (base : Nat) (ok : Nat → Prop) (k : Nat) : RN T w base ok (.slice none 0 0) [] k := ⟨[], Kd.N_nil _ _ _ _ _, rfl, fun x hx => by simp at hx⟩
theorem finds_tr {qs : List Rat} {N m : Nat} (h : qs.length ≤ N) (hN : N ≤ 33) (ht : IsTr (dls (vals qs N)) m) : m ≤ qs.length := by
  obtain ⟨h1, h2, h3⟩ := ht
  rcases Nat.lt_or_ge qs.length m with h4 | h4
  · refine absurd ?_ (h3 (by omega))
    rw [dls_vals h hN, List.getD_eq_getElem?_getD, List.getElem?_eq_none (by omega)]
    rfl
  · exact h4
set_option maxRecDepth 100000 in
set_option maxHeartbeats 4000000 in
theorem finds_true (ok : Nat → Prop) (v0 : Value) (xs : List RawN) (d : Int) (w : World) (hok : ∀ k, w.heap.size ≤ k → ok k) (h0 : RLs w ok v0 xs) (hu : ∀ x ∈ xs, U32 x.2.1 ∧ U32 x.2.2) (hd0 : 0 ≤ d) (hd1 : d ≤ 255) :
    Calls Try.prog 4 #[v0, .int .u8 d] w (RetTrue w) := by
  have H0 := Aside0.mk h0
  have HOK := Aside0.mk hok
  rcases hs : smAll xs 6 with _ | _
  · have HS := Aside0.mk hs
    clear h0 hok hu hs
    go_enter Try.func4, Try.ntmps4
    go_wp2_with (first
      | (go_at_call 5; ((with_reducible refine (sane_true _).mono ?_); rintro e w1 ⟨rfl, hb⟩; have HB1 := Aside0.mk hb; have H1 := Aside0.mk (H0.out.below hb); clear hb))
      | (go_at_call 6; ((with_reducible refine (rats_small6 ok _ xs _ H1.out).mono ?_); rintro e w2 ⟨rfl, hb⟩; rw [HS.out]; have HB2 := Aside0.mk (below_step HB1.out hb); clear hb)))
    go_ret
    exact ⟨rfl, HB2.out⟩
  · obtain ⟨hq, hlen⟩ := sm_rq h0 hu hs
    have HS := Aside0.mk hs
    obtain ⟨qs, hqs⟩ : ∃ qs, xs.map qv = qs := ⟨_, rfl⟩
    rw [hqs] at hq hlen
    have HQ := Aside0.mk hq
    obtain ⟨A, c, rfl, hc, hmx⟩ := hq.shape
    have HL := Aside0.mk (show qs.length ≤ 33 by omega)
    have HK2 := Aside0.mk (show 2 ≤ 1000 by decide)
    have htm : d.tmod 4 = d % 4 := Int.tmod_eq_emod_of_nonneg hd0
    obtain ⟨R, hR⟩ := Int.eq_ofNat_of_zero_le (show 0 ≤ d % 4 by omega)
    rw [hR] at htm
    have hR4 : R < 4 := by omega
    clear h0 hok hu hs hq hqs hR
    go_enter Try.func4, Try.ntmps4
    go_wp2_with (first
      | (go_at_call 5; ((with_reducible refine (sane_true _).mono ?_); rintro e w1 ⟨rfl, hb⟩; have HB1 := Aside0.mk hb; have H1 := Aside0.mk (H0.out.below hb); clear hb))
      | (go_at_call 6; ((with_reducible refine (rats_small6 ok _ xs _ H1.out).mono ?_); rintro e w2 ⟨rfl, hb⟩; rw [HS.out]; have HB2 := Aside0.mk (below_step HB1.out hb); clear hb)))
    go_loopw [5, 6] (fun vv vi wr => ∃ i : Nat, vi = .int .i64 i ∧ i ≤ qs.length + R ∧ Aside0 (RN 29 wr w.heap.size ok vv (vals qs i) 2413) ∧ Aside0 (Below w.heap.size w wr)) (fun _ vi _ => qs.length + R - (intOf vi).toNat)
    case atStart => exact ⟨0, rfl, Nat.zero_le _, ⟨RN.nil _ _ _ _ _⟩, HB2⟩
    case round =>
      clear HB2 H1 HB1
      obtain ⟨i, rfl, hi, HR, HB⟩ := hrel
      have HOKr := Aside0.mk (show ∀ k, wr.heap.size ≤ k → ok k from fun k hk => HOK.out k (Nat.le_trans HB.out.size hk))
      by_cases hlt : i < qs.length + R
      · have hlb : decide ((i : Int) < (qs.length : Int) + (R : Int)) = true := decide_eq_true (by omega)
        have hlbn : decide (i < qs.length + R) = true := decide_eq_true hlt
        obtain ⟨okk, hokk⟩ : ∃ okk : Nat → Prop, okk = fun k => ok k ∧ some k ≠ u5.ownBlock := ⟨_, rfl⟩
        have HOKK := Aside0.mk hokk
        have HOK1 := Aside0.mk (show ∀ k, wr.heap.size ≤ k → okk k from fun k hk => by rw [hokk]; exact ⟨HOK.out k (Nat.le_trans HB.out.size hk), fun he => by obtain ⟨xs, h1, _⟩ := HR.out; have := Kd.N_lt h1 k he.symm; omega⟩)
        have HQr := Aside0.mk (show RQ wr okk (.slice A qs.length c) qs 2 from (HQ.out.old HB.out).mono (fun k hk => by rw [hokk]; exact ⟨hk.1, fun he => by obtain ⟨xs, h1, _⟩ := HR.out; have := Kd.N_base h1 k he.symm; have := hk.2; omega⟩))
        have HN1 := Aside0.mk (show (0 : Int) ≤ (i : Int) by omega)
        have HN2 := Aside0.mk (show (i : Int) ≤ 1000000 by omega)
        have HRE := Aside0.mk ((RS.ev (qs := qs) (n := (i : Int)) (j := 2) (fun i => HQ.out.rs i) (by omega) qs.length HL.out).mono (show (2 + 400) * qs.length + 1 ≤ 2413 by omega))
        have HLI := Aside0.mk (show (vals qs i).length ≤ 1000000000 by rw [vals_length]; omega)
        have HVN := Aside0.mk (vals_next qs i)
        clear hokk
        go_wp2_with fail
        with_reducible refine (eval_rat okk _ qs 2 (i : Int) _ HOK1.out HQr.out HK2.out HL.out HN1.out HN2.out).mono ?_
        rintro e w4 ⟨v4, rfl, hv, hb⟩
        have HV4 := Aside0.mk (hv.raw HRE.out)
        obtain ⟨b4, A4, m4, c4, A5, m5, c5, rfl⟩ := hv.shapeb
        obtain ⟨W6, hW6⟩ : ∃ W6, w4.alloc (.cells #[.bool b4, .slice A4 m4 c4, .slice A5 m5 c5] 29) = W6 := ⟨_, rfl⟩
        have hb6 : Below w4.heap.size w4 W6 := by rw [← hW6]; exact below_alloc (Below.refl _ _) _
        have HW6 := Aside0.mk hW6
        have HSZ6 := Aside0.mk (show W6.heap.size = w4.heap.size + 1 by rw [← hW6, size_alloc])
        rw [HOKK.out] at HV4
        have HV6 := Aside0.mk (HV4.out.below hb6)
        have HB6 := Aside0.mk (below_step (below_step HB.out hb) hb6)
        have HR6 := Aside0.mk ((HR.out.below hb).below hb6)
        have HOK6 := Aside0.mk (show ∀ k, W6.heap.size ≤ k → ok k from fun k hk => HOK.out k (Nat.le_trans HB6.out.size hk))
        clear hv hb hb6 hW6
        go_wp2_with ((with_reducible refine gate_builtin (b := .append) (xs := #[.tmp 36, .tmp 38]) rfl ?_); at_builtin; rw [HW6.out, ← HSZ6.out]; refine rn_append (w0 := w) (base := w.heap.size) rfl (.tmp 36) (.tmp 38) 22 29 rfl Try.underlying22 info_rat u5 (vals qs i) (ev qs (i : Int) qs.length) 2413 ok rfl rfl HV6.out HOK6.out HR6.out HB6.out HB6.out.size HLI.out ?_; intro v7 w7 hr_ hb_; rw [HVN.out] at hr_; have HR7 := Aside0.mk hr_; have HB7 := Aside0.mk hb_; clear hr_ hb_)
        go_roundw
        case rel => exact ⟨i + 1, by go_num, by omega, HR7, HB7⟩
        case measure => simp [intOf]; omega
      · have hlb : decide ((i : Int) < (qs.length : Int) + (R : Int)) = false := decide_eq_false (by omega)
        have hlbn : decide (i < qs.length + R) = false := decide_eq_false hlt
        have he : i = qs.length + R := by omega
        subst he
        obtain ⟨N, hN⟩ : ∃ N, qs.length + R = N := ⟨_, rfl⟩
        rw [hN] at HR
        have hN33 : N ≤ 9 := by omega
        have hqN : qs.length ≤ N := by omega
        have HVQ := Aside0.mk HR.out.rq
        have HK5 := Aside0.mk (show 2413 ≤ 5000 by decide)
        have HL9 := Aside0.mk (show (vals qs N).length ≤ 33 by rw [vals_length]; omega)
        have HD1 := Aside0.mk (show -1000000 ≤ (qs.length : Int) - 1 by omega)
        have HD2 := Aside0.mk (show (qs.length : Int) - 1 ≤ 1000000 by omega)
        go_wp2_with fail
        with_reducible refine (fit_rat ok _ (vals qs N) ((qs.length : Int) - 1) 2413 _ HOKr.out HVQ.out HK5.out HL9.out HD1.out HD2.out).mono ?_
        rintro e w5 ⟨m, ht, hb, h⟩
        have hm := finds_tr hqN (by omega) ht
        rcases h with ⟨h, _⟩ | ⟨_, v5, rfl, hv⟩
        · omega
        have hget : ∀ i, ((dls (vals qs N)).take m).getD i 0 = qs.getD i 0 := fun i => by rw [take_tr_get ht, dls_vals hqN (by omega)]
        have hpl := take_tr_length ht
        obtain ⟨ps, hps⟩ : ∃ ps, (dls (vals qs N)).take m = ps := ⟨_, rfl⟩
        rw [hps] at hget hv hpl
        have HGP := Aside0.mk hget
        have HT := Aside0.mk ht
        obtain ⟨A5, c5, rfl, _, _⟩ := hv.shape
        rw [hpl]
        rw [hpl] at hv
        have HP5 := Aside0.mk hv
        have HPL := Aside0.mk hpl
        have HB5 := Aside0.mk (below_step HB.out hb)
        have HOK5 := Aside0.mk (show ∀ k, w5.heap.size ≤ k → ok k from fun k hk => HOK.out k (Nat.le_trans HB5.out.size hk))
        have HQ5 := Aside0.mk (HQ.out.below HB5.out)
        have HK2b := Aside0.mk (show 2 ≤ 1000000 by decide)
        have HLQ := Aside0.mk (show qs.length ≤ 1000000 by omega)
        clear ht hb hv hps hpl hget
        go_wp2_with fail
        with_reducible refine (canonp_rat ok _ qs 2 _ HOK5.out HQ5.out HK2b.out HLQ.out).mono ?_
        rintro e w6 ⟨v6, m6, rfl, ht, hv, hb⟩
        have hmm : m6 = m := tr_same ht HT.out (fun i => (dls_vals hqN (by omega) i).symm)
        subst hmm
        have hpl := take_tr_length ht
        have hget := take_tr_get ht
        obtain ⟨rs, hrs⟩ : ∃ rs, qs.take m6 = rs := ⟨_, rfl⟩
        rw [hrs] at hv hpl hget
        have HGR := Aside0.mk hget
        obtain ⟨A6, c6, rfl, _, _⟩ := hv.shape
        rw [hpl]
        rw [hpl] at hv
        have HR6 := Aside0.mk hv
        have HRL := Aside0.mk hpl
        have HB6 := Aside0.mk (below_step HB5.out hb)
        have HP6 := Aside0.mk (HP5.out.below hb)
        have HBR := Aside0.mk (Below.refl w6.heap.size w6)
        have hm6 : m6 ≤ 6 := by omega
        clear ht hv hb hrs hpl hget HR HB HVQ
        go_wp2
        go_loopw [61] (fun vi wr => ∃ i : Nat, vi = .int .i64 i ∧ i ≤ m6 ∧ Aside0 (Below w6.heap.size w6 wr)) (fun vi _ => m6 - (intOf vi).toNat)
        case atStart => exact ⟨0, rfl, Nat.zero_le _, HBR⟩
        case round =>
          clear HBR
          obtain ⟨i, rfl, hi, HBR⟩ := hrel
          by_cases hlt2 : i < m6
          · have hlb2 : decide ((i : Int) < (m6 : Int)) = true := decide_eq_true (by omega)
            have hbd := below_drew1 (Below.refl wr.heap.size wr)
            have HBd := Aside0.mk (below_step (below_step HB6.out HBR.out) hbd)
            have hQd := (HP6.out.below HBR.out).below hbd
            have hRd := (HR6.out.below HBR.out).below hbd
            obtain ⟨pb, po, nb, A1, m1, c1, A2, m2, c2, rfl, p0, p1, p2, hraw⟩ := hQd.at i (by rw [HPL.out]; exact hlt2)
            obtain ⟨rb, ro, rn, A3, m3, c3, A4, m4, c4, rfl, s0, s1, s2, hraw2⟩ := hRd.at i (by rw [HRL.out]; exact hlt2)
            rw [HGP.out] at hraw
            rw [HGR.out] at hraw2
            obtain ⟨q, hqq⟩ : ∃ q, qs.getD i 0 = q := ⟨_, rfl⟩
            rw [hqq] at hraw hraw2
            have HPd := Aside0.mk hraw
            have HRd := Aside0.mk hraw2
            have HSG := Aside0.mk (show sgnR (q - q) = 0 by rw [Rat.sub_self]; rfl)
            have HOKd := Aside0.mk (show ∀ k, wr.drew.heap.size ≤ k → ok k from fun k hk => HOK.out k (Nat.le_trans HBd.out.size hk))
            have HDK := Aside0.mk (show dk (vals qs N).length 2413 + 1 ≤ 900000 by rw [vals_length]; unfold dk; omega)
            have HD3 := Aside0.mk (show 2 + 1 ≤ 900000 by decide)
            have hil : i < m6 := hlt2
            clear hbd hQd hRd hraw hraw2 hqq
            go_upto_region 20 with fail
            go_region_held3 (fun w' => w'.cell? ⟨pb, po + i * 3, none⟩ = some (.bool nb) ∧ w'.cell? ⟨pb, po + i * 3 + 1, none⟩ = some (.slice A1 m1 c1) ∧ w'.cell? ⟨pb, po + i * 3 + 2, none⟩ = some (.slice A2 m2 c2) ∧ w'.cell? ⟨rb, ro + i * 3, none⟩ = some (.bool rn) ∧ w'.cell? ⟨rb, ro + i * 3 + 1, none⟩ = some (.slice A3 m3 c3) ∧ w'.cell? ⟨rb, ro + i * 3 + 2, none⟩ = some (.slice A4 m4 c4)) (first | exact ⟨p0, p1, p2, s0, s1, s2⟩ | exact ⟨k0, k1, k2, k3, k4, k5⟩) (first
              | (go_at_call 9; ((with_reducible refine (cmp_ref ok _ _ _ _ _ _ _ HOKd.out HPd.out HRd.out HDK.out HD3.out).mono ?_); rintro e w9 ⟨rfl, hb⟩; rw [HSG.out]; have HB9 := Aside0.mk (below_step HBR.out (below_step (below_drew1 (Below.refl wr.heap.size wr)) hb)); (have k0 := pw_cell_below hb p0); (have k1 := pw_cell_below hb p1); (have k2 := pw_cell_below hb p2); (have k3 := pw_cell_below hb s0); (have k4 := pw_cell_below hb s1); (have k5 := pw_cell_below hb s2); clear hb)))
            all_goals
              (go_wp2
               go_roundw
               case rel => exact ⟨i + 1, by go_num, by omega, HB9⟩
               case measure => simp [intOf]; omega)
          · have hlb2 : decide ((i : Int) < (m6 : Int)) = false := decide_eq_false (by omega)
            have HBF := Aside0.mk (below_step HB6.out HBR.out)
            go_wp2
            go_ret
            exact ⟨rfl, HBF.out⟩
end Go.Proofs.Ytldkcpgnccknpaa
