/-
  The parts ValA, ValB, ValC, ValD, ValE, ValF: the contracts of the program's functions and the plain laws below them; each part's own remark says which.
-/
import Derived.Test.YtldkcpgnccknpaaGreatMA
import Derived.Test.YtldkcpgnccknpaaGreatWN
import Derived.Test.YtldkcpgnccknpaaGreatWNEv
import Derived.Deep.RegionHeld3
set_option linter.unusedVariables false
set_option linter.unusedSimpArgs false
/-
  Trees (values, types) as they lie in memory: read, and made by the call.
-/
namespace Go.Proofs.YtldkcpgnccknpaaGreat
open Go.RowKit Go.Proofs.YtldkcpgnccknpaaGreatW.PrintWords Go.Proofs.YtldkcpgnccknpaaGreatW.PrintMore Go.Proofs.YtldkcpgnccknpaaGreatW.PrintLast
set_option linter.unusedVariables false
theorem tr_add (b o i : Nat) : (⟨b, o, none⟩ : Addr).add i = ⟨b, o + i, none⟩ := by unfold Addr.add; split <;> simp_all
/-- A value or a type: its kind, its number, what it holds. -/
structure Tr where
 k : Int
 n : Int
 l : List Tr
def z0 : Tr := ⟨0, 0, []⟩
def FTr (T : TypeId) (d : Kd Tr) : Kd Tr := Kd.iso (Kd.pair (Kd.int .i64) (Kd.pair (Kd.int .i64) (Kd.slice T d))) (fun x : Tr => (x.k, x.n, x.l))
theorem monoTr (T : TypeId) : Kd.Mono (FTr T) := Kd.mono_iso _ (Kd.mono_pair (Kd.mono_const _) (Kd.mono_pair (Kd.mono_const _) (Kd.mono_slice T Kd.mono_id)))
theorem subTr (T : TypeId) : Kd.Sub (FTr T) [T] := Kd.sub_iso _ (Kd.sub_pair (Kd.sub_const _ (by intro x hx; cases hx)) (Kd.sub_pair (Kd.sub_const _ (by intro x hx; cases hx)) (Kd.sub_slice T (List.mem_singleton.2 rfl) Kd.sub_id)))
theorem szTr (T : TypeId) : ∀ n, (Kd.upto (FTr T) 3 [T] n).sz = 3 := Kd.upto_sz (fun _ => rfl)
def kTr (T : TypeId) : Kd Tr := Kd.fix (FTr T) 3 [T] (szTr T) (Kd.upto_E (subTr T))
section
variable {T : TypeId} {w w1 W : World} {ok ok' : Nat → Prop} {x : Tr} {cs : List Value} {v : Value} {xs : List Tr}
theorem kTr_open (h : (kTr T).K w x cs) : ∃ A c, cs = [.int .i64 x.k, .int .i64 x.n, .slice A x.l.length c] ∧ x.l.length ≤ c ∧ (kTr T).C w A x.l.length x.l := by
 obtain ⟨n, h⟩ := h
 cases n with
 | zero => exact h.elim
 | succ n =>
  obtain ⟨_, _, rfl, rfl, ⟨_, _, rfl, rfl, ⟨A2, c2, rfl, l2, g2⟩⟩⟩ := h
  exact ⟨A2, c2, rfl, l2, Kd.fix_C g2⟩
theorem kTr_mk (w : World) (x : Tr) {A : Option Addr} {c : Nat} (l2 : x.l.length ≤ c) (g2 : (kTr T).C w A x.l.length x.l) : (kTr T).K w x [.int .i64 x.k, .int .i64 x.n, .slice A x.l.length c] := by
 obtain ⟨n2, q2⟩ := Kd.fix_C_back (monoTr T) g2
 exact ⟨n2 + 1, ⟨[.int .i64 x.k], [.int .i64 x.n, .slice A x.l.length c], rfl, rfl, ⟨[.int .i64 x.n], [.slice A x.l.length c], rfl, rfl, ⟨A, c, rfl, l2, q2⟩⟩⟩⟩
theorem kTr_openF (h : Kd.FK (kTr T) W ok x cs) : ∃ A c, cs = [.int .i64 x.k, .int .i64 x.n, .slice A x.l.length c] ∧ x.l.length ≤ c ∧ Kd.F (kTr T) W ok A x.l.length x.l := by
 obtain ⟨A, c, rfl, hl, _⟩ := kTr_open (Kd.FK_now h)
 refine ⟨A, c, rfl, hl, fun W' hW => ?_⟩
 obtain ⟨A', c', he, _, g⟩ := kTr_open (h W' hW)
 simp at he
 rw [he.1]
 exact g
theorem kTr_mkF (W : World) (ok : Nat → Prop) (x : Tr) {A : Option Addr} {c : Nat} (hl : x.l.length ≤ c) (g : Kd.F (kTr T) W ok A x.l.length x.l) : Kd.FK (kTr T) W ok x [.int .i64 x.k, .int .i64 x.n, .slice A x.l.length c] := fun W2 hW => kTr_mk W2 x hl (g W2 hW)
end
/-- A slice of trees that reads as xs. -/
def LTr (T : TypeId) (w : World) (ok : Nat → Prop) (v : Value) (xs : List Tr) : Prop := ∃ A c, v = .slice A xs.length c ∧ xs.length ≤ c ∧ Kd.F (kTr T) w ok A xs.length xs
/-- A tree's value. -/
def ITr (T : TypeId) (w : World) (ok : Nat → Prop) (v : Value) (x : Tr) : Prop := ∃ A c, v = .agg #[.int .i64 x.k, .int .i64 x.n, .slice A x.l.length c] ∧ x.l.length ≤ c ∧ Kd.F (kTr T) w ok A x.l.length x.l
section
variable {T : TypeId} {w w1 W : World} {ok ok' : Nat → Prop} {x : Tr} {v : Value} {xs : List Tr}
theorem LTr.step (h : LTr T w ok v xs) (hm : ∀ k, ok k → k < w.heap.size → w1.heap[k]? = w.heap[k]?) : LTr T w1 ok v xs := by
 obtain ⟨A, c, e, hc, hF⟩ := h
 exact ⟨A, c, e, hc, Kd.F_step hF hm⟩
theorem LTr.below (h : LTr T w ok v xs) (hb : Below w.heap.size w w1) : LTr T w1 ok v xs := h.step (fun k _ hlt => hb.block k hlt)
theorem LTr.mono (h : LTr T w ok v xs) (hok : ∀ k, ok k → ok' k) : LTr T w ok' v xs := by
 obtain ⟨A, c, e, hc, hF⟩ := h
 exact ⟨A, c, e, hc, Kd.F_mono hF hok⟩
theorem LTr.bound (h : LTr T w ok v xs) : LTr T w (fun k => ok k ∧ k < w.heap.size) v xs := by
 obtain ⟨A, c, e, hc, hF⟩ := h
 exact ⟨A, c, e, hc, Kd.F_bound hF⟩
theorem LTr.old (h : LTr T w ok v xs) (hb : Below w.heap.size w w1) : LTr T w1 (fun k => ok k ∧ k < w.heap.size) v xs := h.bound.step (fun k _ hlt => hb.block k hlt)
theorem LTr.max (h : LTr T w ok v xs) : xs.length ≤ 9223372036854775807 := by
 obtain ⟨A, c, _, _, hF⟩ := h
 exact Kd.F_max hF
theorem LTr.nil (T : TypeId) (w : World) (ok : Nat → Prop) : LTr T w ok (.slice none 0 0) [] := ⟨none, 0, rfl, Nat.le_refl _, Kd.F_nil _ _ _⟩
theorem ITr.step (h : ITr T w ok v x) (hm : ∀ k, ok k → k < w.heap.size → w1.heap[k]? = w.heap[k]?) : ITr T w1 ok v x := by
 obtain ⟨A, c, e, hc, hF⟩ := h
 exact ⟨A, c, e, hc, Kd.F_step hF hm⟩
theorem ITr.below (h : ITr T w ok v x) (hb : Below w.heap.size w w1) : ITr T w1 ok v x := h.step (fun k _ hlt => hb.block k hlt)
theorem ITr.mono (h : ITr T w ok v x) (hok : ∀ k, ok k → ok' k) : ITr T w ok' v x := by
 obtain ⟨A, c, e, hc, hF⟩ := h
 exact ⟨A, c, e, hc, Kd.F_mono hF hok⟩
theorem ITr.bound (h : ITr T w ok v x) : ITr T w (fun k => ok k ∧ k < w.heap.size) v x := by
 obtain ⟨A, c, e, hc, hF⟩ := h
 exact ⟨A, c, e, hc, Kd.F_bound hF⟩
theorem ITr.old (h : ITr T w ok v x) (hb : Below w.heap.size w w1) : ITr T w1 (fun k => ok k ∧ k < w.heap.size) v x := h.bound.step (fun k _ hlt => hb.block k hlt)
/-- What a tree's slice is. -/
theorem ITr.kids {A : Option Addr} {a b : Int} {m c : Nat} (h : ITr T w ok (.agg #[.int .i64 a, .int .i64 b, .slice A m c]) x) : a = x.k ∧ b = x.n ∧ m = x.l.length ∧ LTr T w ok (.slice A m c) x.l := by
 obtain ⟨A', c', e, hc, hF⟩ := h
 simp at e
 obtain ⟨rfl, rfl, rfl, rfl, rfl⟩ := e
 exact ⟨rfl, rfl, rfl, A, c, rfl, hc, hF⟩
theorem ITr.mk {A : Option Addr} {a b : Int} {m c : Nat} (h : LTr T w ok (.slice A m c) xs) : ITr T w ok (.agg #[.int .i64 a, .int .i64 b, .slice A m c]) ⟨a, b, xs⟩ := by
 obtain ⟨A', c', e, hc, hF⟩ := h
 simp at e
 obtain ⟨rfl, rfl, rfl⟩ := e
 exact ⟨A, c, rfl, hc, hF⟩
/-- The tree at place i. -/
theorem LTr.at {A : Option Addr} {m c : Nat} (h : LTr T w ok (.slice A m c) xs) (i : Nat) (hi : i < xs.length) :
  ∃ b o A1 c1, A = some ⟨b, o, none⟩ ∧ w.cell? ⟨b, o + i * 3, none⟩ = some (.int .i64 (xs.getD i z0).k) ∧ w.cell? ⟨b, o + i * 3 + 1, none⟩ = some (.int .i64 (xs.getD i z0).n) ∧ w.cell? ⟨b, o + i * 3 + 2, none⟩ = some (.slice A1 (xs.getD i z0).l.length c1) ∧
   ITr T w ok (.agg #[.int .i64 (xs.getD i z0).k, .int .i64 (xs.getD i z0).n, .slice A1 (xs.getD i z0).l.length c1]) (xs.getD i z0) := by
 obtain ⟨A', c', e, hc, hF⟩ := h
 simp at e
 obtain ⟨rfl, rfl, rfl⟩ := e
 obtain ⟨ad, cs, e, hlen, hK, hcell, hin⟩ := Kd.F_get hF z0 (i : Int) (by omega) (by omega)
 rw [Int.toNat_natCast] at hK hcell
 obtain ⟨A1, c1, rfl, hl, hF1⟩ := kTr_openF hK
 have hs : (kTr T).sz = 3 := rfl
 rw [hs] at hcell
 have g0 := hcell 0 _ rfl
 have g1 := hcell 1 _ rfl
 have g2 := hcell 2 _ rfl
 obtain ⟨ad0, cc, e0, hlen0, _, hc0, _⟩ := Kd.F_get hF z0 0 (by omega) (by omega)
 rw [e] at e0
 injection e0 with e0
 subst e0
 have hsp := World.cell?_spot (hc0 0 _ (List.getElem?_eq_getElem (by rw [hlen0, hs]; decide)))
 simp [Addr.add] at hsp
 obtain ⟨b, o, sp⟩ := ad
 simp at hsp
 subst hsp
 rw [tr_add] at g0 g1 g2
 exact ⟨b, o, A1, c1, e, g0, g1, g2, A1, c1, rfl, hl, hF1⟩
end
/-
  The number of nodes of a tree; the contracts of value.nodes, value.Nodes, typing.size, keep2.nodes.
-/
mutual
/-- The number of nodes. -/
def Tr.sz : Tr → Nat
 | ⟨_, _, l⟩ => 1 + szl l
def szl : List Tr → Nat
 | [] => 0
 | x :: xs => x.sz + szl xs
end
theorem Tr.sz_eq (x : Tr) : x.sz = 1 + szl x.l := by
 cases x
 rw [Tr.sz]
theorem szl_append (xs ys : List Tr) : szl (xs ++ ys) = szl xs + szl ys := by
 induction xs with
 | nil => simp [szl]
 | cons x xs ih => rw [List.cons_append, szl, szl, ih]; omega
theorem szl_next {xs : List Tr} {i : Nat} (h : i < xs.length) : szl (xs.take (i + 1)) = szl (xs.take i) + (xs.getD i z0).sz := by
 rw [List.take_add_one, List.getD_eq_getElem?_getD, List.getElem?_eq_getElem h, szl_append]
 simp [szl]
theorem szl_le (xs : List Tr) (i : Nat) : szl (xs.take i) ≤ szl xs := by
 have h := congrArg szl (List.take_append_drop i xs)
 rw [szl_append] at h
 omega
theorem kid_sz {x : Tr} {i : Nat} (h : i < x.l.length) : (x.l.getD i z0).sz < x.sz := by
 rw [x.sz_eq]
 have h1 := szl_next h
 have h2 := szl_le x.l (i + 1)
 omega
def RetN (n : Int) (w0 : World) (e : Ending) (w' : World) : Prop := e = .returned (.int .i64 n) ∧ Below w0.heap.size w0 w'
theorem RetN.mk {n m : Int} {w0 w' : World} (h : m = n) (hb : Below w0.heap.size w0 w') : RetN m w0 (.returned (.int .i64 n)) w' := by rw [h]; exact ⟨rfl, hb⟩
set_option maxHeartbeats 1000000 in
theorem nodes_val (N : Nat) : ∀ (x : Tr) (ok : Nat → Prop) (v : Value) (lim : Nat) (w : World), x.sz ≤ N → ITr 28 w ok v x → 1 ≤ lim → lim ≤ 1000000 →
  Calls Tryz.prog 18 #[v, .int .i64 (lim : Int)] w (RetN ((min x.sz lim : Nat) : Int) w) := by
 induction N with
 | zero => intro x ok v lim w h; have := x.sz_eq; omega
 | succ N ih =>
  intro x ok v lim w hN hx h1 h2
  have IH := As ih
  obtain ⟨A, c, rfl, hc, hF⟩ := hx
  have hmx := Kd.F_max hF
  have HL := As (show LTr 28 w ok (.slice A x.l.length c) x.l from ⟨A, c, rfl, hc, hF⟩)
  obtain ⟨W1, hW1⟩ : ∃ W1, w.alloc (.cells #[.int .i64 x.k, .int .i64 x.n, .slice A x.l.length c] 28) = W1 := ⟨_, rfl⟩
  have HW1 := As hW1
  have HB := As (show Below w.heap.size w W1 by rw [← hW1]; exact below_alloc (Below.refl _ _) _)
  have HSZ := As (x.sz_eq)
  have HN := As hN
  clear ih hF hW1 hN
  go_enter Tryz.func18, Tryz.ntmps18
  go_wp2
  rw [HW1.out]
  go_loopw [5, 11] (fun v5 v11 wr => ∃ i m : Nat, v11 = .int .i64 i ∧ v5 = .int .i64 m ∧ i ≤ x.l.length ∧ Aside0 (m = min (1 + szl (x.l.take i)) lim) ∧ Aside0 (Below w.heap.size w wr)) (fun _ v11 _ => x.l.length - (intOf v11).toNat)
  case atStart => exact ⟨0, 1, rfl, rfl, Nat.zero_le _, ⟨by rw [List.take_zero, szl]; omega⟩, HB⟩
  case round =>
   clear HB
   obtain ⟨i, m, rfl, rfl, hi, HM, HB⟩ := hrel
   have hml : m ≤ lim := by have := HM.out; omega
   by_cases hlt : i < x.l.length
   ·have hlb : decide ((i : Int) < (x.l.length : Int)) = true := decide_eq_true (by omega)
    obtain ⟨b, o, A1, c1, rfl, p0, p1, p2, hkid⟩ := (HL.out.below HB.out).at i hlt
    have HKS := As (kid_sz hlt)
    have HNX := As (szl_next hlt)
    have HLE := As (szl_le x.l (i + 1))
    obtain ⟨y, hy⟩ : ∃ y, x.l.getD i z0 = y := ⟨_, rfl⟩
    rw [hy] at p0 p1 p2 hkid HKS HNX
    clear hy
    by_cases hge : lim ≤ m
    ·have hgb : decide ((lim : Int) ≤ (m : Int)) = true := decide_eq_true (by omega)
     have hR := As (show ((min x.sz lim : Nat) : Int) = (lim : Int) by have := HM.out; have := HSZ.out; have := szl_le x.l i; omega)
     clear hkid
     go_wp2
     go_ret
     exact RetN.mk hR.out (below_alloc HB.out _)
    ·have hgb : decide ((lim : Int) ≤ (m : Int)) = false := decide_eq_false (by omega)
     obtain ⟨W2, hW2⟩ : ∃ W2, wr.alloc (.cells #[.int .i64 y.k, .int .i64 y.n, .slice A1 y.l.length c1] 28) = W2 := ⟨_, rfl⟩
     have HW2 := As hW2
     have hb2 : Below wr.heap.size wr W2 := by rw [← hW2]; exact below_alloc (Below.refl _ _) _
     have HB2 := As (below_step HB.out hb2)
     have HK2 := As (hkid.below hb2)
     have HYN := As (show y.sz ≤ N by have := HN.out; have := HKS.out; omega)
     obtain ⟨d, hd⟩ : ∃ d, lim - m = d := ⟨_, rfl⟩
     have HD1 := As (show 1 ≤ d by omega)
     have HD2 := As (show d ≤ 1000000 by omega)
     have hdd : (lim : Int) - (m : Int) = (d : Int) := by omega
     clear hb2 hW2 hkid
     go_wp2_with fail
     rw [HW2.out]
     with_reducible refine (IH.out y ok _ d W2 HYN.out HK2.out HD1.out HD2.out).mono ?_
     rintro e w3 ⟨rfl, hb⟩
     have HB3 := As (below_step HB2.out hb)
     obtain ⟨q, hq⟩ : ∃ q, min y.sz d = q := ⟨_, rfl⟩
     have HQ := As hq
     have hqd : q ≤ d := by omega
     rw [hq]
     clear hb hq
     go_wp2
     go_roundw
     case rel => exact ⟨i + 1, m + q, by go_num, by go_num, by omega, ⟨by have := HM.out; have := HNX.out; have := HQ.out; omega⟩, HB3⟩
     case measure => simp [intOf]; omega
   ·have hlb : decide ((i : Int) < (x.l.length : Int)) = false := decide_eq_false (by omega)
    have he : i = x.l.length := by omega
    subst he
    have hR := As (show ((min x.sz lim : Nat) : Int) = (m : Int) by have h1 := HM.out; have h2 := HSZ.out; rw [List.take_length] at h1; omega)
    have hmn : ¬ (lim : Int) < (m : Int) := by omega
    go_wp2
    go_ret
    exact RetN.mk hR.out HB.out
set_option maxHeartbeats 1000000 in
theorem size_ty (N : Nat) : ∀ (x : Tr) (ok : Nat → Prop) (v : Value) (lim : Nat) (w : World), x.sz ≤ N → ITr 25 w ok v x → 1 ≤ lim → lim ≤ 1000000 →
  Calls Tryz.prog 67 #[v, .int .i64 (lim : Int)] w (RetN ((min x.sz lim : Nat) : Int) w) := by
 induction N with
 | zero => intro x ok v lim w h; have := x.sz_eq; omega
 | succ N ih =>
  intro x ok v lim w hN hx h1 h2
  have IH := As ih
  obtain ⟨A, c, rfl, hc, hF⟩ := hx
  have hmx := Kd.F_max hF
  have HL := As (show LTr 25 w ok (.slice A x.l.length c) x.l from ⟨A, c, rfl, hc, hF⟩)
  obtain ⟨W1, hW1⟩ : ∃ W1, w.alloc (.cells #[.int .i64 x.k, .int .i64 x.n, .slice A x.l.length c] 25) = W1 := ⟨_, rfl⟩
  have HW1 := As hW1
  have HB := As (show Below w.heap.size w W1 by rw [← hW1]; exact below_alloc (Below.refl _ _) _)
  have HSZ := As (x.sz_eq)
  have HN := As hN
  clear ih hF hW1 hN
  go_enter Tryz.func67, Tryz.ntmps67
  go_wp2
  rw [HW1.out]
  go_loopw [5, 11] (fun v5 v11 wr => ∃ i m : Nat, v11 = .int .i64 i ∧ v5 = .int .i64 m ∧ i ≤ x.l.length ∧ Aside0 (m = min (1 + szl (x.l.take i)) lim) ∧ Aside0 (Below w.heap.size w wr)) (fun _ v11 _ => x.l.length - (intOf v11).toNat)
  case atStart => exact ⟨0, 1, rfl, rfl, Nat.zero_le _, ⟨by rw [List.take_zero, szl]; omega⟩, HB⟩
  case round =>
   clear HB
   obtain ⟨i, m, rfl, rfl, hi, HM, HB⟩ := hrel
   have hml : m ≤ lim := by have := HM.out; omega
   by_cases hlt : i < x.l.length
   ·have hlb : decide ((i : Int) < (x.l.length : Int)) = true := decide_eq_true (by omega)
    obtain ⟨b, o, A1, c1, rfl, p0, p1, p2, hkid⟩ := (HL.out.below HB.out).at i hlt
    have HKS := As (kid_sz hlt)
    have HNX := As (szl_next hlt)
    have HLE := As (szl_le x.l (i + 1))
    obtain ⟨y, hy⟩ : ∃ y, x.l.getD i z0 = y := ⟨_, rfl⟩
    rw [hy] at p0 p1 p2 hkid HKS HNX
    clear hy
    by_cases hge : lim ≤ m
    ·have hgb : decide ((lim : Int) ≤ (m : Int)) = true := decide_eq_true (by omega)
     have hR := As (show ((min x.sz lim : Nat) : Int) = (lim : Int) by have := HM.out; have := HSZ.out; have := szl_le x.l i; omega)
     clear hkid
     go_wp2
     go_ret
     exact RetN.mk hR.out (below_alloc HB.out _)
    ·have hgb : decide ((lim : Int) ≤ (m : Int)) = false := decide_eq_false (by omega)
     obtain ⟨W2, hW2⟩ : ∃ W2, wr.alloc (.cells #[.int .i64 y.k, .int .i64 y.n, .slice A1 y.l.length c1] 25) = W2 := ⟨_, rfl⟩
     have HW2 := As hW2
     have hb2 : Below wr.heap.size wr W2 := by rw [← hW2]; exact below_alloc (Below.refl _ _) _
     have HB2 := As (below_step HB.out hb2)
     have HK2 := As (hkid.below hb2)
     have HYN := As (show y.sz ≤ N by have := HN.out; have := HKS.out; omega)
     obtain ⟨d, hd⟩ : ∃ d, lim - m = d := ⟨_, rfl⟩
     have HD1 := As (show 1 ≤ d by omega)
     have HD2 := As (show d ≤ 1000000 by omega)
     have hdd : (lim : Int) - (m : Int) = (d : Int) := by omega
     clear hb2 hW2 hkid
     go_wp2_with fail
     rw [HW2.out]
     with_reducible refine (IH.out y ok _ d W2 HYN.out HK2.out HD1.out HD2.out).mono ?_
     rintro e w3 ⟨rfl, hb⟩
     have HB3 := As (below_step HB2.out hb)
     obtain ⟨q, hq⟩ : ∃ q, min y.sz d = q := ⟨_, rfl⟩
     have HQ := As hq
     have hqd : q ≤ d := by omega
     rw [hq]
     clear hb hq
     go_wp2
     go_roundw
     case rel => exact ⟨i + 1, m + q, by go_num, by go_num, by omega, ⟨by have := HM.out; have := HNX.out; have := HQ.out; omega⟩, HB3⟩
     case measure => simp [intOf]; omega
   ·have hlb : decide ((i : Int) < (x.l.length : Int)) = false := decide_eq_false (by omega)
    have he : i = x.l.length := by omega
    subst he
    have hR := As (show ((min x.sz lim : Nat) : Int) = (m : Int) by have h1 := HM.out; have h2 := HSZ.out; rw [List.take_length] at h1; omega)
    have hmn : ¬ (lim : Int) < (m : Int) := by omega
    go_wp2
    go_ret
    exact RetN.mk hR.out HB.out
/-
  The contracts of value.Nodes, keep2.nodes.
-/
set_option maxHeartbeats 1000000 in
theorem nodes_all (N : Nat) : ∀ (x : Tr) (ok : Nat → Prop) (v : Value) (w : World), x.sz ≤ N → ITr 28 w ok v x → x.sz ≤ 1000000 →
  Calls Tryz.prog 33 #[v] w (RetN (x.sz : Int) w) := by
 induction N with
 | zero => intro x ok v w h; have := x.sz_eq; omega
 | succ N ih =>
  intro x ok v w hN hx h2
  have IH := As ih
  obtain ⟨A, c, rfl, hc, hF⟩ := hx
  have hmx := Kd.F_max hF
  have HL := As (show LTr 28 w ok (.slice A x.l.length c) x.l from ⟨A, c, rfl, hc, hF⟩)
  obtain ⟨W1, hW1⟩ : ∃ W1, w.alloc (.cells #[.int .i64 x.k, .int .i64 x.n, .slice A x.l.length c] 28) = W1 := ⟨_, rfl⟩
  have HW1 := As hW1
  have HB := As (show Below w.heap.size w W1 by rw [← hW1]; exact below_alloc (Below.refl _ _) _)
  have HSZ := As (x.sz_eq)
  have HN := As hN
  have H2 := As h2
  clear ih hF hW1 hN h2
  go_enter Tryz.func33, Tryz.ntmps33
  go_wp2
  rw [HW1.out]
  go_loopw [3, 9] (fun v5 v11 wr => ∃ i m : Nat, v11 = .int .i64 i ∧ v5 = .int .i64 m ∧ i ≤ x.l.length ∧ Aside0 (m = 1 + szl (x.l.take i)) ∧ Aside0 (Below w.heap.size w wr)) (fun _ v11 _ => x.l.length - (intOf v11).toNat)
  case atStart => exact ⟨0, 1, rfl, rfl, Nat.zero_le _, ⟨by rw [List.take_zero, szl]⟩, HB⟩
  case round =>
   clear HB
   obtain ⟨i, m, rfl, rfl, hi, HM, HB⟩ := hrel
   by_cases hlt : i < x.l.length
   ·have hlb : decide ((i : Int) < (x.l.length : Int)) = true := decide_eq_true (by omega)
    obtain ⟨b, o, A1, c1, rfl, p0, p1, p2, hkid⟩ := (HL.out.below HB.out).at i hlt
    have HKS := As (kid_sz hlt)
    have HNX := As (szl_next hlt)
    have HLE := As (szl_le x.l (i + 1))
    obtain ⟨y, hy⟩ : ∃ y, x.l.getD i z0 = y := ⟨_, rfl⟩
    rw [hy] at p0 p1 p2 hkid HKS HNX
    clear hy
    obtain ⟨W2, hW2⟩ : ∃ W2, wr.alloc (.cells #[.int .i64 y.k, .int .i64 y.n, .slice A1 y.l.length c1] 28) = W2 := ⟨_, rfl⟩
    have HW2 := As hW2
    have hb2 : Below wr.heap.size wr W2 := by rw [← hW2]; exact below_alloc (Below.refl _ _) _
    have HB2 := As (below_step HB.out hb2)
    have HK2 := As (hkid.below hb2)
    have HYN := As (show y.sz ≤ N by have := HN.out; have := HKS.out; omega)
    have HYM := As (show y.sz ≤ 1000000 by have := H2.out; have := HKS.out; omega)
    obtain ⟨q, hq⟩ : ∃ q, y.sz = q := ⟨_, rfl⟩
    have HQ := As hq
    have hmq : m + q ≤ 1000000 := by have := HM.out; have := HNX.out; have := HLE.out; have := HSZ.out; have := H2.out; omega
    clear hb2 hW2 hkid
    go_wp2_with fail
    rw [HW2.out]
    with_reducible refine (IH.out y ok _ W2 HYN.out HK2.out HYM.out).mono ?_
    rintro e w3 ⟨rfl, hb⟩
    have HB3 := As (below_step HB2.out hb)
    rw [hq]
    clear hb hq
    go_wp2
    go_roundw
    case rel => exact ⟨i + 1, m + q, by go_num, by go_num, by omega, ⟨by have := HM.out; have := HNX.out; have := HQ.out; omega⟩, HB3⟩
    case measure => simp [intOf]; omega
   ·have hlb : decide ((i : Int) < (x.l.length : Int)) = false := decide_eq_false (by omega)
    have he : i = x.l.length := by omega
    subst he
    have hR := As (show (x.sz : Int) = (m : Int) by have h1 := HM.out; have h2 := HSZ.out; rw [List.take_length] at h1; omega)
    go_wp2
    go_ret
    exact RetN.mk hR.out HB.out
set_option maxHeartbeats 1000000 in
theorem nodes_kept (N : Nat) : ∀ (x : Tr) (ok : Nat → Prop) (v : Value) (lim : Nat) (w : World), x.sz ≤ N → ITr 28 w ok v x → lim ≤ 1000000 →
  Calls Tryz.prog 30 #[v, .int .i64 (lim : Int)] w (RetN ((min x.sz (lim + 1) : Nat) : Int) w) := by
 induction N with
 | zero => intro x ok v lim w h; have := x.sz_eq; omega
 | succ N ih =>
  intro x ok v lim w hN hx h2
  have IH := As ih
  obtain ⟨A, c, rfl, hc, hF⟩ := hx
  have hmx := Kd.F_max hF
  have HL := As (show LTr 28 w ok (.slice A x.l.length c) x.l from ⟨A, c, rfl, hc, hF⟩)
  obtain ⟨W1, hW1⟩ : ∃ W1, w.alloc (.cells #[.int .i64 x.k, .int .i64 x.n, .slice A x.l.length c] 28) = W1 := ⟨_, rfl⟩
  have HW1 := As hW1
  have HB := As (show Below w.heap.size w W1 by rw [← hW1]; exact below_alloc (Below.refl _ _) _)
  have HG := As (show W1.heap[w.heap.size]? = some (.cells #[.int .i64 x.k, .int .i64 x.n, .slice A x.l.length c] 28 (0, 0)) by rw [← hW1]; exact heap_alloc_new _ _)
  have HSZ := As (x.sz_eq)
  have HN := As hN
  clear ih hF hW1 hN
  go_enter Tryz.func30, Tryz.ntmps30
  go_wp2
  rw [HW1.out]
  go_loopw [5, 10] (fun v5 v11 wr => ∃ i m : Nat, v11 = .int .i64 i ∧ v5 = .int .i64 m ∧ i ≤ x.l.length ∧ Aside0 (m = min (1 + szl (x.l.take i)) (lim + 1)) ∧ Aside0 (wr.heap[w.heap.size]? = some (.cells #[.int .i64 x.k, .int .i64 x.n, .slice A x.l.length c] 28 (0, 0))) ∧ Aside0 (Below w.heap.size w wr)) (fun _ v11 _ => x.l.length - (intOf v11).toNat)
  case atStart => exact ⟨0, 1, rfl, rfl, Nat.zero_le _, ⟨by rw [List.take_zero, szl]; omega⟩, HG, HB⟩
  case round =>
   clear HB HG
   obtain ⟨i, m, rfl, rfl, hi, HM, HG, HB⟩ := hrel
   have hml : m ≤ lim + 1 := by have := HM.out; omega
   by_cases hlt : i < x.l.length
   ·have hlb : decide ((i : Int) < (x.l.length : Int)) = true := decide_eq_true (by omega)
    obtain ⟨b, o, A1, c1, rfl, p0, p1, p2, hkid⟩ := (HL.out.below HB.out).at i hlt
    have HKS := As (kid_sz hlt)
    have HNX := As (szl_next hlt)
    have HLE := As (szl_le x.l (i + 1))
    obtain ⟨y, hy⟩ : ∃ y, x.l.getD i z0 = y := ⟨_, rfl⟩
    rw [hy] at p0 p1 p2 hkid HKS HNX
    have hg0 : wr.cell? ⟨w.heap.size, 2, none⟩ = some (.slice (some ⟨b, o, none⟩) x.l.length c) := by rw [cell_of_row wr _ 2 _ _ (0, 0) HG.out]; rfl
    clear hy
    by_cases hge : lim < m
    ·have hgb : decide ((lim : Int) < (m : Int)) = true := decide_eq_true (by omega)
     have hR := As (show ((min x.sz (lim + 1) : Nat) : Int) = (m : Int) by have := HM.out; have := HSZ.out; have := szl_le x.l i; omega)
     clear hkid
     go_wp2
     go_ret
     exact RetN.mk hR.out HB.out
    ·have hgb : decide ((lim : Int) < (m : Int)) = false := decide_eq_false (by omega)
     have HK2 := As hkid
     have HYN := As (show y.sz ≤ N by have := HN.out; have := HKS.out; omega)
     obtain ⟨d, hd⟩ : ∃ d, lim - m = d := ⟨_, rfl⟩
     have HD2 := As (show d ≤ 1000000 by omega)
     have hdd : (lim : Int) - (m : Int) = (d : Int) := by omega
     clear hkid
     go_wp2_with fail
     with_reducible refine (IH.out y ok _ d _ HYN.out HK2.out HD2.out).mono ?_
     rintro e w3 ⟨rfl, hb⟩
     have HB3 := As (below_step HB.out hb)
     have HG3 := As ((hb.block _ (blk_lt HG.out)).trans HG.out)
     obtain ⟨q, hq⟩ : ∃ q, min y.sz (d + 1) = q := ⟨_, rfl⟩
     have HQ := As hq
     have hqd : q ≤ d + 1 := by omega
     rw [hq]
     clear hb hq
     go_wp2
     go_roundw
     case rel => exact ⟨i + 1, m + q, by go_num, by go_num, by omega, ⟨by have := HM.out; have := HNX.out; have := HQ.out; omega⟩, HG3, HB3⟩
     case measure => simp [intOf]; omega
   ·have hlb : decide ((i : Int) < (x.l.length : Int)) = false := decide_eq_false (by omega)
    have he : i = x.l.length := by omega
    subst he
    have hR := As (show ((min x.sz (lim + 1) : Nat) : Int) = (m : Int) by have h1 := HM.out; have h2 := HSZ.out; rw [List.take_length] at h1; omega)
    go_wp2
    go_ret
    exact RetN.mk hR.out HB.out
/-
  The contracts of keep2.Args and kept (the bounds of the statements on values).
-/
section
variable {T : TypeId} {w : World} {ok : Nat → Prop} {xs : List Tr} {x : Tr}
/-- One element of a slice as a slice. -/
theorem LTr.one_at {A : Option Addr} {m c : Nat} (h : LTr T w ok (.slice A m c) xs) (i : Nat) (hi : i < xs.length) :
  ∃ b o, A = some ⟨b, o, none⟩ ∧ ∀ c', 1 ≤ c' → LTr T w ok (.slice (some ⟨b, o + i * 3, none⟩) 1 c') [xs.getD i z0] := by
 obtain ⟨b, o, A1, c1, rfl, _⟩ := h.at i hi
 obtain ⟨A', c', e, hc, hF⟩ := h
 simp at e
 obtain ⟨rfl, rfl, rfl⟩ := e
 refine ⟨b, o, rfl, fun c' hc' => ⟨_, c', rfl, hc', fun W' hW => ⟨rfl, by simp, fun _ => ⟨_, rfl, fun j p hj => ?_⟩⟩⟩⟩
 have hj0 : j = 0 := by
  have := (List.getElem?_eq_some_iff.1 hj).1
  simp at this
  exact this
 subst hj0
 simp at hj
 subst hj
 obtain ⟨ad, cs, e, hlen, hK, hcell⟩ := Kd.C_get (hF W' hW) z0 (i : Int) (by omega) (by omega)
 rw [Int.toNat_natCast] at hK hcell
 injection e with e
 subst e
 refine ⟨cs, hlen, ?_, fun j u hu => ?_⟩
 ·rw [List.getD_eq_getElem?_getD] at hK; exact hK
 ·have h1 := hcell j u hu
  have hs : (kTr T).sz = 3 := rfl
  rw [hs, tr_add] at h1
  rw [tr_add]
  simp only [Nat.zero_mul, Nat.zero_add]
  rw [Nat.add_assoc]
  exact h1
/-- A slice just built of one element. -/
theorem LTr.built {g : Nat} {a b : Int} {A : Option Addr} {m c : Nat} (hg : w.heap[g]? = some (.cells #[.int .i64 a, .int .i64 b, .slice A m c] T (0, 0))) (hok : ok g) (hx : ITr T w ok (.agg #[.int .i64 a, .int .i64 b, .slice A m c]) x) : LTr T w ok (.slice (some ⟨g, 0, none⟩) 1 1) [x] := by
 obtain ⟨A', c', e, hc, hF⟩ := hx
 simp at e
 obtain ⟨rfl, rfl, rfl, rfl, rfl⟩ := e
 have hgl := blk_lt hg
 refine ⟨_, 1, rfl, Nat.le_refl _, fun W' hW => ⟨rfl, by simp, fun _ => ⟨_, rfl, fun j p hj => ?_⟩⟩⟩
 have hj0 : j = 0 := by
  have := (List.getElem?_eq_some_iff.1 hj).1
  simp at this
  exact this
 subst hj0
 simp at hj
 subst hj
 have hg' : W'.heap[g]? = some (.cells #[.int .i64 x.k, .int .i64 x.n, .slice A x.l.length c] T (0, 0)) := (hW g hok hgl).trans hg
 refine ⟨[.int .i64 x.k, .int .i64 x.n, .slice A x.l.length c], rfl, kTr_mk W' x hc (hF W' hW), fun i u hu => ?_⟩
 rw [tr_add, Nat.zero_add]
 have h0 := cell_of_row W' g (0 * (kTr T).sz + i) _ _ (0, 0) hg'
 rw [h0, Nat.zero_mul, Nat.zero_add]
 rw [← hu]
 simp
end
/-- Few nodes in all, and few. -/
def fewB (xs : List Tr) : Bool := decide (szl xs ≤ 40) && decide (xs.length ≤ 6)
def RetB (b : Bool) (w0 : World) (e : Ending) (w' : World) : Prop := e = .returned (.bool b) ∧ Below w0.heap.size w0 w'
theorem RetB.mk {n m : Bool} {w0 w' : World} (h : m = n) (hb : Below w0.heap.size w0 w') : RetB m w0 (.returned (.bool n)) w' := by rw [h]; exact ⟨rfl, hb⟩
set_option maxHeartbeats 1000000 in
theorem args_few (ok : Nat → Prop) (v : Value) (xs : List Tr) (w : World) (h : LTr 28 w ok v xs) :
  Calls Tryz.prog 14 #[v] w (RetB (fewB xs) w) := by
 have hmx := h.max
 obtain ⟨A, c, rfl, hc, hF⟩ := h
 have HL := As (show LTr 28 w ok (.slice A xs.length c) xs from ⟨A, c, rfl, hc, hF⟩)
 have HB := As (Below.refl w.heap.size w)
 clear hF
 go_enter Tryz.func14, Tryz.ntmps14
 go_wp2
 go_loopw [3, 7] (fun v3 v7 wr => ∃ i m : Nat, v7 = .int .i64 i ∧ v3 = .int .i64 m ∧ i ≤ xs.length ∧ m ≤ 40 ∧ Aside0 (m = szl (xs.take i)) ∧ Aside0 (Below w.heap.size w wr)) (fun _ v7 _ => xs.length - (intOf v7).toNat)
 case atStart => exact ⟨0, 0, rfl, rfl, Nat.zero_le _, Nat.zero_le _, ⟨by rw [List.take_zero, szl]⟩, HB⟩
 case round =>
  clear HB
  obtain ⟨i, m, rfl, rfl, hi, hm, HM, HB⟩ := hrel
  by_cases hlt : i < xs.length
  ·have hlb : decide ((i : Int) < (xs.length : Int)) = true := decide_eq_true (by omega)
   obtain ⟨b, o, A1, c1, rfl, p0, p1, p2, hkid⟩ := (HL.out.below HB.out).at i hlt
   have HNX := As (szl_next hlt)
   have HLE := As (szl_le xs (i + 1))
   obtain ⟨y, hy⟩ : ∃ y, xs.getD i z0 = y := ⟨_, rfl⟩
   rw [hy] at p0 p1 p2 hkid HNX
   have HK2 := As hkid
   obtain ⟨d, hd⟩ : ∃ d, 41 - m = d := ⟨_, rfl⟩
   have HD2 := As (show d ≤ 1000000 by omega)
   have hdd : (41 : Int) - (m : Int) = (d : Int) := by omega
   clear hkid hy
   go_wp2_with fail
   with_reducible refine (nodes_kept y.sz y ok _ d _ (Nat.le_refl _) HK2.out HD2.out).mono ?_
   rintro e w3 ⟨rfl, hb⟩
   have HB3 := As (below_step HB.out hb)
   obtain ⟨q, hq⟩ : ∃ q, min y.sz (d + 1) = q := ⟨_, rfl⟩
   have HQ := As hq
   have hqd : q ≤ d + 1 := by omega
   rw [hq]
   clear hb hq
   by_cases hgt : 40 < m + q
   ·have hgb : decide ((40 : Int) < (m : Int) + (q : Int)) = true := decide_eq_true (by omega)
    have hgn : 40 < m + q := hgt
    have hR := As (show fewB xs = false by unfold fewB; rw [decide_eq_false (by have := HM.out; have := HNX.out; have := HQ.out; have := HLE.out; omega), Bool.false_and])
    go_wp2
    go_ret
    exact RetB.mk hR.out HB3.out
   ·have hgb : decide ((40 : Int) < (m : Int) + (q : Int)) = false := decide_eq_false (by omega)
    have hgn : decide (40 < m + q) = false := decide_eq_false hgt
    go_wp2
    go_roundw
    case rel => exact ⟨i + 1, m + q, by go_num, by go_num, by omega, by omega, ⟨by have := HM.out; have := HNX.out; have := HQ.out; omega⟩, HB3⟩
    case measure => simp [intOf]; omega
  ·have hlb : decide ((i : Int) < (xs.length : Int)) = false := decide_eq_false (by omega)
   have he : i = xs.length := by omega
   subst he
   have hR := As (show fewB xs = decide ((xs.length : Int) ≤ 6) by rw [show decide ((xs.length : Int) ≤ 6) = decide (xs.length ≤ 6) from decide_eq_decide.2 (by omega)]; have h1 := HM.out; rw [List.take_length] at h1; unfold fewB; rw [decide_eq_true (by omega), Bool.true_and])
   go_wp2
   go_ret
   exact RetB.mk hR.out HB.out
/-
  The contract of kept (FitChains' and FitGrows' bounds).
-/
def keptB (nd : Nat) (ps : List Tr) (x : Tr) : Bool := (decide (nd ≤ 2) && decide (ps.length ≤ 4) && fewB [x]) && ps.all (fun p => fewB [p])
theorem all_upto' {ps : List Tr} {f : Tr → Bool} (h : ∀ j, j < ps.length → f (ps.getD j z0) = true) : ps.all f = true := by
 rw [List.all_eq_true]
 intro x hx
 obtain ⟨j, hj, rfl⟩ := List.mem_iff_getElem.1 hx
 have := h j hj
 rwa [List.getD_eq_getElem?_getD, List.getElem?_eq_getElem hj] at this
theorem all_not' {ps : List Tr} {f : Tr → Bool} {j : Nat} (hj : j < ps.length) (h : f (ps.getD j z0) = false) : ps.all f = false := by
 rw [List.getD_eq_getElem?_getD, List.getElem?_eq_getElem hj] at h
 rw [List.all_eq_false]
 exact ⟨ps[j], List.getElem_mem hj, by simpa using h⟩
set_option maxHeartbeats 2000000 in
theorem kept_val (ok : Nat → Prop) (Ad : Option Addr) (nd cd : Nat) (v1 v2 : Value) (ps : List Tr) (x : Tr) (w : World) (hok : ∀ k, w.heap.size ≤ k → ok k) (hnd : nd ≤ 9223372036854775807) (h1 : LTr 28 w ok v1 ps) (h2 : ITr 28 w ok v2 x) :
  Calls Tryz.prog 5 #[.slice Ad nd cd, v1, v2] w (RetB (keptB nd ps x) w) := by
 have hmx := h1.max
 have H2 := As h2
 obtain ⟨A, c, rfl, hc, hF⟩ := h1
 obtain ⟨B, e, rfl, he, hG⟩ := h2
 have HL := As (show LTr 28 w ok (.slice A ps.length c) ps from ⟨A, c, rfl, hc, hF⟩)
 obtain ⟨W1, hW1⟩ : ∃ W1, w.alloc (.cells #[.int .i64 x.k, .int .i64 x.n, .slice B x.l.length e] 28) = W1 := ⟨_, rfl⟩
 have HW1 := As hW1
 have hb1 : Below w.heap.size w W1 := by rw [← hW1]; exact below_alloc (Below.refl _ _) _
 have HB := As hb1
 have hg1 : W1.heap[w.heap.size]? = some (.cells #[.int .i64 x.k, .int .i64 x.n, .slice B x.l.length e] 28 (0, 0)) := by rw [← hW1]; exact heap_alloc_new _ _
 have hz0 : W1.cell? ⟨w.heap.size, 0, none⟩ = some (.int .i64 x.k) := by rw [cell_of_row W1 _ 0 _ _ (0, 0) hg1]; rfl
 have hz1 : W1.cell? ⟨w.heap.size, 1, none⟩ = some (.int .i64 x.n) := by rw [cell_of_row W1 _ 1 _ _ (0, 0) hg1]; rfl
 have hz2 : W1.cell? ⟨w.heap.size, 2, none⟩ = some (.slice B x.l.length e) := by rw [cell_of_row W1 _ 2 _ _ (0, 0) hg1]; rfl
 obtain ⟨W2, hW2⟩ : ∃ W2, W1.alloc (.cells #[.int .i64 x.k, .int .i64 x.n, .slice B x.l.length e] 28) = W2 := ⟨_, rfl⟩
 have HW2 := As hW2
 have hb2 : Below W1.heap.size W1 W2 := by rw [← hW2]; exact below_alloc (Below.refl _ _) _
 have HB2 := As (below_step hb1 hb2)
 have hs1 : W1.heap.size = w.heap.size + 1 := by rw [← hW1]; show (w.heap.push _).size = _; simp
 have HX2 := As (show LTr 28 W2 ok (.slice (some ⟨w.heap.size + 1, 0, none⟩) 1 1) [x] from LTr.built (by rw [← hs1, ← hW2]; exact heap_alloc_new _ _) (hok _ (by omega)) ((H2.out.below hb1).below hb2))
 clear hF hG hW1 hW2 hg1 hb1 hb2 hok hs1
 by_cases hn2 : nd ≤ 2
 ·have d2 : decide ((2 : Int) < (nd : Int)) = false := decide_eq_false (by omega)
  have d2n : decide (2 < nd) = false := decide_eq_false (by omega)
  have E2 := As (show decide (nd ≤ 2) = true from decide_eq_true hn2)
  by_cases hp4 : ps.length ≤ 4
  ·have d4 : decide ((4 : Int) < (ps.length : Int)) = false := decide_eq_false (by omega)
   have d4n : decide (4 < ps.length) = false := decide_eq_false (by omega)
   have E4 := As (show decide (ps.length ≤ 4) = true from decide_eq_true hp4)
   rcases hfx : fewB [x] with _ | _
   ·have E := As (show keptB nd ps x = false by unfold keptB; rw [hfx, Bool.and_false, Bool.false_and])
    have HFX := As hfx
    clear hfx
    go_enter Tryz.func5, Tryz.ntmps5
    go_wp2_with fail
    rw [HW1.out]
    go_wp2_with fail
    rw [HW2.out]
    with_reducible refine (args_few ok _ [x] _ HX2.out).mono ?_
    rintro e5 w5 ⟨rfl, hb⟩
    rw [HFX.out]
    have HB5 := As (below_step HB2.out hb)
    clear hb
    go_wp2
    go_ret
    exact RetB.mk E.out HB5.out
   ·have E := As (show keptB nd ps x = ps.all (fun p => fewB [p]) by unfold keptB; rw [hfx, E2.out, E4.out]; rfl)
    have HFX := As hfx
    clear hfx
    go_enter Tryz.func5, Tryz.ntmps5
    go_wp2_with fail
    rw [HW1.out]
    go_wp2_with fail
    rw [HW2.out]
    with_reducible refine (args_few ok _ [x] _ HX2.out).mono ?_
    rintro e5 w5 ⟨rfl, hb⟩
    rw [HFX.out]
    have HB5 := As (below_step HB2.out hb)
    clear hb hz0 hz1 hz2
    go_wp2
    go_loopw [24] (fun v7 wr => ∃ i : Nat, v7 = .int .i64 i ∧ i ≤ ps.length ∧ Aside0 (∀ j, j < i → fewB [ps.getD j z0] = true) ∧ Aside0 (Below w.heap.size w wr)) (fun v7 _ => ps.length - (intOf v7).toNat)
    case atStart => exact ⟨0, rfl, Nat.zero_le _, ⟨fun j hj => absurd hj (Nat.not_lt_zero _)⟩, HB5⟩
    case round =>
     clear HB5 HB HB2
     obtain ⟨i, rfl, hi, HK, HB⟩ := hrel
     by_cases hlt : i < ps.length
     ·have hlb : decide ((i : Int) < (ps.length : Int)) = true := decide_eq_true (by omega)
      obtain ⟨b, o, rfl, hone⟩ := (HL.out.below HB.out).one_at i hlt
      have HO := As (hone (c - i) (by omega))
      clear hone
      go_wp2_with fail
      with_reducible refine (args_few ok _ _ _ HO.out).mono ?_
      rintro e6 w6 ⟨rfl, hb⟩
      have HB6 := As (below_step HB.out hb)
      rcases hfy : fewB [ps.getD i z0] with _ | _
      ·have HA := As (show ps.all (fun p => fewB [p]) = false from all_not' (f := fun p => fewB [p]) hlt hfy)
       clear hb hfy
       go_wp2
       go_ret
       exact RetB.mk (by rw [E.out, HA.out]) HB6.out
      ·have HY := As hfy
       clear hb hfy
       go_wp2
       go_roundw
       case rel => exact ⟨i + 1, by go_num, by omega, ⟨fun j hj => by rcases Nat.lt_or_ge j i with h | h; exact HK.out j h; rw [show j = i by omega]; exact HY.out⟩, HB6⟩
       case measure => simp [intOf]; omega
     ·have hlb : decide ((i : Int) < (ps.length : Int)) = false := decide_eq_false (by omega)
      have HA := As (show ps.all (fun p => fewB [p]) = true from all_upto' (f := fun p => fewB [p]) (fun j hj => HK.out j (by omega)))
      go_wp2
      go_ret
      exact RetB.mk (by rw [E.out, HA.out]) HB.out
  ·have d4 : decide ((4 : Int) < (ps.length : Int)) = true := decide_eq_true (by omega)
   have d4n : decide (4 < ps.length) = true := decide_eq_true (by omega)
   have E := As (show keptB nd ps x = false by unfold keptB; rw [decide_eq_false hp4, Bool.and_false, Bool.false_and, Bool.false_and])
   go_enter Tryz.func5, Tryz.ntmps5
   go_wp2_with fail
   rw [HW1.out]
   go_wp2
   go_ret
   exact RetB.mk E.out HB.out
 ·have d2 : decide ((2 : Int) < (nd : Int)) = true := decide_eq_true (by omega)
  have d2n : decide (2 < nd) = true := decide_eq_true (by omega)
  have E := As (show keptB nd ps x = false by unfold keptB; rw [decide_eq_false hn2, Bool.false_and, Bool.false_and, Bool.false_and])
  go_enter Tryz.func5, Tryz.ntmps5
  go_wp2_with fail
  rw [HW1.out]
  go_wp2
  go_ret
  exact RetB.mk E.out HB.out
/-
  Slices of trees that the call makes; the contracts of clone.each and clone.Value.
-/
abbrev zeroT : Value := .agg #[.int .i64 0, .int .i64 0, .slice none 0 0]
theorem info_val : (Tryz.prog.info? 28).map (fun i => (i.zero, i.size, i.bytes)) = some (some zeroT, 3, 40) := by kernel_rfl
theorem info_typ : (Tryz.prog.info? 25).map (fun i => (i.zero, i.size, i.bytes)) = some (some zeroT, 3, 40) := by kernel_rfl
/-- A row of trees of the call's own. -/
def NTr (T : TypeId) (w : World) (base : Nat) (ok : Nat → Prop) (v : Value) (xs : List Tr) : Prop := Kd.N (kTr T) T w base ok v xs
section
variable {T : TypeId} {w w1 W : World} {base : Nat} {ok ok' : Nat → Prop} {x : Tr} {v : Value} {xs : List Tr}
theorem NTr.lt (h : NTr T w base ok v xs) : LTr T w ok v xs := by
 obtain ⟨A, c, rfl⟩ := Kd.N_slice h
 exact ⟨A, c, rfl, (Kd.N_reads' h).2.1, Kd.N_F h⟩
theorem NTr.nil (T : TypeId) (w : World) (base : Nat) (ok : Nat → Prop) : NTr T w base ok (.slice none 0 0) [] := Kd.N_nil _ _ _ _ _
theorem NTr.below (h : NTr T w base ok v xs) (hb : Below w.heap.size w w1) : NTr T w1 base ok v xs := Kd.N_below h hb
theorem ITr.fk {A : Option Addr} {a b : Int} {m c : Nat} (h : ITr T w ok (.agg #[.int .i64 a, .int .i64 b, .slice A m c]) x) : Kd.FK (kTr T) w ok x [.int .i64 a, .int .i64 b, .slice A m c] := by
 obtain ⟨A', c', e, hc, hF⟩ := h
 simp at e
 obtain ⟨rfl, rfl, rfl, rfl, rfl⟩ := e
 exact kTr_mkF w ok x hc hF
theorem ITr.shape (h : ITr T w ok v x) : ∃ A c, v = .agg #[.int .i64 x.k, .int .i64 x.n, .slice A x.l.length c] := by
 obtain ⟨A, c, e, _⟩ := h
 exact ⟨A, c, e⟩
theorem NTr.fresh (h : NTr T w base ok v xs) (hok : ∀ k, base ≤ k → ok k) (hb : base ≤ w.heap.size) : ∀ k, w.heap.size ≤ k → ok k ∧ some k ≠ v.ownBlock := fun k hk => ⟨hok k (by omega), fun he => by have := Kd.N_lt h k he.symm; omega⟩
end
section
variable {P : Program} {ops : Array Oper} {rest : List Oper} {o : Oper} {a : Act} {Q : Exit → Act → World → Prop}
/-- append(v, x), behind the slice [x] -/
theorem tr_append {w0 W : World} {base : Nat} (hgd : o.guard = none) (s x : Operand) (t e : TypeId)
  (ho : o.op = .call { callee := .builtin .append, args := #[s, x], argTypes := #[t, t] })
  (ht : P.underlying t = some (.slice e)) (hinfo : (P.info? e).map (fun i => (i.zero, i.size, i.bytes)) = some (some zeroT, 3, 40))
  (v : Value) (xs : List Tr) (y : Tr) {i j : Int} {A : Option Addr} {m c : Nat} (ok : Nat → Prop) (hs : a.eval s = v) (hx : a.eval x = .slice (some ⟨W.heap.size, 0, none⟩) 1 1)
  (hp : ITr e W (fun k => ok k ∧ some k ≠ v.ownBlock) (.agg #[.int .i64 i, .int .i64 j, .slice A m c]) y) (hfresh : ∀ k, W.heap.size ≤ k → ok k)
  (HO : NTr e W base ok v xs) (HB : Below base w0 W) (hbase : base ≤ W.heap.size) (hl : xs.length ≤ 1000000000)
  (h : ∀ v1 w1, NTr e w1 base ok v1 (xs ++ [y]) → Below base w0 w1 → wpList P ops Q rest (a.put o.dst v1) w1) :
  wpList P ops Q (o :: rest) a (W.alloc (.cells #[.int .i64 i, .int .i64 j, .slice A m c] e)) := by
 refine Kd.N_append (kTr e) base hgd s x t e zeroT 40 ho ht hinfo rfl (by show 0 < 3; decide) (by decide) v xs y [.int .i64 i, .int .i64 j, .slice A m c] ok (fun k => ok k ∧ some k ≠ v.ownBlock) hs hx hp.fk (fun k hk => hk) hfresh HO HB hbase (by omega) ?_
 intro v1 w1 h4 hb hg hat
 exact h v1 w1 h4 hb
end
theorem far3 {w : World} {g h o : Nat} {a b c v : Value} (hne : h ≠ g) (hc : w.cell? ⟨h, o, none⟩ = some v) : (((w.setCell ⟨g, 0, none⟩ a).setCell ⟨g, 1, none⟩ b).setCell ⟨g, 2, none⟩ c).cell? ⟨h, o, none⟩ = some v := by
 rw [← hc]
 simp only [World.cell?]
 rw [Below.heap_setCell _ _ _ _ hne, Below.heap_setCell _ _ _ _ hne, Below.heap_setCell _ _ _ _ hne]
def RetTr1 (T : TypeId) (ok : Nat → Prop) (x : Tr) (w0 : World) (e : Ending) (w' : World) : Prop := ∃ v, e = .returned v ∧ ITr T w' ok v x ∧ Below w0.heap.size w0 w'
def RetTrs (T : TypeId) (ok : Nat → Prop) (xs : List Tr) (w0 : World) (e : Ending) (w' : World) : Prop := ∃ v, e = .returned v ∧ LTr T w' ok v xs ∧ Below w0.heap.size w0 w'
theorem length_le_szl (xs : List Tr) : xs.length ≤ szl xs := by
 induction xs with
 | nil => exact Nat.zero_le _
 | cons x xs ih => rw [szl, List.length_cons, x.sz_eq]; omega
theorem take_next {xs : List Tr} {i : Nat} (h : i < xs.length) : xs.take i ++ [xs.getD i z0] = xs.take (i + 1) := by
 rw [List.take_add_one, List.getD_eq_getElem?_getD, List.getElem?_eq_getElem h]
 rfl
set_option maxRecDepth 100000 in
set_option maxHeartbeats 2000000 in
theorem each_val (ok : Nat → Prop) (v : Value) (xs : List Tr) (w : World) (hok : ∀ k, w.heap.size ≤ k → ok k) (h : LTr 28 w ok v xs) (hl : xs.length ≤ 1000000)
  (hf : ∀ i, i < xs.length → ∀ (ok' : Nat → Prop) (v' : Value) (w' : World), (∀ k, w'.heap.size ≤ k → ok' k) → ITr 28 w' ok' v' (xs.getD i z0) → Calls Tryz.prog 34 #[v'] w' (RetTr1 28 ok' (xs.getD i z0) w')) :
  Calls Tryz.prog 58 #[v, .func (.func 34) #[] #[]] w (RetTrs 28 ok xs w) := by
 obtain ⟨A, c, rfl, hc, hF⟩ := h
 have HL := As (show LTr 28 w ok (.slice A xs.length c) xs from ⟨A, c, rfl, hc, hF⟩)
 have HB := As (Below.refl w.heap.size w)
 have HOK := As hok
 have HFN := As hf
 clear hF hok hf
 go_enter Tryz.func58, Tryz.ntmps58
 go_wp2
 go_loopw [5, 10] (fun v5 v10 wr => ∃ i : Nat, v10 = .int .i64 i ∧ i ≤ xs.length ∧ Aside0 (NTr 28 wr w.heap.size ok v5 (xs.take i)) ∧ Aside0 (Below w.heap.size w wr)) (fun _ v10 _ => xs.length - (intOf v10).toNat)
 case atStart => exact ⟨0, rfl, Nat.zero_le _, ⟨NTr.nil _ _ _ _⟩, HB⟩
 case round =>
  clear HB
  obtain ⟨i, rfl, hi, HO, HB⟩ := hrel
  by_cases hlt : i < xs.length
  ·have hlb : decide ((i : Int) < (xs.length : Int)) = true := decide_eq_true (by omega)
   obtain ⟨okk, hokk⟩ : ∃ okk : Nat → Prop, okk = fun k => ok k ∧ some k ≠ u5.ownBlock := ⟨_, rfl⟩
   have HOKK := As hokk
   have HOKr := As (show ∀ k, wr.heap.size ≤ k → okk k from fun k hk => by rw [hokk]; exact HO.out.fresh HOK.out HB.out.size k hk)
   have HLr := (HL.out.old HB.out).mono (ok' := okk) (fun k hk => by rw [hokk]; exact ⟨hk.1, fun he => by have := Kd.N_base HO.out k he.symm; have := hk.2; omega⟩)
   obtain ⟨b, o, A1, c1, rfl, p0, p1, p2, hkid⟩ := HLr.at i hlt
   have HFi := As (HFN.out i hlt)
   have HTN := As (take_next hlt)
   obtain ⟨y, hy⟩ : ∃ y, xs.getD i z0 = y := ⟨_, rfl⟩
   rw [hy] at p0 p1 p2 hkid HFi HTN
   obtain ⟨W2, hW2⟩ : ∃ W2, wr.alloc (.cells #[.int .i64 y.k, .int .i64 y.n, .slice A1 y.l.length c1] 28) = W2 := ⟨_, rfl⟩
   have HW2 := As hW2
   have hb2 : Below wr.heap.size wr W2 := by rw [← hW2]; exact below_alloc (Below.refl _ _) _
   have HB2 := As (below_step HB.out hb2)
   have HK2 := As (hkid.below hb2)
   have HO2 := As (HO.out.below hb2)
   have HOK2 := As (show ∀ k, W2.heap.size ≤ k → okk k from fun k hk => HOKr.out k (Nat.le_trans hb2.size hk))
   clear hb2 hW2 hkid hy hokk HLr
   go_wp2_with fail
   rw [HW2.out]
   with_reducible refine (HFi.out okk _ W2 HOK2.out HK2.out).mono ?_
   rintro e w3 ⟨v3, rfl, hv, hb⟩
   have HV := As hv
   obtain ⟨A4, c4, rfl⟩ := hv.shape
   rw [HOKK.out] at HV
   have HB3 := As (below_step HB2.out hb)
   have HO3 := As (HO2.out.below hb)
   have HOK3 := As (show ∀ k, w3.heap.size ≤ k → ok k from fun k hk => HOK.out k (Nat.le_trans HB3.out.size hk))
   have HLI := As (show (xs.take i).length ≤ 1000000000 by rw [List.length_take]; omega)
   clear hv hb
   go_wp2_with ((with_reducible refine gate_builtin (b := .append) (xs := #[.tmp 14, .tmp 18]) rfl ?_); at_builtin; refine tr_append (w0 := w) (base := w.heap.size) rfl (.tmp 14) (.tmp 18) 26 28 rfl Tryz.underlying26 info_val u5 (xs.take i) y ok rfl rfl HV.out HOK3.out HO3.out HB3.out HB3.out.size HLI.out ?_; intro v5 w5 hr_ hb_; rw [HTN.out] at hr_; have HO5 := As hr_; have HB5 := As hb_; clear hr_ hb_)
   go_roundw
   case rel => exact ⟨i + 1, by go_num, by omega, HO5, HB5⟩
   case measure => simp [intOf]; omega
  ·have hlb : decide ((i : Int) < (xs.length : Int)) = false := decide_eq_false (by omega)
   have he : i = xs.length := by omega
   subst he
   rw [List.take_length] at HO
   go_wp2
   go_ret
   exact ⟨_, rfl, HO.out.lt, HB.out⟩
set_option maxRecDepth 100000 in
set_option maxHeartbeats 2000000 in
theorem clone_val (N : Nat) : ∀ (x : Tr) (ok : Nat → Prop) (v : Value) (w : World), x.sz ≤ N → (∀ k, w.heap.size ≤ k → ok k) → ITr 28 w ok v x → x.sz ≤ 1000000 →
  Calls Tryz.prog 34 #[v] w (RetTr1 28 ok x w) := by
 induction N with
 | zero => intro x ok v w h; have := x.sz_eq; omega
 | succ N ih =>
  intro x ok v w hN hok hx h2
  obtain ⟨A, c, rfl, hc, hF⟩ := hx
  have hmx := Kd.F_max hF
  have HL := As (show LTr 28 w ok (.slice A x.l.length c) x.l from ⟨A, c, rfl, hc, hF⟩)
  have HLL := As (show x.l.length ≤ 1000000 by have := length_le_szl x.l; have := x.sz_eq; omega)
  have HFN := As (show ∀ i, i < x.l.length → ∀ (ok' : Nat → Prop) (v' : Value) (w' : World), (∀ k, w'.heap.size ≤ k → ok' k) → ITr 28 w' ok' v' (x.l.getD i z0) → Calls Tryz.prog 34 #[v'] w' (RetTr1 28 ok' (x.l.getD i z0) w') from fun i hi ok' v' w' hok' hx' => ih _ ok' v' w' (by have := kid_sz hi; omega) hok' hx' (by have := kid_sz hi; omega))
  obtain ⟨okk, hokk⟩ : ∃ okk : Nat → Prop, okk = fun k => ok k ∧ k ≠ w.heap.size + 1 := ⟨_, rfl⟩
  obtain ⟨W1, hW1⟩ : ∃ W1, w.alloc (.cells #[.int .i64 x.k, .int .i64 x.n, .slice A x.l.length c] 28) = W1 := ⟨_, rfl⟩
  obtain ⟨Wb, hWb⟩ : ∃ Wb, W1.alloc (.cells #[.int .i64 0, .int .i64 0, .slice none 0 0] 28) = Wb := ⟨_, rfl⟩
  obtain ⟨W2, hWd⟩ : ∃ W2, Wb.drew = W2 := ⟨_, rfl⟩
  have hW2 : ((w.alloc (.cells #[.int .i64 x.k, .int .i64 x.n, .slice A x.l.length c] 28)).alloc (.cells #[.int .i64 0, .int .i64 0, .slice none 0 0] 28)).drew = W2 := by rw [hW1, hWb]; exact hWd
  have hs1 : W1.heap.size = w.heap.size + 1 := by rw [← hW1]; show (w.heap.push _).size = _; simp
  have hb1 : Below w.heap.size w W1 := by rw [← hW1]; exact below_alloc (Below.refl _ _) _
  have hbb : Below W1.heap.size W1 Wb := by rw [← hWb]; exact below_alloc (Below.refl _ _) _
  have hbd : Below Wb.heap.size Wb W2 := by rw [← hWd]; exact below_drew1 (Below.refl _ _)
  have hb2 := below_step (below_step hb1 hbb) hbd
  have hg1 : W1.heap[w.heap.size]? = some (.cells #[.int .i64 x.k, .int .i64 x.n, .slice A x.l.length c] 28 (0, 0)) := by rw [← hW1]; exact heap_alloc_new _ _
  have hgb : Wb.heap[W1.heap.size]? = some (.cells #[.int .i64 0, .int .i64 0, .slice none 0 0] 28 (0, 0)) := by rw [← hWb]; exact heap_alloc_new _ _
  have hg2 : W2.heap[w.heap.size + 1]? = some (.cells #[.int .i64 0, .int .i64 0, .slice none 0 0] 28 (0, 0)) := by rw [← hs1]; exact (hbd.block _ (blk_lt hgb)).trans hgb
  have hgp := ((below_step hbb hbd).block _ (blk_lt hg1)).trans hg1
  have b0 : W2.cell? ⟨w.heap.size, 0, none⟩ = some (.int .i64 x.k) := by rw [cell_of_row W2 _ 0 _ _ (0, 0) hgp]; rfl
  have b1 : W2.cell? ⟨w.heap.size, 1, none⟩ = some (.int .i64 x.n) := by rw [cell_of_row W2 _ 1 _ _ (0, 0) hgp]; rfl
  have b2 : W2.cell? ⟨w.heap.size, 2, none⟩ = some (.slice A x.l.length c) := by rw [cell_of_row W2 _ 2 _ _ (0, 0) hgp]; rfl
  have HW2 := As hW2
  have HB2 := As hb2
  have HG2 := As hg2
  have HOKK := As hokk
  have HOK2 := As (show ∀ k, W2.heap.size ≤ k → okk k from fun k hk => by rw [hokk]; have := blk_lt hg2; exact ⟨hok k (Nat.le_trans hb2.size hk), by omega⟩)
  have HL2 := As (show LTr 28 W2 okk (.slice A x.l.length c) x.l from (HL.out.old hb2).mono (fun k hk => by rw [hokk]; exact ⟨hk.1, by have := hk.2; omega⟩))
  clear ih hF hW2 hs1 hW1 hWb hWd hb1 hbb hbd hb2 hg1 hgb hgp hg2 hokk hok
  go_enter Tryz.func34, Tryz.ntmps34
  go_upto_region 1 with fail
  go_region_held3 (fun w' => w'.cell? ⟨w.heap.size, 0, none⟩ = some (.int .i64 x.k) ∧ w'.cell? ⟨w.heap.size, 1, none⟩ = some (.int .i64 x.n) ∧ w'.cell? ⟨w.heap.size, 2, none⟩ = some (.slice A x.l.length c)) (first | exact ⟨b0, b1, b2⟩ | exact ⟨c0, c1, c2⟩ | (rw [HW2.out]; exact ⟨b0, b1, b2⟩) | exact ⟨far3 (by omega) c0, far3 (by omega) c1, far3 (by omega) c2⟩) (first | (go_at_call 58; rw [HW2.out]; ((with_reducible refine (each_val okk _ x.l _ HOK2.out HL2.out HLL.out HFN.out).mono ?_); rintro e w3 ⟨v3, rfl, hv, hb⟩; have HV := As hv; (obtain ⟨A4, c4, rfl, _, _⟩ := hv); have HB3 := As (below_step HB2.out hb); have hg3 := (hb.block _ (blk_lt HG2.out)).trans HG2.out; have hgl := blk_lt hg3; (have c0 := pw_cell_below hb b0); (have c1 := pw_cell_below hb b1); (have c2 := pw_cell_below hb b2); (have k0 : w3.cell? ⟨w.heap.size + 1, 0, none⟩ = some (.int .i64 0) := by rw [cell_of_row w3 _ 0 _ _ (0, 0) hg3]; rfl); (have k1 : w3.cell? ⟨w.heap.size + 1, 1, none⟩ = some (.int .i64 0) := by rw [cell_of_row w3 _ 1 _ _ (0, 0) hg3]; rfl); (have k2 : w3.cell? ⟨w.heap.size + 1, 2, none⟩ = some (.slice none 0 0) := by rw [cell_of_row w3 _ 2 _ _ (0, 0) hg3]; rfl); (have f0 := blk_frozen hg3 0); (have f1 := blk_frozen hg3 1); (have f2 := blk_frozen hg3 2); clear hb hg3)))
  have HF := As (show ITr 28 w3 okk (.agg #[.int .i64 x.k, .int .i64 x.n, .slice A4 x.l.length c4]) x from ITr.mk HV.out)
  go_wp2
  refine bodyPost_ret (v := .agg #[.int .i64 x.k, .int .i64 x.n, .slice A4 x.l.length c4]) (by simp [results, Tryz.results34, go_sem, hgl, k0, k1, k2]) rfl ⟨_, rfl, ?_, ?_⟩
  ·refine (HF.out.step (fun k hk _ => ?_)).mono (fun k hk => ?_)
   ·rw [HOKK.out] at hk
    rw [Below.heap_setCell _ _ _ _ hk.2, Below.heap_setCell _ _ _ _ hk.2, Below.heap_setCell _ _ _ _ hk.2]
   ·rw [HOKK.out] at hk
    exact hk.1
  ·exact below_set (below_set (below_set HB3.out (Nat.le_succ _)) (Nat.le_succ _)) (Nat.le_succ _)
end Go.Proofs.YtldkcpgnccknpaaGreat
