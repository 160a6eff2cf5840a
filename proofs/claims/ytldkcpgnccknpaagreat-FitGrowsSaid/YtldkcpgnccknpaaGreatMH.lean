/-
  The parts BinG, BinH, BinI, BinJ, BinK: the contracts of the program's functions and the plain laws below them; each part's own remark says which.
-/
import Derived.Test.YtldkcpgnccknpaaGreatMF
import Derived.Test.YtldkcpgnccknpaaGreatWNEv
import Derived.Test.YtldkcpgnccknpaaGreatMG
import Derived.Deep.RegionWith
set_option linter.unusedVariables false
set_option linter.unusedSimpArgs false
/-
  Slices of numbers that the call makes.
-/
namespace Go.Proofs.YtldkcpgnccknpaaGreat
open Go.RowKit Go.Proofs.YtldkcpgnccknpaaGreatW.PrintWords Go.Proofs.YtldkcpgnccknpaaGreatW.PrintMore Go.Proofs.YtldkcpgnccknpaaGreatW.PrintLast Num
set_option linter.unusedVariables false
/-- A row of numbers of the call's own (a slice's, or an array's), that are qs, of at most k limbs a side. -/
def RN (T : TypeId) (w : World) (base : Nat) (ok : Nat → Prop) (v : Value) (qs : List Rat) (k : Nat) : Prop := ∃ xs, Kd.N kRat T w base ok v xs ∧ qs = xs.map qv ∧ ∀ x ∈ xs, okN k x
abbrev zeroR : Value := .agg #[.bool false, .slice none 0 0, .slice none 0 0]
def put3o (w : World) (g o : Nat) (c0 c1 c2 : Value) : World := ((w.setCell ⟨g, o, none⟩ c0).setCell ⟨g, o + 1, none⟩ c1).setCell ⟨g, o + 2, none⟩ c2
theorem fk_mk {w : World} {ok : Nat → Prop} {b : Bool} {A A' : Option Addr} {c c' : Nat} {nl dl : List Int} (h1 : U w ok (.slice A nl.length c) nl) (h2 : U w ok (.slice A' dl.length c') dl) : Kd.FK kRat w ok (b, nl, dl) [.bool b, .slice A nl.length c, .slice A' dl.length c'] := by
 obtain ⟨A1, c1, e1, hl1, hF1⟩ := h1
 obtain ⟨A2, c2, e2, hl2, hF2⟩ := h2
 obtain ⟨rfl, rfl⟩ : A = A1 ∧ c = c1 := by simpa using e1
 obtain ⟨rfl, rfl⟩ : A' = A2 ∧ c' = c2 := by simpa using e2
 intro W' hW
 exact ⟨[.bool b], _, rfl, rfl, [.slice A nl.length c], [.slice A' dl.length c'], rfl, ⟨A, c, rfl, hl1, hF1 W' hW⟩, ⟨A', c', rfl, hl2, hF2 W' hW⟩⟩
theorem fk_zero (w : World) (ok : Nat → Prop) : Kd.FK kRat w ok rz [.bool false, .slice none 0 0, .slice none 0 0] := fk_mk (U.nil w ok) (U.nil w ok)
theorem fk_open {w : World} {ok : Nat → Prop} {x : RawN} {c : List Value} (h : Kd.FK kRat w ok x c) : ∃ A1 c1 A2 c2, c = [.bool x.1, .slice A1 x.2.1.length c1, .slice A2 x.2.2.length c2] ∧ U w ok (.slice A1 x.2.1.length c1) x.2.1 ∧ U w ok (.slice A2 x.2.2.length c2) x.2.2 := by
 obtain ⟨c0, c1, rfl, h0, c2, c3, rfl, ⟨A1, k1, rfl, hl1, hC1⟩, ⟨A2, k2, rfl, hl2, hC2⟩⟩ := h w (fun _ _ _ => rfl)
 have h0' : c0 = [.bool x.1] := h0
 subst h0'
 refine ⟨A1, k1, A2, k2, rfl, ⟨A1, k1, rfl, hl1, fun W' hW => ?_⟩, ⟨A2, k2, rfl, hl2, fun W' hW => ?_⟩⟩
 ·obtain ⟨d0, d1, e1, h0, d2, d3, rfl, ⟨B1, j1, rfl, hm1, hD1⟩, ⟨B2, j2, rfl, hm2, hD2⟩⟩ := h W' hW
  have h0' : d0 = [.bool x.1] := h0
  subst h0'
  simp at e1
  rw [e1.1.1]
  exact hD1
 ·obtain ⟨d0, d1, e1, h0, d2, d3, rfl, ⟨B1, j1, rfl, hm1, hD1⟩, ⟨B2, j2, rfl, hm2, hD2⟩⟩ := h W' hW
  have h0' : d0 = [.bool x.1] := h0
  subst h0'
  simp at e1
  rw [e1.2.1]
  exact hD2
theorem IsRaw.fk {w : World} {ok : Nat → Prop} {b : Bool} {A A' : Option Addr} {m c m' c' k : Nat} {q : Rat} (h : IsRaw w ok (.agg #[.bool b, .slice A m c, .slice A' m' c']) q k) : ∃ x : RawN, Kd.FK kRat w ok x [.bool b, .slice A m c, .slice A' m' c'] ∧ q = qv x ∧ okN k x := by
 obtain ⟨neg, v1, v2, nl, dl, e, hU1, hU2, h1, h2, h3, h4, h5⟩ := h
 simp at e
 obtain ⟨rfl, rfl, rfl⟩ := e
 have e1 : m = nl.length := by
  obtain ⟨A1, c1, e1, _, _⟩ := hU1
  simp at e1
  exact e1.2.1
 have e2 : m' = dl.length := by
  obtain ⟨A1, c1, e1, _, _⟩ := hU2
  simp at e1
  exact e1.2.1
 subst e1; subst e2
 exact ⟨(b, nl, dl), fk_mk hU1 hU2, h5, h1, h2, h3, h4⟩
theorem setCells3 (w : World) (g o : Nat) (a b c : Value) : w.setCells g o [a, b, c] = put3o w g o a b c := rfl
theorem qv_rz : qv rz = 0 := by
 unfold qv rz rawq
 rw [if_pos]
 ·rfl
theorem okN_rz (k : Nat) : okN k rz := ⟨fun x hx => by simp [rz] at hx, fun x hx => by simp [rz] at hx, Nat.zero_le _, Nat.zero_le _⟩
section
variable {T : TypeId} {w w1 : World} {base : Nat} {ok ok' : Nat → Prop} {v : Value} {qs : List Rat} {k : Nat}
theorem RN.below (h : RN T w base ok v qs k) (hb : Below w.heap.size w w1) : RN T w1 base ok v qs k := by
 obtain ⟨xs, h1, h2, h3⟩ := h
 exact ⟨xs, Kd.N_below h1 hb, h2, h3⟩
theorem RN.mono (h : RN T w base ok v qs k) (hok : ∀ k, ok k → ok' k) : RN T w base ok' v qs k := by
 obtain ⟨xs, h1, h2, h3⟩ := h
 exact ⟨xs, Kd.N_mono h1 hok, h2, h3⟩
theorem RN.bound (h : RN T w base ok v qs k) : RN T w base (fun k => ok k ∧ k < w.heap.size) v qs k := by
 obtain ⟨xs, h1, h2, h3⟩ := h
 exact ⟨xs, Kd.N_bound h1, h2, h3⟩
theorem RN.lower {base' : Nat} (h : RN T w base ok v qs k) (hb : base' ≤ base) : RN T w base' ok v qs k := by
 obtain ⟨xs, h1, h2, h3⟩ := h
 exact ⟨xs, Kd.N_lower h1 hb, h2, h3⟩
theorem RN.more {k' : Nat} (h : RN T w base ok v qs k) (hk : k ≤ k') : RN T w base ok v qs k' := by
 obtain ⟨xs, h1, h2, h3⟩ := h
 exact ⟨xs, h1, h2, fun x hx => ⟨(h3 x hx).1, (h3 x hx).2.1, by have := (h3 x hx).2.2.1; omega, by have := (h3 x hx).2.2.2; omega⟩⟩
/-- It reads as these numbers. -/
theorem RN.rq (h : RN T w base ok v qs k) : RQ w ok v qs k := by
 obtain ⟨xs, h1, h2, h3⟩ := h
 obtain ⟨A, c, rfl⟩ := Kd.N_slice h1
 exact ⟨xs, ⟨A, c, rfl, (Kd.N_reads' h1).2.1, Kd.N_F h1⟩, h2, h3⟩
theorem RN.form (h : RN T w base ok v qs k) (hp : 0 < qs.length) : ∃ g cap, v = .slice (some ⟨g, 0, none⟩) qs.length cap ∧ base ≤ g ∧ g < w.heap.size ∧ ∃ cells, w.heap[g]? = some (.cells cells T (0, 0)) := by
 obtain ⟨xs, h1, rfl, h3⟩ := h
 rw [List.length_map] at hp ⊢
 exact Kd.N_form h1 hp
theorem RN.shape (h : RN T w base ok v qs k) : ∃ A c, v = .slice A qs.length c ∧ qs.length ≤ c ∧ qs.length ≤ 9223372036854775807 := h.rq.shape
/-- The number at place i. -/
theorem RN.at {g n c : Nat} (h : RN T w base ok (.slice (some ⟨g, 0, none⟩) n c) qs k) (i : Nat) (hi : i < qs.length) :
  ∃ b A1 m1 c1 A2 m2 c2, w.cell? ⟨g, i * 3, none⟩ = some (.bool b) ∧ w.cell? ⟨g, i * 3 + 1, none⟩ = some (.slice A1 m1 c1) ∧ w.cell? ⟨g, i * 3 + 2, none⟩ = some (.slice A2 m2 c2) ∧
   w.frozen? ⟨g, i * 3, none⟩ = false ∧ w.frozen? ⟨g, i * 3 + 1, none⟩ = false ∧ w.frozen? ⟨g, i * 3 + 2, none⟩ = false ∧ IsRaw w (fun k => ok k ∧ k ≠ g) (.agg #[.bool b, .slice A1 m1 c1, .slice A2 m2 c2]) (qs.getD i 0) k := by
 obtain ⟨xs, h1, rfl, h3⟩ := h
 rw [List.length_map] at hi
 have hn := (Kd.N_reads' h1).1
 obtain ⟨cs, hcl, hK, hcc, hfr⟩ := Kd.N_elem h1 rz (i : Int) (by omega) (by omega)
 rw [Int.toNat_natCast] at hK hcc hfr
 obtain ⟨A1, c1, A2, c2, rfl, hU1, hU2⟩ := fk_open hK
 have hx := h3 (xs.getD i rz) (by rw [List.getD_eq_getElem?_getD, List.getElem?_eq_getElem hi]; exact List.getElem_mem hi)
 refine ⟨_, A1, _, c1, A2, _, c2, hcc 0 _ rfl, hcc 1 _ rfl, hcc 2 _ rfl, hfr 0, hfr 1, hfr 2, ⟨_, _, _, _, _, rfl, hU1, hU2, hx.1, hx.2.1, hx.2.2.1, hx.2.2.2, ?_⟩⟩
 rw [List.getD_eq_getElem?_getD, List.getD_eq_getElem?_getD, List.getElem?_map, List.getElem?_eq_getElem hi]
 rfl
/-- Place i's cells are those of a number x then. -/
theorem RN.putF {g n cp : Nat} (h : RN T w base ok (.slice (some ⟨g, 0, none⟩) n cp) qs k) (i : Nat) (hi : i < qs.length) {x : RawN} {seg : List Value} (hF : Kd.FK kRat w (fun k => ok k ∧ k ≠ g) x seg) (hok : okN k x) :
  RN T (w.setCells g (i * 3) seg) base ok (.slice (some ⟨g, 0, none⟩) n cp) (qs.set i (qv x)) k := by
 obtain ⟨xs, h1, rfl, h3⟩ := h
 rw [List.length_map] at hi
 have hn := (Kd.N_reads' h1).1
 obtain ⟨cs, hcl, hK, hcc, hfr⟩ := Kd.N_elem h1 rz (i : Int) (by omega) (by omega)
 have hlen : cs.length = 3 := hcl
 have hsl : seg.length = 3 := kRat.K_len (Kd.FK_now hF)
 have hput := Kd.N_seg h1 (i : Int) (by omega) (by omega) (c := cs) (seg := seg) (j := 0) (x' := x) (okp := fun k => ok k ∧ k ≠ g) hcl hcc (by rw [hsl]; exact Nat.le_refl 3) (by
  rw [List.take_zero, List.nil_append, List.drop_eq_nil_of_le (by rw [hlen, hsl]; exact Nat.le_refl 3), List.append_nil]
  exact hF) (fun k hk => hk)
 rw [Int.toNat_natCast] at hput
 refine ⟨xs.set i x, hput.1, ?_, fun y hy => ?_⟩
 ·rw [List.map_set]
 ·rcases List.mem_or_eq_of_mem_set hy with h | rfl
  ·exact h3 y h
  ·exact hok
/-- Place i is the number q then. -/
theorem RN.put {g n cp : Nat} (h : RN T w base ok (.slice (some ⟨g, 0, none⟩) n cp) qs k) (i : Nat) (hi : i < qs.length) {b : Bool} {A A' : Option Addr} {m c m' c' : Nat} {q : Rat} (hx : IsRaw w (fun k => ok k ∧ k ≠ g) (.agg #[.bool b, .slice A m c, .slice A' m' c']) q k) :
  RN T (put3o w g (i * 3) (.bool b) (.slice A m c) (.slice A' m' c')) base ok (.slice (some ⟨g, 0, none⟩) n cp) (qs.set i q) k := by
 obtain ⟨x, hF, hq, hok⟩ := hx.fk
 rw [hq]
 exact h.putF i hi hF hok
theorem setCells_append (g : Nat) (ys : List Value) : ∀ (xs : List Value) (o : Nat) (w : World), w.setCells g o (xs ++ ys) = (w.setCells g o xs).setCells g (o + xs.length) ys
 | [], o, w => rfl
 | x :: xs, o, w => by
  show (w.setCell ⟨g, o, none⟩ x).setCells g (o + 1) (xs ++ ys) = _
  rw [setCells_append g ys xs (o + 1) _]
  show _ = (World.setCells (w.setCell ⟨g, o, none⟩ x) g (o + 1) xs).setCells g (o + (xs.length + 1)) ys
  rw [show o + 1 + xs.length = o + (xs.length + 1) by omega]
/-- Places from i on are these numbers then. -/
theorem RN.puts {g n cp : Nat} : ∀ (xs : List RawN) (inner : List Value) (i : Nat) (w : World) (qs : List Rat), RN T w base ok (.slice (some ⟨g, 0, none⟩) n cp) qs k → Reps (fun x c => Kd.FK kRat w (fun k => ok k ∧ k ≠ g) x c) 3 xs inner → (∀ x ∈ xs, okN k x) → i + xs.length ≤ qs.length →
  RN T (w.setCells g (i * 3) inner) base ok (.slice (some ⟨g, 0, none⟩) n cp) (qs.take i ++ (xs.map qv ++ qs.drop (i + xs.length))) k
 | [], inner, i, w, qs, h, hr, _, hl => by
  have : inner = [] := List.eq_nil_of_length_eq_zero (by rw [hr.1]; simp)
  subst this
  rw [List.map_nil, List.nil_append, List.length_nil, Nat.add_zero, List.take_append_drop]
  exact h
 | x :: xs, inner, i, w, qs, h, hr, hx, hl => by
  have hlen := hr.1
  rw [List.length_cons] at hlen hl
  have hsl : (inner.take 3).length = 3 := by rw [List.length_take]; omega
  have h0 := hr.2 0 x rfl
  rw [Nat.zero_mul, List.drop_zero] at h0
  have h1 := h.putF i (by omega) h0 (hx x (List.mem_cons_self ..))
  have hfar : ∀ k, k ≠ g → (w.setCells g (i * 3) (inner.take 3)).heap[k]? = w.heap[k]? := fun k hk => setCells_far _ _ k hk
  have h2 := RN.puts xs (inner.drop 3) (i + 1) _ _ h1 ⟨by rw [List.length_drop]; omega, fun j p hj => by
   have h3 := hr.2 (j + 1) p (by rw [List.getElem?_cons_succ]; exact hj)
   rw [List.drop_drop, show 3 + j * 3 = (j + 1) * 3 by omega]
   exact Kd.FK_step h3 (fun k hk _ => hfar k hk.2)⟩ (fun y hy => hx y (List.mem_cons_of_mem _ hy)) (by rw [List.length_set]; omega)
  have e1 : w.setCells g (i * 3) inner = (w.setCells g (i * 3) (inner.take 3)).setCells g ((i + 1) * 3) (inner.drop 3) := by
   rw [show (i + 1) * 3 = i * 3 + (inner.take 3).length by rw [hsl]; omega, ← setCells_append, List.take_append_drop]
  rw [e1]
  have e2 : qs.take i ++ ((x :: xs).map qv ++ qs.drop (i + (x :: xs).length)) = (qs.set i (qv x)).take (i + 1) ++ (xs.map qv ++ (qs.set i (qv x)).drop (i + 1 + xs.length)) := by
   rw [List.drop_set, if_pos (by omega), List.take_add_one, List.take_set, List.getElem?_set_self (by omega), List.set_eq_of_length_le (by rw [List.length_take]; omega), List.map_cons, List.length_cons, show i + 1 + xs.length = i + (xs.length + 1) by omega]
   simp
  rw [e2]
  exact h2
theorem put3o_grown (w : World) (g o : Nat) (a b c : Value) {T : TypeId} {cells : Array Value} (h : w.heap[g]? = some (.cells cells T (0, 0))) : ∀ k, k ≠ g → (put3o w g o a b c).heap[k]? = w.heap[k]? := fun k hk => by
 unfold put3o
 rw [Below.heap_setCell _ _ _ _ hk, Below.heap_setCell _ _ _ _ hk, Below.heap_setCell _ _ _ _ hk]
theorem below_put3o {B : Nat} {W0 : World} {g o : Nat} (hb : Below B W0 w) (hg : B ≤ g) (c0 c1 c2 : Value) : Below B W0 (put3o w g o c0 c1 c2) := ((hb.setCell hg _).setCell hg _).setCell hg _
theorem RN.zeros {g : Nat} {m : Nat} (cur : Array Value) (h : w.heap[g]? = some (.cells cur T (0, 0))) (hc : cur.toList = (List.replicate m [Value.bool false, .slice none 0 0, .slice none 0 0]).flatten) (hm : m ≤ maxLen) (hb : base ≤ g) (hok : ok g) : RN T w base ok (.slice (some ⟨g, 0, none⟩) m m) (List.replicate m 0) 0 := by
 have hlen : cur.size = m * 3 := by
  rw [← Array.length_toList, hc]
  simp [List.length_flatten]
 refine ⟨List.replicate m rz, ⟨fun k hk => ?_, List.replicate m [Value.bool false, .slice none 0 0, .slice none 0 0], by rw [List.length_replicate, List.length_replicate], ⟨fun k hk => hk.symm, cur.toList, ?_, ?_⟩, fun j x c hx hcx => ?_⟩, by rw [List.map_replicate, qv_rz], fun x hx => by rw [(List.mem_replicate.1 hx).2]; exact okN_rz 0⟩
 ·have : g = k := by simpa [Value.ownBlock] using hk
  rw [← this]; exact hok
 ·rw [List.length_replicate]
  refine ⟨by rw [Array.length_toList]; exact hlen, .inr ⟨g, m, cur, rfl, hb, h, Nat.le_refl _, hm, hlen, ?_⟩⟩
  rw [List.take_of_length_le]
  rw [Array.length_toList, hlen]
  exact Nat.le_refl _
 ·refine ⟨by rw [Array.length_toList, List.length_replicate]; exact hlen, fun j p hj => ?_⟩
  have hjl := (List.getElem?_eq_some_iff.1 hj).1
  have hjp := (List.getElem?_eq_some_iff.1 hj).2
  rw [List.getElem_replicate] at hjp
  rw [List.length_replicate] at hjl
  have key : ∀ (m j : Nat), j < m → (((List.replicate m [Value.bool false, .slice none 0 0, .slice none 0 0]).flatten).drop (j * 3)).take 3 = [Value.bool false, .slice none 0 0, .slice none 0 0] := by
   intro m
   induction m with
   | zero => intro j hj; omega
   | succ m ih =>
    intro j hj
    rw [List.replicate_succ, List.flatten_cons]
    rcases j with _ | j
    ·rfl
    ·rw [show (j + 1) * 3 = 3 + j * 3 by omega, ← List.drop_drop]
     exact ih j (by omega)
  rw [hc]
  refine ⟨?_, ?_⟩
  ·rw [← hjp]; exact key m j hjl
  ·have h2 := key m j hjl
   have h3 : ∀ (c : List Value), c = [Value.bool false, .slice none 0 0, .slice none 0 0] → c.length = 3 ∧ ∀ u ∈ c, Value.oneCell' u = true := by
    rintro c rfl
    exact ⟨rfl, fun u hu => by simp at hu; rcases hu with rfl | rfl | rfl <;> rfl⟩
   exact h3 _ h2
 ·have h1 := (List.getElem?_eq_some_iff.1 hx).2
  have h2 := (List.getElem?_eq_some_iff.1 hcx).2
  rw [List.getElem_replicate] at h1 h2
  rw [← h1, ← h2]
  exact fk_zero _ _
end
/-
  Slices of numbers that the call makes: make, append, copy.
-/
theorem info_rat : (Tryz.prog.info? 46).map (fun i => (i.zero, i.size, i.bytes)) = some (some zeroR, 3, 56) := by kernel_rfl
section
variable {P : Program} {ops : Array Oper} {rest : List Oper} {o : Oper} {a : Act} {Q : Exit → Act → World → Prop}
/-- make([]Rat, n) -/
theorem rn_make {w0 W : World} {base : Nat} (e : Nat) (hgd : o.guard = none) {N' : Tmp} (hd : o.dst = some N') (t : TypeId) (x y : Operand) (ho : o.op = .makeSlice t x y) (n : Nat) (hx : a.eval x = .int .i64 n) (hy : a.eval y = .int .i64 n)
  (ht : P.underlying t = some (.slice e)) (hinfo : (P.info? e).map (fun i => (i.zero, i.size, i.bytes)) = some (some zeroR, 3, 56)) {ok : Nat → Prop} (hfresh : ok W.heap.size) (hl : n ≤ 1000000000) (HB : Below base w0 W) (hbase : base ≤ W.heap.size)
  (h : ∀ v1 w1, RN e w1 base ok v1 (List.replicate n 0) 0 → Below base w0 w1 → (∃ b, v1.ownBlock = some b ∧ W.heap.size ≤ b) → wpList P ops Q rest (a.put o.dst v1) w1) : wpList P ops Q (o :: rest) a W := by
 refine Kd.N_make kRat base e hgd hd t x y ho n hx hy ht zeroR 56 hinfo rfl (by decide) (by decide) rz (ok := ok) (okp := fun _ => False) (fk_zero _ _) (fun _ hk => hk.elim) hfresh (by omega) (by rw [Int.toNat_natCast]; omega) HB hbase ?_
 intro v1 w1 h1 hb hg hat
 rw [Int.toNat_natCast] at h1
 exact h v1 w1 ⟨_, h1, by rw [List.map_replicate, qv_rz], fun x hx => by rw [(List.mem_replicate.1 hx).2]; exact okN_rz 0⟩ hb hat
/-- make([]Rat, 0, n) -/
theorem rn_makecap {w0 W : World} {base : Nat} (e : Nat) (hgd : o.guard = none) {N' : Tmp} (hd : o.dst = some N') (t : TypeId) (x y : Operand) (ho : o.op = .makeSlice t x y) (n : Nat) (hx : a.eval x = .int .i64 0) (hy : a.eval y = .int .i64 n)
  (ht : P.underlying t = some (.slice e)) (hinfo : (P.info? e).map (fun i => (i.zero, i.size, i.bytes)) = some (some zeroR, 3, 56)) {ok : Nat → Prop} (hfresh : ok W.heap.size) (hl : n ≤ 1000000000) (HB : Below base w0 W) (hbase : base ≤ W.heap.size)
  (h : ∀ v1 w1, RN e w1 base ok v1 [] 0 → Below base w0 w1 → wpList P ops Q rest (a.put o.dst v1) w1) : wpList P ops Q (o :: rest) a W := by
 obtain ⟨i0, hi, hzz⟩ := Option.map_eq_some_iff.1 hinfo
 simp only [Prod.mk.injEq] at hzz
 obtain ⟨hz0, hz1, hz2⟩ := hzz
 have hr := run_make (P := P) W t e i0 zeroR ht hi hz0 .i64 .i64 0 (n : Int) (by omega) (by omega) (by rw [hz2]; omega) (by omega)
 rw [hz1] at hr
 simp only [Int.toNat_natCast, Int.toNat_zero] at hr
 refine Kd.event_run (v := .slice (some ⟨W.heap.size, 0, none⟩) 0 n) (w1 := W.alloc (.cells (madeCells (Value.cells zeroR) (n * 3)) e)) hgd ?_ (h _ _ ⟨[], ⟨fun k hk => ?_, [], rfl, ⟨fun k hk => hk.symm, [], ⟨rfl, .inr ⟨W.heap.size, n, madeCells (Value.cells zeroR) (n * 3), ?_, hbase, ?_, Nat.zero_le _, ?_, ?_, ?_⟩⟩, ⟨rfl, fun j p hj => by simp at hj⟩⟩, fun j x c hx => by simp at hx⟩, rfl, fun x hx => by simp at hx⟩ (HB.alloc hbase _))
 ·simp [execOp, ho, hx, hy, hr]
 ·have : W.heap.size = k := by simpa [Value.ownBlock] using hk
  rw [← this]; exact hfresh
 ·rfl
 ·show (W.heap.push _)[W.heap.size]? = _; simp
 ·simp only [maxLen]; omega
 ·simp [madeCells]; rfl
 ·simp
/-- append(v, x), behind the slice [x] -/
theorem rn_append {w0 W : World} {base : Nat} (hgd : o.guard = none) (s x : Operand) (t e : TypeId)
  (ho : o.op = .call { callee := .builtin .append, args := #[s, x], argTypes := #[t, t] })
  (ht : P.underlying t = some (.slice e)) (hinfo : (P.info? e).map (fun i => (i.zero, i.size, i.bytes)) = some (some zeroR, 3, 56))
  (v : Value) (qs : List Rat) (q : Rat) (k : Nat) {b : Bool} {A A' : Option Addr} {m c m' c' : Nat} (ok : Nat → Prop) (hs : a.eval s = v) (hx : a.eval x = .slice (some ⟨W.heap.size, 0, none⟩) 1 1)
  (hp : IsRaw W (fun k => ok k ∧ some k ≠ v.ownBlock) (.agg #[.bool b, .slice A m c, .slice A' m' c']) q k) (hfresh : ∀ k, W.heap.size ≤ k → ok k)
  (HO : RN e W base ok v qs k) (HB : Below base w0 W) (hbase : base ≤ W.heap.size) (hl : qs.length ≤ 1000000000)
  (h : ∀ v1 w1, RN e w1 base ok v1 (qs ++ [q]) k → Below base w0 w1 → wpList P ops Q rest (a.put o.dst v1) w1) :
  wpList P ops Q (o :: rest) a (W.alloc (.cells #[.bool b, .slice A m c, .slice A' m' c'] e)) := by
 obtain ⟨xs, h1, rfl, h3⟩ := HO
 obtain ⟨y, hF, rfl, hok⟩ := hp.fk
 rw [List.length_map] at hl
 refine Kd.N_append kRat base hgd s x t e zeroR 56 ho ht hinfo rfl (by decide) (by decide) v xs y [.bool b, .slice A m c, .slice A' m' c'] ok (fun k => ok k ∧ some k ≠ v.ownBlock) hs hx hF (fun k hk => hk) hfresh h1 HB hbase (by omega) ?_
 intro v1 w1 h4 hb hg hat
 exact h v1 w1 ⟨_, h4, by rw [List.map_append]; rfl, fun z hz => by
  rcases List.mem_append.1 hz with h | h
  ·exact h3 z h
  ·rw [List.mem_singleton.1 h]; exact hok⟩ hb
theorem run_copy3 (w : World) (dT sT ty elem : TypeId) (b o dLen dCap : Nat) (a : Addr) (sLen sCap : Nat) (cs : List Value)
  (hu : P.underlying dT = some (.slice elem)) (hs : (P.info? elem).map (·.size) = some 3) (hn : cs.length = Nat.min sLen dLen * 3)
  (hsrc : ∀ j v, cs[j]? = some v → w.cell? (a.add j) = some v) (hc : ∀ j, j < cs.length → (w.cell? ⟨b, o + j, none⟩).isSome = true) (hf : ∀ j, j < cs.length → w.frozen? ⟨b, o + j, none⟩ = false) (h1 : ∀ v ∈ cs, v.oneCell' = true) :
  (Builtin.copy_ #[dT, sT] ty #[.slice (some ⟨b, o, none⟩) dLen dCap, .slice (some a) sLen sCap]).run P w = .ok (goInt (Nat.min sLen dLen)) (w.setCells b o cs) := by
 have hl := run_loadCells_list (P := P) w a cs hsrc
 have hst := run_storeCells_cells (P := P) b o cs 0 w (by simpa using hc) (by simpa using hf) h1
 cases hq : P.info? elem with
 | none => simp [hq] at hs
 | some i =>
  have hi : i.size = 3 := by simpa [hq] using hs
  simp [Builtin.copy_, run_underlying hu, Builtin.lenOf, Builtin.firstCells, sizeOf, typeInfo, hq, hi, ← hn, hl, hst]
theorem run_copy3_none (w : World) (dT sT ty elem : TypeId) (d a : Option Addr) (dLen dCap sLen sCap : Nat) (hu : P.underlying dT = some (.slice elem)) (hs : (P.info? elem).map (·.size) = some 3) (hn : Nat.min sLen dLen = 0) :
  (Builtin.copy_ #[dT, sT] ty #[.slice d dLen dCap, .slice a sLen sCap]).run P w = .ok (goInt 0) w := by
 cases hq : P.info? elem with
 | none => simp [hq] at hs
 | some i =>
  have hl : ∀ (x : Addr), (loadCells x 0).run P w = .ok #[] w := fun x => by simpa using run_loadCells_list (P := P) w x [] (by simp)
  cases d <;> cases a <;> simp [Builtin.copy_, run_underlying hu, Builtin.lenOf, Builtin.firstCells, sizeOf, typeInfo, hq, hn, storeCells, hl]
/-- copy(v, ys), ys no longer than v -/
theorem rn_copy {w0 W : World} {base : Nat} (T : TypeId) (hgd : o.guard = none) (s x : Operand) (t t' e : TypeId)
  (ho : o.op = .call { callee := .builtin .copy, args := #[s, x], argTypes := #[t, t'] }) (ht : P.underlying t = some (.slice e)) (hinfo : (P.info? e).map (·.size) = some 3)
  (g n cap : Nat) (qs rs : List Rat) (k : Nat) (A : Option Addr) (m c : Nat) (ok : Nat → Prop) (hs : a.eval s = .slice (some ⟨g, 0, none⟩) n cap) (hx : a.eval x = .slice A m c)
  (HO : RN T W base ok (.slice (some ⟨g, 0, none⟩) n cap) qs k) (HR : RQ W (fun k => ok k ∧ k ≠ g) (.slice A m c) rs k) (hle : rs.length ≤ qs.length) (HB : Below base w0 W) (hg : base ≤ g)
  (h : ∀ w1, RN T w1 base ok (.slice (some ⟨g, 0, none⟩) n cap) (rs ++ qs.drop rs.length) k → Below base w0 w1 → wpList P ops Q rest (a.put o.dst (.int .i64 ((rs.length : Nat) : Int))) w1) :
  wpList P ops Q (o :: rest) a W := by
 obtain ⟨ys, ⟨A', c', e1, hc, hF⟩, rfl, hok⟩ := HR
 obtain ⟨rfl, rfl, rfl⟩ : A = A' ∧ m = ys.length ∧ c = c' := by simpa using e1
 have hn : n = qs.length := by
  obtain ⟨A1, c1, e2, _, _⟩ := HO.shape
  simp at e2
  exact e2.2.1
 rw [List.length_map] at hle h
 have hmin : Nat.min ys.length n = ys.length := Nat.min_eq_left (by omega)
 have fin : ∀ w1, (Builtin.copy_ #[t, t'] o.type #[.slice (some ⟨g, 0, none⟩) n cap, .slice A ys.length c]).run P W = .ok (goInt ys.length) w1 → RN T w1 base ok (.slice (some ⟨g, 0, none⟩) n cap) (ys.map qv ++ qs.drop ys.length) k → Below base w0 w1 → wpList P ops Q (o :: rest) a W := by
  intro w1 hr hrow hg
  refine wpList_plain hgd fun K hK => ?_
  unfold Oper.wp execOp
  simp only [ho, resolve, invoke, builtin, Sem.run_bind, Sem.run_pure, Result.andThen_ok, List.map_toArray, List.map_cons, List.map_nil, hs, hx, hr]
  exact hK _ _ (h w1 hrow hg)
 rcases Nat.eq_zero_or_pos ys.length with h0 | hp
 ·have hy : ys = [] := List.eq_nil_of_length_eq_zero h0
  subst hy
  refine fin W ?_ (by simpa using HO) HB
  exact run_copy3_none W t t' o.type e _ A n cap 0 c ht hinfo (by simp)
 ·have hrows := Kd.F_rows hF
  obtain ⟨ad, rfl, _⟩ := hrows.2.2 hp
  obtain ⟨inner, hr, hcc⟩ := ReadsRow.inner_ hrows
  have hil : inner.length = ys.length * 3 := hr.1
  have hone : ∀ u ∈ inner, u.oneCell' = true := Kd.reps_one hr (by decide) (fun p c hk u hu => kRat.K_one (Kd.FK_now hk) u hu)
  obtain ⟨g', cap', ev, _, _, cells, hcells⟩ := HO.form (by omega)
  simp at ev
  obtain ⟨rfl, _, rfl⟩ := ev
  have hput := RN.puts ys inner 0 W qs HO hr hok (by omega)
  rw [Nat.zero_mul, List.take_zero, List.nil_append, Nat.zero_add] at hput
  have hcell : ∀ j, j < inner.length → (W.cell? ⟨g, 0 + j, none⟩).isSome = true := fun j hj => by
   obtain ⟨b, A1, m1, c1, A2, m2, c2, k0, k1, k2, _⟩ := HO.at (j / 3) (by omega)
   rw [Nat.zero_add]
   have hm : j % 3 = 0 ∨ j % 3 = 1 ∨ j % 3 = 2 := by omega
   rcases hm with h | h | h
   ·rw [show j = j / 3 * 3 by omega, k0]; rfl
   ·rw [show j = j / 3 * 3 + 1 by omega, k1]; rfl
   ·rw [show j = j / 3 * 3 + 2 by omega, k2]; rfl
  refine fin (W.setCells g 0 inner) ?_ hput (HB.grown (row := some g) ⟨(setCells_same g inner 0 W).1, (setCells_same g inner 0 W).2.1, (setCells_same g inner 0 W).2.2.1, by rw [(setCells_same g inner 0 W).2.2.2]; exact Nat.le_refl _, fun k _ hk => setCells_far _ _ k (fun he => hk (by rw [he]))⟩ ?_ ?_)
  ·have hr3 := run_copy3 (P := P) W t t' o.type e g 0 n cap ad ys.length c inner ht hinfo (by rw [hmin]; exact hil) hcc hcell (fun j _ => blk_frozen hcells _) hone
   rw [hmin] at hr3
   exact hr3
  ·have := heap_lt_ hcells; omega
  ·intro k hk
   injection hk with hk
   omega
end
/-
  The contract of Canonical (package binomial).
-/
/-- m is the length without the zeros at the end. -/
def IsTr (qs : List Rat) (m : Nat) : Prop := m ≤ qs.length ∧ (∀ i, m ≤ i → qs.getD i 0 = 0) ∧ (0 < m → qs.getD (m - 1) 0 ≠ 0)
/-- The first i of m places are filled. -/
def fill (qs : List Rat) (m i : Nat) : List Rat := qs.take i ++ List.replicate (m - i) 0
theorem fill_zero (qs : List Rat) (m : Nat) : fill qs m 0 = List.replicate m 0 := by simp [fill]
theorem fill_full (qs : List Rat) (m : Nat) : fill qs m m = qs.take m := by simp [fill]
theorem fill_length {qs : List Rat} {m i : Nat} (hi : i ≤ m) (hm : m ≤ qs.length) : (fill qs m i).length = m := by
 unfold fill
 rw [List.length_append, List.length_take, List.length_replicate]
 omega
theorem fill_next {qs : List Rat} {m i : Nat} (hi : i < m) (hm : m ≤ qs.length) : (fill qs m i).set i (qs.getD i 0) = fill qs m (i + 1) := by
 unfold fill
 obtain ⟨d, hd⟩ : ∃ d, m - i = d + 1 := ⟨m - i - 1, by omega⟩
 rw [hd, show m - (i + 1) = d by omega, List.replicate_succ]
 have hl : (qs.take i).length = i := by rw [List.length_take]; omega
 have ht : qs.take (i + 1) = qs.take i ++ [qs.getD i 0] := by
  rw [List.take_add_one, List.getD_eq_getElem?_getD, List.getElem?_eq_getElem (by omega)]
  rfl
 rw [List.set_append, if_neg (by omega), hl, Nat.sub_self, List.set_cons_zero, ht, List.append_assoc]
 rfl
def RetTr (ok : Nat → Prop) (qs : List Rat) (k : Nat) (w0 : World) (e : Ending) (w' : World) : Prop := ∃ v m, e = .returned v ∧ IsTr qs m ∧ RQ w' ok v (qs.take m) k ∧ Below w0.heap.size w0 w'
set_option maxRecDepth 100000 in
set_option maxHeartbeats 4000000 in
theorem canonp_rat (ok : Nat → Prop) (v0 : Value) (qs : List Rat) (k : Nat) (w : World) (hok : ∀ k, w.heap.size ≤ k → ok k) (h0 : RQ w ok v0 qs k) (hk : k ≤ 1000000) (hl : qs.length ≤ 1000000) :
  Calls Tryz.prog 74 #[v0] w (RetTr ok qs (k + 1) w) := by
 have H0 := As h0
 have HRS := As (fun i => h0.rs i)
 have HB := As (Below.refl w.heap.size w)
 have HOK := As hok
 have HK5 := As (show k ≤ 5000000 by omega)
 obtain ⟨A, c, rfl, hc, hmx⟩ := h0.shape
 clear h0 hok
 go_enter Tryz.func74, Tryz.ntmps74
 go_upto_block 0 with fail
 go_cut [3] (fun v wx => ∃ m : Nat, v = .int .i64 m ∧ m ≤ qs.length ∧ Aside0 (IsTr qs m) ∧ Aside0 (Below w.heap.size w wx))
 case first =>
  go_wp2
  go_loopw [3] (fun v wr => ∃ n : Nat, v = .int .i64 n ∧ n ≤ qs.length ∧ Aside0 (∀ i, n ≤ i → qs.getD i 0 = 0) ∧ Aside0 (Below w.heap.size w wr)) (fun v _ => (intOf v).toNat)
  case atStart => exact ⟨qs.length, rfl, Nat.le_refl _, ⟨fun j h1 => by rw [List.getD_eq_getElem?_getD, List.getElem?_eq_none h1]; rfl⟩, HB⟩
  case round =>
   clear HB
   obtain ⟨n, rfl, hn, HZ, HB⟩ := hrel
   rcases Nat.eq_zero_or_pos n with h0 | h0
   ·subst h0
    go_wp2
    go_meet
    case rel => exact ⟨0, rfl, Nat.zero_le _, ⟨⟨Nat.zero_le _, HZ.out, fun h => absurd h (Nat.lt_irrefl 0)⟩⟩, HB⟩
   ·obtain ⟨pb, po, nb, A1, m1, c1, A2, m2, c2, rfl, p0, p1, p2, hraw⟩ := (H0.out.below HB.out).at (n - 1) (by omega)
    have HP := As hraw
    have HOK1 := As (show ∀ k, wr.heap.size ≤ k → ok k from fun k hk => HOK.out k (Nat.le_trans HB.out.size hk))
    obtain ⟨q, hqq⟩ : ∃ q, qs.getD (n - 1) 0 = q := ⟨_, rfl⟩
    have HQQ := As hqq
    rw [hqq] at HP
    clear hraw hqq
    go_wp2_with fail
    with_reducible refine (sign_rat ok _ _ _ _ HOK1.out HP.out HK5.out).mono ?_
    rintro e w2 ⟨rfl, hb⟩
    have HB2 := As (below_step HB.out hb)
    clear hb
    by_cases hq0 : q = 0
    ·have hsb : (sgnR q == 0) = true := by rw [sgnR_zero.2 hq0]; rfl
     have HQ0 := As hq0
     clear hq0
     go_wp2
     go_roundw
     case rel => exact ⟨n - 1, by go_num, by omega, ⟨fun j h1 => if he : j = n - 1 then by rw [he, HQQ.out, HQ0.out] else HZ.out j (by omega)⟩, HB2⟩
     case measure => simp [intOf]; omega
    ·have hsb : (sgnR q == 0) = false := by
      have : sgnR q ≠ 0 := fun e => hq0 (sgnR_zero.1 e)
      simpa using this
     have HQ0 := As hq0
     clear hq0
     go_wp2
     go_meet
     case rel => exact ⟨n, rfl, hn, ⟨⟨hn, HZ.out, fun _ => by rw [HQQ.out]; exact HQ0.out⟩⟩, HB2⟩
 case rest =>
  clear HB
  obtain ⟨m, rfl, hm, HTR, HB⟩ := hcut
  have HM := As (show m ≤ 1000000000 by omega)
  have HOKc := As (HOK.out _ HB.out.size)
  go_wp2_with ((with_reducible refine gate_dst (N := 22) rfl ?_); refine rn_make 46 rfl (N' := 22) rfl 37 _ _ rfl m rfl rfl Tryz.underlying37 info_rat HOKc.out HM.out HB.out HB.out.size ?_; intro v1 w1 ho_ hb_ hg_; have HR := As ho_; have HB1 := As hb_; clear ho_ hb_ hg_)
  go_loopw [24] (fun vi wr => ∃ i : Nat, vi = .int .i64 i ∧ i ≤ m ∧ Aside0 (RN 46 wr w.heap.size ok v1 (fill qs m i) (k + 1)) ∧ Aside0 (Below w.heap.size w wr)) (fun vi _ => m - (intOf vi).toNat)
  case atStart => exact ⟨0, rfl, Nat.zero_le _, ⟨by rw [fill_zero]; exact HR.out.more (Nat.zero_le _)⟩, HB1⟩
  case round =>
   clear HR HB1 HB
   obtain ⟨i, rfl, hi, HR, HB⟩ := hrel
   by_cases hlt : i < m
   ·have hlb : decide ((i : Int) < (m : Int)) = true := decide_eq_true (by omega)
    have hfl : (fill qs m i).length = m := fill_length hi hm
    obtain ⟨g, cap, rfl, hg0, hg1, _⟩ := HR.out.form (by omega)
    rw [hfl] at HR ⊢
    obtain ⟨okk, hokk⟩ : ∃ okk : Nat → Prop, okk = fun k => ok k ∧ k ≠ g := ⟨_, rfl⟩
    have HOKK := As hokk
    have HOK1 := As (show ∀ k, wr.heap.size ≤ k → okk k from fun k hk => by rw [hokk]; exact ⟨HOK.out k (Nat.le_trans HB.out.size hk), by omega⟩)
    have HPR := (H0.out.old HB.out).mono (ok' := okk) (fun k hk => by rw [hokk]; exact ⟨hk.1, by have := hk.2; omega⟩)
    obtain ⟨pb, po, nb, A1, m1, c1, A2, m2, c2, rfl, p0, p1, p2, hraw⟩ := HPR.at i (by omega)
    have HP := As hraw
    have HRSi := As (HRS.out i)
    clear hraw hokk HPR
    go_wp2_with fail
    with_reducible refine (canonical_rat okk _ _ _ _ HOK1.out HP.out HK5.out).mono ?_
    rintro e w2 ⟨v2, rfl, hv, hb⟩
    have HB2 := As (below_step HB.out hb)
    have HR2 := As (HR.out.below hb)
    have HV2 := As (hv.raw HRSi.out)
    obtain ⟨b2, A3, m3, c3, A4, m4, c4, rfl⟩ := hv.shapeb
    obtain ⟨_, _, _, _, _, _, _, r0, r1, r2, f0, f1, f2, _⟩ := HR2.out.at i (by omega)
    rw [HOKK.out] at HV2
    have HN := As (show RN 46 (put3o w2 g (i * 3) (.bool b2) (.slice A3 m3 c3) (.slice A4 m4 c4)) w.heap.size ok (.slice (some ⟨g, 0, none⟩) m cap) (fill qs m (i + 1)) (k + 1) by rw [← fill_next hlt hm]; exact HR2.out.put i (by omega) HV2.out)
    have HB3 := As (below_put3o (g := g) (o := i * 3) HB2.out hg0 (.bool b2) (.slice A3 m3 c3) (.slice A4 m4 c4))
    clear hv hb
    go_wp2
    go_roundw
    case rel => exact ⟨i + 1, by go_num, by omega, HN, HB3⟩
    case measure => simp [intOf]; omega
   ·have hlb : decide ((i : Int) < (m : Int)) = false := decide_eq_false (by omega)
    have he : i = m := by omega
    subst he
    go_wp2
    go_ret
    exact ⟨_, i, rfl, HTR.out, by rw [← fill_full]; exact HR.out.rq, HB.out⟩
/-
  The contracts of list and Differences (package binomial).
-/
set_option maxHeartbeats 1000000 in
theorem list_rat (ok : Nat → Prop) (g base : Nat) (qs : List Rat) (k : Nat) (w : World) (hok : ∀ k, w.heap.size ≤ k → ok k) (h : RN 88 w base ok (.slice (some ⟨g, 0, none⟩) 33 33) qs k) (hk : k ≤ 1000000) :
  Calls Tryz.prog 44 #[.pointer (some ⟨g, 0, none⟩)] w (RetTr ok qs (k + 1) w) := by
 have H := As h.rq
 have HOK := As hok
 have HK := As hk
 obtain ⟨A1, c1, e2, _, _⟩ := h.shape
 have hl : qs.length = 33 := by
  simp at e2
  omega
 have HL := As (show qs.length ≤ 1000000 by omega)
 obtain ⟨_, _, e3, _, hgl, _⟩ := h.form (by omega)
 simp at e3
 obtain ⟨rfl, -⟩ := e3
 clear h hok hk e2 hl
 go_enter Tryz.func44, Tryz.ntmps44
 go_wp2_with (go_at_call 74; ((with_reducible refine (canonp_rat ok _ qs k _ HOK.out H.out HK.out HL.out).mono ?_); rintro e w2 ⟨v2, m, rfl, ht, hv, hb⟩; have HT := As ht; have HV := As hv; have HB := As hb; clear ht hv hb))
 go_ret
 exact ⟨_, m, rfl, HT.out, HV.out, HB.out⟩
/-- A row of 33 numbers. -/
def row (f : Nat → Rat) : List Rat := (List.range 33).map f
theorem row_length (f : Nat → Rat) : (row f).length = 33 := by simp [row]
theorem row_get (f : Nat → Rat) {i : Nat} (h : i < 33) : (row f).getD i 0 = f i := by
 unfold row
 rw [List.getD_eq_getElem?_getD, List.getElem?_map, List.getElem?_range h]
 rfl
theorem row_congr {f f' : Nat → Rat} (h : ∀ i, i < 33 → f i = f' i) : row f = row f' := by
 unfold row
 exact List.map_congr_left (fun i hi => h i (List.mem_range.1 hi))
theorem row_set (f : Nat → Rat) (i : Nat) (q : Rat) : (row f).set i q = row (fun j => if j = i then q else f j) := by
 apply List.ext_getElem?
 intro j
 unfold row
 rw [List.getElem?_set, List.getElem?_map, List.getElem?_map, List.length_map, List.length_range]
 by_cases h : i = j
 ·subst h
  rw [if_pos rfl]
  by_cases h2 : i < 33
  ·rw [if_pos h2, List.getElem?_range h2]; simp
  ·rw [if_neg h2, List.getElem?_eq_none (by simp; omega)]; rfl
 ·rw [if_neg h]
  by_cases h2 : j < 33
  ·rw [List.getElem?_range h2]; simp [Ne.symm h]
  ·rw [List.getElem?_eq_none (by simp; omega)]; rfl
/-- The values, and the table of their differences behind r - 1 rounds. -/
def vl (qs : List Rat) (i : Nat) : Rat := qs.getD i 0
def fT (qs : List Rat) (r j : Nat) : Rat := if j < qs.length then tb (vl qs) (r - 1) j else 0
/-- .. behind the r-th round's places above i. -/
def fM (qs : List Rat) (r i j : Nat) : Rat := if j < qs.length then (if j ≤ i then tb (vl qs) (r - 1) j else tb (vl qs) r j) else 0
def dls (qs : List Rat) : List Rat := row (fun j => if j < qs.length then dl (vl qs) j 0 else 0)
theorem fT_start (qs : List Rat) (hl : qs.length ≤ 33) : qs ++ (List.replicate 33 (0 : Rat)).drop qs.length = row (fT qs 1) := by
 apply List.ext_getElem?
 intro j
 by_cases hj : j < 33
 ·have h1 : (row (fT qs 1))[j]? = some (fT qs 1 j) := by
   unfold row
   rw [List.getElem?_map, List.getElem?_range hj]
   rfl
  rw [h1]
  unfold fT
  by_cases h2 : j < qs.length
  ·rw [if_pos h2, List.getElem?_append_left h2, show 1 - 1 = 0 from rfl, tb_zero, vl, List.getD_eq_getElem?_getD, List.getElem?_eq_getElem h2]
   rfl
  ·rw [if_neg h2, List.getElem?_append_right (by omega), List.drop_replicate, List.getElem?_replicate, if_pos (by omega)]
 ·rw [List.getElem?_eq_none (by simp; omega), List.getElem?_eq_none (by rw [row_length]; omega)]
theorem fM_start (qs : List Rat) (r : Nat) : row (fT qs r) = row (fM qs r (qs.length - 1)) := row_congr (fun j _ => by
 unfold fT fM
 by_cases h : j < qs.length
 ·rw [if_pos h, if_pos h, if_pos (by omega)]
 ·rw [if_neg h, if_neg h])
theorem fM_next (qs : List Rat) {r i : Nat} (hr : 1 ≤ r) (hi : r ≤ i) (hn : i < qs.length) : (row (fM qs r i)).set i (tb (vl qs) (r - 1) i - tb (vl qs) (r - 1) (i - 1)) = row (fM qs r (i - 1)) := by
 rw [row_set]
 refine row_congr (fun j _ => ?_)
 unfold fM
 by_cases h : j = i
 ·subst h
  rw [if_pos rfl, if_pos hn, if_neg (by omega), ← tb_next (vl qs) (show r - 1 < j by omega), show r - 1 + 1 = r by omega]
 ·rw [if_neg h]
  by_cases h2 : j < qs.length
  ·rw [if_pos h2, if_pos h2]
   by_cases h3 : j ≤ i
   ·rw [if_pos h3, if_pos (by omega)]
   ·rw [if_neg h3, if_neg (by omega)]
  ·rw [if_neg h2, if_neg h2]
theorem fM_done (qs : List Rat) {r : Nat} (hr : 1 ≤ r) : row (fM qs r (r - 1)) = row (fT qs (r + 1)) := row_congr (fun j _ => by
 unfold fT fM
 by_cases h : j < qs.length
 ·rw [if_pos h, if_pos h]
  by_cases h2 : j ≤ r - 1
  ·rw [if_pos h2, show r + 1 - 1 = (r - 1) + 1 by omega, tb_low (vl qs) h2]
  ·rw [if_neg h2, show r + 1 - 1 = r by omega]
 ·rw [if_neg h, if_neg h])
theorem fT_done (qs : List Rat) {r : Nat} (hr : qs.length ≤ r) : row (fT qs r) = dls qs := row_congr (fun j _ => by
 unfold fT
 by_cases h : j < qs.length
 ·rw [if_pos h, if_pos h, tb_done (vl qs) (by omega)]
 ·rw [if_neg h, if_neg h])
theorem rs_vl {qs : List Rat} {s : Nat} (h : ∀ i, RS s (qs.getD i 0)) : ∀ i, i < qs.length → RS s (vl qs i) := fun i _ => h i
/-- An array's zeros. -/
def rowZ : Value := .agg (List.replicate 33 [Value.bool false, .slice none 0 0, .slice none 0 0]).flatten.toArray
theorem info_row : (Tryz.prog.info? 88).map (·.zero) = some (some rowZ) := by kernel_rfl
theorem rowZ_cells : rowZ.cells.toList = (List.replicate 33 [Value.bool false, .slice none 0 0, .slice none 0 0]).flatten := rfl
theorem run_allocZ (P : Program) (t : TypeId) (z : Value) (a : Act) (o : Oper) (W : World) (ho : o.op = .alloc t) (h : (P.info? t).map (·.zero) = some (some z)) :
  (execOp a.eval o).run P W = .ok (.value (.pointer (some ⟨W.heap.size, 0, none⟩))) (W.alloc (.cells z.cells t (0, 0))) := by
 obtain ⟨i, hi, hz⟩ := Option.map_eq_some_iff.1 h
 simp [execOp, ho, Instr.alloc, zeroValue, typeInfo, hi, hz]
 rfl
/-
  The contract of Differences (package binomial).
-/
theorem RQ.more {w : World} {ok : Nat → Prop} {v : Value} {qs : List Rat} {k k' : Nat} (h : RQ w ok v qs k) (hk : k ≤ k') : RQ w ok v qs k' := by
 obtain ⟨xs, h1, h2, h3⟩ := h
 exact ⟨xs, h1, h2, fun x hx => ⟨(h3 x hx).1, (h3 x hx).2.1, by have := (h3 x hx).2.2.1; omega, by have := (h3 x hx).2.2.2; omega⟩⟩
theorem info_rat3 : (Tryz.prog.info? 46).map (·.size) = some 3 := by kernel_rfl
/-- Limbs of a table of the differences of n numbers of k limbs. -/
def dk (n k : Nat) : Nat := 2 * ((k + 1) * n) + (k + 1) + 4
def RetDiff (ok : Nat → Prop) (qs : List Rat) (k : Nat) (w0 : World) (e : Ending) (w' : World) : Prop := ∃ v m, e = .returned (.tuple #[v, .bool true]) ∧ IsTr (dls qs) m ∧ RQ w' ok v ((dls qs).take m) k ∧ Below w0.heap.size w0 w'
set_option maxRecDepth 100000 in
set_option maxHeartbeats 4000000 in
theorem diff_rat (ok : Nat → Prop) (v0 : Value) (qs : List Rat) (k : Nat) (w : World) (hok : ∀ k, w.heap.size ≤ k → ok k) (h0 : RQ w ok v0 qs k) (hk : k ≤ 5000) (hl : qs.length ≤ 33) :
  Calls Tryz.prog 23 #[v0] w (RetDiff ok qs (dk qs.length k + 1) w) := by
 have H0 := As h0
 have HRS := As (fun r i (h1 : i < qs.length) (h2 : r < qs.length) => RS.tb (rs_vl (fun i => h0.rs i)) hl (k := r) (i := i) h1 h2)
 have HOK := As hok
 have hK : dk qs.length k ≤ 900000 := by
  unfold dk
  have := Nat.mul_le_mul (show k + 1 ≤ 5001 by omega) hl
  omega
 have hkK : k ≤ dk qs.length k := by unfold dk; omega
 obtain ⟨K, hKK⟩ : ∃ K, dk qs.length k = K := ⟨_, rfl⟩
 have HKR := As (show ∀ r i, i < qs.length → r < qs.length → RS K (tb (vl qs) r i) from fun r i h1 h2 => by rw [← hKK]; exact HRS.out r i h1 h2)
 rw [hKK] at hK hkK ⊢
 have HK := As hK
 have HKL := As (show K ≤ 1000000 by omega)
 have hkKs := As hkK
 clear HRS hKK hkK hK
 obtain ⟨A, c, rfl, hc, hmx⟩ := h0.shape
 clear h0 hok
 have d33 : decide ((33 : Int) < (qs.length : Int)) = false := decide_eq_false (by omega)
 go_enter Tryz.func23, Tryz.ntmps23
 go_wp2_with (first
  | ((with_reducible refine gate_dst (N := 4) rfl ?_); (refine box_event rfl (N := 4) rfl (run_allocZ _ _ _ _ _ _ rfl info_row) ?_); intro g hg w1 hgc hb; have HG := As hg; have HB := As hb; have HR := As (RN.zeros (base := w.heap.size) (ok := ok) _ hgc rowZ_cells (by simp only [maxLen]; omega) (Nat.le_of_eq hg.symm) (HOK.out _ (Nat.le_of_eq hg.symm))); clear hg hgc hb)
  | ((with_reducible refine gate_builtin (b := .copy) (xs := #[.tmp 11, .tmp 12]) rfl ?_); refine rn_copy (w0 := w) (base := w.heap.size) 88 rfl (.tmp 11) (.tmp 12) 37 37 46 rfl Tryz.underlying37 info_rat3 g 33 33 (List.replicate 33 0) qs K A qs.length c ok rfl rfl (HR.out.more (Nat.zero_le _)) (((H0.out.old HB.out).mono (fun k hk => ⟨hk.1, by have := hk.2; have := HG.out; omega⟩)).more hkKs.out) (by rw [List.length_replicate]; exact hl) HB.out (Nat.le_of_eq HG.out.symm) ?_; intro w2 hr_ hb_; rw [fT_start qs hl] at hr_; have HR2 := As hr_; have HB2 := As hb_; clear hr_ hb_ HR HB)
  | fail)
 go_loopw [6] (fun vr wr => ∃ r : Nat, vr = .int .i64 r ∧ 1 ≤ r ∧ r ≤ qs.length + 1 ∧ Aside0 (RN 88 wr w.heap.size ok (.slice (some ⟨g, 0, none⟩) 33 33) (row (fT qs r)) K) ∧ Aside0 (Below w.heap.size w wr)) (fun vr _ => qs.length + 1 - (intOf vr).toNat)
 case atStart => exact ⟨1, rfl, Nat.le_refl _, by omega, HR2, HB2⟩
 case round =>
  clear HR2 HB2
  obtain ⟨r, rfl, hr1, hr2, HR, HB⟩ := hrel
  by_cases hlt : r < qs.length
  ·have hlb : decide ((r : Int) < (qs.length : Int)) = true := decide_eq_true (by omega)
   have HS := As (show RN 88 wr w.heap.size ok (.slice (some ⟨g, 0, none⟩) 33 33) (row (fM qs r (qs.length - 1))) K by rw [← fM_start]; exact HR.out)
   have HBo := HB
   clear HR HB
   obtain ⟨wo, hwo⟩ : ∃ wo, wo = wr := ⟨wr, rfl⟩
   subst hwo
   go_wp2
   go_loopw [7] (fun vi wr => ∃ i : Nat, vi = .int .i64 i ∧ r ≤ i + 1 ∧ i < qs.length ∧ Aside0 (RN 88 wr w.heap.size ok (.slice (some ⟨g, 0, none⟩) 33 33) (row (fM qs r i)) K) ∧ Aside0 (Below w.heap.size w wr)) (fun vi _ => (intOf vi).toNat + 1 - r)
   case atStart => exact ⟨qs.length - 1, by go_num, by omega, by omega, HS, HBo⟩
   case round =>
    clear HS HBo
    obtain ⟨i, rfl, hi1, hi2, HS, HB⟩ := hrel
    by_cases hge : r ≤ i
    ·have hgb : decide ((r : Int) ≤ (i : Int)) = true := decide_eq_true (by omega)
     have hlen : (row (fM qs r i)).length = 33 := row_length _
     obtain ⟨b1, A1, m1, c1, A2, m2, c2, x0, x1, x2, _, _, _, hp1⟩ := HS.out.at i (by omega)
     obtain ⟨b3, A3, m3, c3, A4, m4, c4, y0, y1, y2, _, _, _, hp2⟩ := HS.out.at (i - 1) (by omega)
     rw [row_get _ (by omega), show fM qs r i i = tb (vl qs) (r - 1) i by unfold fM; rw [if_pos hi2, if_pos (Nat.le_refl _)]] at hp1
     rw [row_get _ (by omega), show fM qs r i (i - 1) = tb (vl qs) (r - 1) (i - 1) by unfold fM; rw [if_pos (by omega), if_pos (by omega)]] at hp2
     obtain ⟨okk, hokk⟩ : ∃ okk : Nat → Prop, okk = fun k => ok k ∧ k ≠ g := ⟨_, rfl⟩
     have HOKK := As hokk
     rw [← hokk] at hp1 hp2
     have HP1 := As (hp1.below (below_drew1 (Below.refl wr.heap.size wr)))
     have HP2 := As (hp2.below (below_drew1 (Below.refl wr.heap.size wr)))
     have HSd := As (HS.out.below (below_drew1 (Below.refl wr.heap.size wr)))
     have HBd := As (below_step HB.out (below_drew1 (Below.refl wr.heap.size wr)))
     have HQ := As (show RS K (tb (vl qs) (r - 1) i - tb (vl qs) (r - 1) (i - 1)) by rw [← tb_next (vl qs) (show r - 1 < i by omega)]; exact HKR.out _ _ hi2 (by omega))
     obtain ⟨q, hq⟩ : ∃ q, tb (vl qs) (r - 1) i - tb (vl qs) (r - 1) (i - 1) = q := ⟨_, rfl⟩
     have HN := As (show (row (fM qs r i)).set i q = row (fM qs r (i - 1)) by rw [← hq]; exact fM_next qs hr1 hge hi2)
     obtain ⟨q1, hq1⟩ : ∃ q1, tb (vl qs) (r - 1) i = q1 := ⟨_, rfl⟩
     obtain ⟨q2, hq2⟩ : ∃ q2, tb (vl qs) (r - 1) (i - 1) = q2 := ⟨_, rfl⟩
     have HQE := As (show q1 - q2 = q by rw [← hq1, ← hq2]; exact hq)
     rw [hq1] at HP1
     rw [hq2] at HP2
     rw [hq] at HQ
     have hi33 : i < 33 := by omega
     have hi32 : i - 1 < 33 := by omega
     have hi0 : 0 < i := by omega
     have hi00 : 1 ≤ i := hi0
     have hti : ((i : Int) - 1).toNat = i - 1 := by omega
     have hwr : IntKind.i64.wrap ((i : Int) - 1) = (i : Int) - 1 := IntWalk.i64_in _ (by omega)
     have hii0 : (0 : Int) ≤ (i : Int) - 1 := by omega
     have hii1 : (i : Int) - 1 < 33 := by omega
     have hii2 : ¬ ((i : Int) - 1 < 0) := by omega
     have hgw : g < wr.heap.size := by
      obtain ⟨_, _, e, _, hl, _⟩ := HS.out.form (by omega)
      simp at e
      omega
     have HOKd := As (show ∀ k, wr.drew.heap.size ≤ k → okk k from fun k hk => by rw [hokk]; exact ⟨HOK.out k (Nat.le_trans HBd.out.size hk), by have h2 : wr.heap.size ≤ wr.drew.heap.size := (below_drew1 (Below.refl wr.heap.size wr)).size; omega⟩)
     have hlr := As hlen
     clear hp1 hp2 hokk hq hq1 hq2 hlen
     go_upto_region 11 with fail
     go_region_with (go_at_call 43; ((with_reducible refine (sub_rat okk _ _ _ _ _ _ _ HOKd.out HP1.out HP2.out HK.out HK.out).mono ?_); rintro e w2 ⟨v2, rfl, hv, hb⟩; have HV := As (hv.raw (show RS K _ by rw [HQE.out]; exact HQ.out)); (obtain ⟨b5, A5, m5, c5, A6, m6, c6, rfl⟩ := hv.shapeb); have HS2 := As (HSd.out.below hb); have HB2 := As (below_step HBd.out hb); (obtain ⟨_, _, _, _, _, _, _, k0, k1, k2, k3, k4, k5, _⟩ := HS2.out.at i (by rw [hlr.out]; omega)); clear hv hb))
     all_goals
      (have HV2 := As (show IsRaw _ (fun k => ok k ∧ k ≠ g) _ q K by rw [← HOKK.out, ← HQE.out]; exact HV.out)
       have HP := As (HS2.out.put i (by rw [hlr.out]; omega) HV2.out)
       rw [HN.out] at HP
       have HB3 := As (below_put3o (g := g) (o := i * 3) HB2.out (Nat.le_of_eq HG.out.symm) (.bool b5) (.slice A5 m5 c5) (.slice A6 m6 c6))
       go_wp2
       go_roundw
       case rel => exact ⟨i - 1, by go_num, by omega, by omega, HP, HB3⟩
       case measure => simp [intOf]; omega)
    ·have hgb : decide ((r : Int) ≤ (i : Int)) = false := decide_eq_false (by omega)
     have he : i = r - 1 := by omega
     subst he
     have HT := As (show RN 88 wr w.heap.size ok (.slice (some ⟨g, 0, none⟩) 33 33) (row (fT qs (r + 1))) K by rw [← fM_done qs hr1]; exact HS.out)
     go_wp2
     go_roundw
     case rel => exact ⟨r + 1, by go_num, by omega, by omega, HT, HB⟩
     case measure => simp [intOf]; omega
  ·have hlb : decide ((r : Int) < (qs.length : Int)) = false := decide_eq_false (by omega)
   rw [fT_done qs (by omega)] at HR
   have HOK1 := As (show ∀ k, wr.heap.size ≤ k → ok k from fun k hk => HOK.out k (Nat.le_trans HB.out.size hk))
   go_wp2_with (go_at_call 44; ((with_reducible refine (list_rat ok g w.heap.size (dls qs) K _ HOK1.out HR.out HKL.out).mono ?_); rintro e w2 ⟨v2, m, rfl, ht, hv, hb⟩; have HT := As ht; have HV := As hv; have HB2 := As (below_step HB.out hb); clear ht hv hb))
   go_ret2
   exact ⟨_, m, rfl, HT.out, HV.out, HB2.out⟩
end Go.Proofs.YtldkcpgnccknpaaGreat
