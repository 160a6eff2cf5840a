/-
  The parts ValW, ValX, ValY, ValZ: the contracts of the program's functions and the plain laws below them; each part's own remark says which.
-/
import Derived.Test.YtldkcpgnccknpaaGreatVC
import Derived.Deep.RegionWith
import Derived.Deep.LoopGhost
import Derived.Maps.OwnSet
set_option linter.unusedVariables false
set_option linter.unusedSimpArgs false
/-
  The contracts of token.small, great, digit, part, Keyword and sign.
-/
namespace Go.Proofs.YtldkcpgnccknpaaGreat
open Go.RowKit Go.Proofs.YtldkcpgnccknpaaGreatW.PrintWords Go.Proofs.YtldkcpgnccknpaaGreatW.PrintMore Go.Proofs.YtldkcpgnccknpaaGreatW.PrintLast
set_option linter.unusedVariables false
def smB (c : Int) : Bool := decide (97 ≤ c) && decide (c ≤ 122)
def grB (c : Int) : Bool := decide (65 ≤ c) && decide (c ≤ 90)
def dgB (c : Int) : Bool := decide (48 ≤ c) && decide (c ≤ 57)
def ptB (c : Int) : Bool := smB c || grB c || dgB c || (c == 95)
theorem small_fn (c : Int) (w : World) : Calls Tryz.prog 136 #[.int .u8 c] w (RetB (smB c) w) := by
 obtain ⟨p, hp⟩ : ∃ p, decide (97 ≤ c) = p := ⟨_, rfl⟩
 obtain ⟨q, hq⟩ : ∃ q, decide (c ≤ 122) = q := ⟨_, rfl⟩
 have HE := As (show smB c = (p && q) by unfold smB; rw [hp, hq])
 have HB := As (Below.refl w.heap.size w)
 cases p <;> cases q
 all_goals
  (go_enter Tryz.func136, Tryz.ntmps136
   go_wp2
   go_ret
   exact RetB.mk (by rw [HE.out]; rfl) HB.out)
theorem great_fn (c : Int) (w : World) : Calls Tryz.prog 137 #[.int .u8 c] w (RetB (grB c) w) := by
 obtain ⟨p, hp⟩ : ∃ p, decide (65 ≤ c) = p := ⟨_, rfl⟩
 obtain ⟨q, hq⟩ : ∃ q, decide (c ≤ 90) = q := ⟨_, rfl⟩
 have HE := As (show grB c = (p && q) by unfold grB; rw [hp, hq])
 have HB := As (Below.refl w.heap.size w)
 cases p <;> cases q
 all_goals
  (go_enter Tryz.func137, Tryz.ntmps137
   go_wp2
   go_ret
   exact RetB.mk (by rw [HE.out]; rfl) HB.out)
theorem digit_fn (c : Int) (w : World) : Calls Tryz.prog 140 #[.int .u8 c] w (RetB (dgB c) w) := by
 obtain ⟨p, hp⟩ : ∃ p, decide (48 ≤ c) = p := ⟨_, rfl⟩
 obtain ⟨q, hq⟩ : ∃ q, decide (c ≤ 57) = q := ⟨_, rfl⟩
 have HE := As (show dgB c = (p && q) by unfold dgB; rw [hp, hq])
 have HB := As (Below.refl w.heap.size w)
 cases p <;> cases q
 all_goals
  (go_enter Tryz.func140, Tryz.ntmps140
   go_wp2
   go_ret
   exact RetB.mk (by rw [HE.out]; rfl) HB.out)
theorem part_fn (c : Int) (w : World) : Calls Tryz.prog 138 #[.int .u8 c] w (RetB (ptB c) w) := by
 obtain ⟨p, hp⟩ : ∃ p, smB c = p := ⟨_, rfl⟩
 obtain ⟨q, hq⟩ : ∃ q, grB c = q := ⟨_, rfl⟩
 obtain ⟨r, hr⟩ : ∃ r, dgB c = r := ⟨_, rfl⟩
 obtain ⟨s, hs⟩ : ∃ s, (c == 95) = s := ⟨_, rfl⟩
 have HE := As (show ptB c = (p || q || r || s) by unfold ptB; rw [hp, hq, hr, hs])
 have HP := As hp
 have HQ := As hq
 have HR := As hr
 have HB := As (Below.refl w.heap.size w)
 clear hp hq hr
 go_enter Tryz.func138, Tryz.ntmps138
 go_wp2_with fail
 with_reducible refine (small_fn c _).mono ?_
 rintro e w1 ⟨rfl, hb⟩
 have HB1 := As (below_step HB.out hb)
 clear hb
 rw [HP.out]
 cases p with
 | true =>
  go_wp2
  go_ret
  exact RetB.mk (by rw [HE.out]; rfl) HB1.out
 | false =>
  go_wp2_with fail
  with_reducible refine (great_fn c _).mono ?_
  rintro e w2 ⟨rfl, hb⟩
  have HB2 := As (below_step HB1.out hb)
  clear hb
  rw [HQ.out]
  cases q with
  | true =>
   go_wp2
   go_ret
   exact RetB.mk (by rw [HE.out]; rfl) HB2.out
  | false =>
   go_wp2_with fail
   with_reducible refine (digit_fn c _).mono ?_
   rintro e w3 ⟨rfl, hb⟩
   have HB3 := As (below_step HB2.out hb)
   clear hb
   rw [HR.out]
   cases r <;> cases s
   all_goals
    (go_wp2
     go_ret
     exact RetB.mk (by rw [HE.out]; rfl) HB3.out)
/-- Some bool. -/
def RetAny (w0 : World) (e : Ending) (w' : World) : Prop := ∃ b : Bool, e = .returned (.bool b) ∧ Below w0.heap.size w0 w'
set_option maxHeartbeats 8000000 in
set_option maxRecDepth 100000 in
theorem keyword_fn (s : ByteArray) (w : World) : Calls Tryz.prog 139 #[.string s] w (RetAny w) := by
 have HB := As (Below.refl w.heap.size w)
 by_cases c0 : (s.toList == ([97, 114, 114, 97, 121] : List UInt8)) = true
 ·go_enter Tryz.func139, Tryz.ntmps139
  go_wp2
  go_ret
  exact ⟨true, rfl, HB.out⟩
 replace c0 := Bool.eq_false_iff.2 c0
 by_cases c1 : (s.toList == ([98, 111, 111, 108] : List UInt8)) = true
 ·go_enter Tryz.func139, Tryz.ntmps139
  go_wp2
  go_ret
  exact ⟨true, rfl, HB.out⟩
 replace c1 := Bool.eq_false_iff.2 c1
 by_cases c2 : (s.toList == ([99, 97, 116, 99, 104] : List UInt8)) = true
 ·go_enter Tryz.func139, Tryz.ntmps139
  go_wp2
  go_ret
  exact ⟨true, rfl, HB.out⟩
 replace c2 := Bool.eq_false_iff.2 c2
 by_cases c3 : (s.toList == ([100, 97, 116, 97] : List UInt8)) = true
 ·go_enter Tryz.func139, Tryz.ntmps139
  go_wp2
  go_ret
  exact ⟨true, rfl, HB.out⟩
 replace c3 := Bool.eq_false_iff.2 c3
 by_cases c4 : (s.toList == ([101, 108, 115, 101] : List UInt8)) = true
 ·go_enter Tryz.func139, Tryz.ntmps139
  go_wp2
  go_ret
  exact ⟨true, rfl, HB.out⟩
 replace c4 := Bool.eq_false_iff.2 c4
 by_cases c5 : (s.toList == ([101, 110, 100] : List UInt8)) = true
 ·go_enter Tryz.func139, Tryz.ntmps139
  go_wp2
  go_ret
  exact ⟨true, rfl, HB.out⟩
 replace c5 := Bool.eq_false_iff.2 c5
 by_cases c6 : (s.toList == ([102, 97, 108, 115, 101] : List UInt8)) = true
 ·go_enter Tryz.func139, Tryz.ntmps139
  go_wp2
  go_ret
  exact ⟨true, rfl, HB.out⟩
 replace c6 := Bool.eq_false_iff.2 c6
 by_cases c7 : (s.toList == ([102, 110] : List UInt8)) = true
 ·go_enter Tryz.func139, Tryz.ntmps139
  go_wp2
  go_ret
  exact ⟨true, rfl, HB.out⟩
 replace c7 := Bool.eq_false_iff.2 c7
 by_cases c8 : (s.toList == ([102, 117, 110] : List UInt8)) = true
 ·go_enter Tryz.func139, Tryz.ntmps139
  go_wp2
  go_ret
  exact ⟨true, rfl, HB.out⟩
 replace c8 := Bool.eq_false_iff.2 c8
 by_cases c9 : (s.toList == ([103, 101, 116] : List UInt8)) = true
 ·go_enter Tryz.func139, Tryz.ntmps139
  go_wp2
  go_ret
  exact ⟨true, rfl, HB.out⟩
 replace c9 := Bool.eq_false_iff.2 c9
 by_cases c10 : (s.toList == ([105, 102] : List UInt8)) = true
 ·go_enter Tryz.func139, Tryz.ntmps139
  go_wp2
  go_ret
  exact ⟨true, rfl, HB.out⟩
 replace c10 := Bool.eq_false_iff.2 c10
 by_cases c11 : (s.toList == ([105, 110] : List UInt8)) = true
 ·go_enter Tryz.func139, Tryz.ntmps139
  go_wp2
  go_ret
  exact ⟨true, rfl, HB.out⟩
 replace c11 := Bool.eq_false_iff.2 c11
 by_cases c12 : (s.toList == ([105, 110, 116] : List UInt8)) = true
 ·go_enter Tryz.func139, Tryz.ntmps139
  go_wp2
  go_ret
  exact ⟨true, rfl, HB.out⟩
 replace c12 := Bool.eq_false_iff.2 c12
 by_cases c13 : (s.toList == ([108, 101, 110] : List UInt8)) = true
 ·go_enter Tryz.func139, Tryz.ntmps139
  go_wp2
  go_ret
  exact ⟨true, rfl, HB.out⟩
 replace c13 := Bool.eq_false_iff.2 c13
 by_cases c14 : (s.toList == ([108, 101, 116] : List UInt8)) = true
 ·go_enter Tryz.func139, Tryz.ntmps139
  go_wp2
  go_ret
  exact ⟨true, rfl, HB.out⟩
 replace c14 := Bool.eq_false_iff.2 c14
 by_cases c15 : (s.toList == ([109, 97, 116, 99, 104] : List UInt8)) = true
 ·go_enter Tryz.func139, Tryz.ntmps139
  go_wp2
  go_ret
  exact ⟨true, rfl, HB.out⟩
 replace c15 := Bool.eq_false_iff.2 c15
 by_cases c16 : (s.toList == ([110, 101, 119] : List UInt8)) = true
 ·go_enter Tryz.func139, Tryz.ntmps139
  go_wp2
  go_ret
  exact ⟨true, rfl, HB.out⟩
 replace c16 := Bool.eq_false_iff.2 c16
 by_cases c17 : (s.toList == ([114, 97, 105, 115, 101] : List UInt8)) = true
 ·go_enter Tryz.func139, Tryz.ntmps139
  go_wp2
  go_ret
  exact ⟨true, rfl, HB.out⟩
 replace c17 := Bool.eq_false_iff.2 c17
 by_cases c18 : (s.toList == ([114, 101, 97, 100] : List UInt8)) = true
 ·go_enter Tryz.func139, Tryz.ntmps139
  go_wp2
  go_ret
  exact ⟨true, rfl, HB.out⟩
 replace c18 := Bool.eq_false_iff.2 c18
 by_cases c19 : (s.toList == ([114, 101, 102] : List UInt8)) = true
 ·go_enter Tryz.func139, Tryz.ntmps139
  go_wp2
  go_ret
  exact ⟨true, rfl, HB.out⟩
 replace c19 := Bool.eq_false_iff.2 c19
 by_cases c20 : (s.toList == ([115, 101, 116] : List UInt8)) = true
 ·go_enter Tryz.func139, Tryz.ntmps139
  go_wp2
  go_ret
  exact ⟨true, rfl, HB.out⟩
 replace c20 := Bool.eq_false_iff.2 c20
 by_cases c21 : (s.toList == ([116, 104, 101, 110] : List UInt8)) = true
 ·go_enter Tryz.func139, Tryz.ntmps139
  go_wp2
  go_ret
  exact ⟨true, rfl, HB.out⟩
 replace c21 := Bool.eq_false_iff.2 c21
 by_cases c22 : (s.toList == ([116, 105, 99, 107] : List UInt8)) = true
 ·go_enter Tryz.func139, Tryz.ntmps139
  go_wp2
  go_ret
  exact ⟨true, rfl, HB.out⟩
 replace c22 := Bool.eq_false_iff.2 c22
 by_cases c23 : (s.toList == ([116, 114, 117, 101] : List UInt8)) = true
 ·go_enter Tryz.func139, Tryz.ntmps139
  go_wp2
  go_ret
  exact ⟨true, rfl, HB.out⟩
 replace c23 := Bool.eq_false_iff.2 c23
 by_cases c24 : (s.toList == ([116, 114, 121] : List UInt8)) = true
 ·go_enter Tryz.func139, Tryz.ntmps139
  go_wp2
  go_ret
  exact ⟨true, rfl, HB.out⟩
 replace c24 := Bool.eq_false_iff.2 c24
 by_cases c25 : (s.toList == ([117, 110, 105, 116] : List UInt8)) = true
 ·go_enter Tryz.func139, Tryz.ntmps139
  go_wp2
  go_ret
  exact ⟨true, rfl, HB.out⟩
 replace c25 := Bool.eq_false_iff.2 c25
 by_cases c26 : (s.toList == ([119, 105, 116, 104] : List UInt8)) = true
 ·go_enter Tryz.func139, Tryz.ntmps139
  go_wp2
  go_ret
  exact ⟨true, rfl, HB.out⟩
 replace c26 := Bool.eq_false_iff.2 c26
 by_cases c27 : (s.toList == ([119, 114, 105, 116, 101] : List UInt8)) = true
 ·go_enter Tryz.func139, Tryz.ntmps139
  go_wp2
  go_ret
  exact ⟨true, rfl, HB.out⟩
 replace c27 := Bool.eq_false_iff.2 c27
 go_enter Tryz.func139, Tryz.ntmps139
 go_wp2
 go_ret
 exact ⟨false, rfl, HB.out⟩
/-- Some text, not longer. -/
def RetSub (n : Nat) (w0 : World) (e : Ending) (w' : World) : Prop := ∃ s : ByteArray, e = .returned (.string s) ∧ s.size ≤ n ∧ Below w0.heap.size w0 w'
theorem ext_size {s : ByteArray} {i j : Nat} (h : j ≤ s.size) : (s.extract i j).size = j - i := by
 rw [ByteArray.size_extract]
 omega
set_option maxHeartbeats 8000000 in
set_option maxRecDepth 100000 in
theorem sign_fn (s : ByteArray) (w : World) (hs : 0 < s.size) (hm : s.size ≤ 1000000) : Calls Tryz.prog 141 #[.string s] w (RetSub s.size w) := by
 have HB := As (Below.refl w.heap.size w)
 have hx : ∀ h : 0 < s.size, ((s[0]'h).toNat : Int) = bt s 0 := bt_at s 0
 have hs0 : (0 : Int) < (s.size : Int) := by omega
 have hs1 : (1 : Int) ≤ (s.size : Int) := by omega
 by_cases h2 : 1 < s.size
 ·have h2b : decide ((1 : Int) < (s.size : Int)) = true := decide_eq_true (by omega)
  have hs2 : (2 : Int) ≤ (s.size : Int) := by omega
  by_cases e0 : ((s.extract 0 2).toList == ([45, 62] : List UInt8)) = true
  ·go_enter Tryz.func141, Tryz.ntmps141
   go_wp2
   go_ret
   exact ⟨_, rfl, (by rw [ext_size (by omega)]; omega), HB.out⟩
  replace e0 := Bool.eq_false_iff.2 e0
  by_cases e1 : ((s.extract 0 2).toList == ([60, 61] : List UInt8)) = true
  ·go_enter Tryz.func141, Tryz.ntmps141
   go_wp2
   go_ret
   exact ⟨_, rfl, (by rw [ext_size (by omega)]; omega), HB.out⟩
  replace e1 := Bool.eq_false_iff.2 e1
  by_cases e2 : ((s.extract 0 2).toList == ([61, 61] : List UInt8)) = true
  ·go_enter Tryz.func141, Tryz.ntmps141
   go_wp2
   go_ret
   exact ⟨_, rfl, (by rw [ext_size (by omega)]; omega), HB.out⟩
  replace e2 := Bool.eq_false_iff.2 e2
  by_cases d0 : (bt s 0 == 40) = true
  ·go_enter Tryz.func141, Tryz.ntmps141
   go_wp2
   go_ret
   exact ⟨_, rfl, (by rw [ext_size (by omega)]; omega), HB.out⟩
  replace d0 := Bool.eq_false_iff.2 d0
  by_cases d1 : (bt s 0 == 41) = true
  ·go_enter Tryz.func141, Tryz.ntmps141
   go_wp2
   go_ret
   exact ⟨_, rfl, (by rw [ext_size (by omega)]; omega), HB.out⟩
  replace d1 := Bool.eq_false_iff.2 d1
  by_cases d2 : (bt s 0 == 44) = true
  ·go_enter Tryz.func141, Tryz.ntmps141
   go_wp2
   go_ret
   exact ⟨_, rfl, (by rw [ext_size (by omega)]; omega), HB.out⟩
  replace d2 := Bool.eq_false_iff.2 d2
  by_cases d3 : (bt s 0 == 61) = true
  ·go_enter Tryz.func141, Tryz.ntmps141
   go_wp2
   go_ret
   exact ⟨_, rfl, (by rw [ext_size (by omega)]; omega), HB.out⟩
  replace d3 := Bool.eq_false_iff.2 d3
  by_cases d4 : (bt s 0 == 124) = true
  ·go_enter Tryz.func141, Tryz.ntmps141
   go_wp2
   go_ret
   exact ⟨_, rfl, (by rw [ext_size (by omega)]; omega), HB.out⟩
  replace d4 := Bool.eq_false_iff.2 d4
  by_cases d5 : (bt s 0 == 43) = true
  ·go_enter Tryz.func141, Tryz.ntmps141
   go_wp2
   go_ret
   exact ⟨_, rfl, (by rw [ext_size (by omega)]; omega), HB.out⟩
  replace d5 := Bool.eq_false_iff.2 d5
  by_cases d6 : (bt s 0 == 45) = true
  ·go_enter Tryz.func141, Tryz.ntmps141
   go_wp2
   go_ret
   exact ⟨_, rfl, (by rw [ext_size (by omega)]; omega), HB.out⟩
  replace d6 := Bool.eq_false_iff.2 d6
  by_cases d7 : (bt s 0 == 42) = true
  ·go_enter Tryz.func141, Tryz.ntmps141
   go_wp2
   go_ret
   exact ⟨_, rfl, (by rw [ext_size (by omega)]; omega), HB.out⟩
  replace d7 := Bool.eq_false_iff.2 d7
  by_cases d8 : (bt s 0 == 47) = true
  ·go_enter Tryz.func141, Tryz.ntmps141
   go_wp2
   go_ret
   exact ⟨_, rfl, (by rw [ext_size (by omega)]; omega), HB.out⟩
  replace d8 := Bool.eq_false_iff.2 d8
  by_cases d9 : (bt s 0 == 37) = true
  ·go_enter Tryz.func141, Tryz.ntmps141
   go_wp2
   go_ret
   exact ⟨_, rfl, (by rw [ext_size (by omega)]; omega), HB.out⟩
  replace d9 := Bool.eq_false_iff.2 d9
  by_cases d10 : (bt s 0 == 60) = true
  ·go_enter Tryz.func141, Tryz.ntmps141
   go_wp2
   go_ret
   exact ⟨_, rfl, (by rw [ext_size (by omega)]; omega), HB.out⟩
  replace d10 := Bool.eq_false_iff.2 d10
  by_cases d11 : (bt s 0 == 59) = true
  ·go_enter Tryz.func141, Tryz.ntmps141
   go_wp2
   go_ret
   exact ⟨_, rfl, (by rw [ext_size (by omega)]; omega), HB.out⟩
  replace d11 := Bool.eq_false_iff.2 d11
  by_cases d12 : (bt s 0 == 95) = true
  ·go_enter Tryz.func141, Tryz.ntmps141
   go_wp2
   go_ret
   exact ⟨_, rfl, (by rw [ext_size (by omega)]; omega), HB.out⟩
  replace d12 := Bool.eq_false_iff.2 d12
  go_enter Tryz.func141, Tryz.ntmps141
  go_wp2
  go_ret
  exact ⟨_, rfl, Nat.zero_le _, HB.out⟩
 ·have h2b : decide ((1 : Int) < (s.size : Int)) = false := decide_eq_false (by omega)
  by_cases d0 : (bt s 0 == 40) = true
  ·go_enter Tryz.func141, Tryz.ntmps141
   go_wp2
   go_ret
   exact ⟨_, rfl, (by rw [ext_size (by omega)]; omega), HB.out⟩
  replace d0 := Bool.eq_false_iff.2 d0
  by_cases d1 : (bt s 0 == 41) = true
  ·go_enter Tryz.func141, Tryz.ntmps141
   go_wp2
   go_ret
   exact ⟨_, rfl, (by rw [ext_size (by omega)]; omega), HB.out⟩
  replace d1 := Bool.eq_false_iff.2 d1
  by_cases d2 : (bt s 0 == 44) = true
  ·go_enter Tryz.func141, Tryz.ntmps141
   go_wp2
   go_ret
   exact ⟨_, rfl, (by rw [ext_size (by omega)]; omega), HB.out⟩
  replace d2 := Bool.eq_false_iff.2 d2
  by_cases d3 : (bt s 0 == 61) = true
  ·go_enter Tryz.func141, Tryz.ntmps141
   go_wp2
   go_ret
   exact ⟨_, rfl, (by rw [ext_size (by omega)]; omega), HB.out⟩
  replace d3 := Bool.eq_false_iff.2 d3
  by_cases d4 : (bt s 0 == 124) = true
  ·go_enter Tryz.func141, Tryz.ntmps141
   go_wp2
   go_ret
   exact ⟨_, rfl, (by rw [ext_size (by omega)]; omega), HB.out⟩
  replace d4 := Bool.eq_false_iff.2 d4
  by_cases d5 : (bt s 0 == 43) = true
  ·go_enter Tryz.func141, Tryz.ntmps141
   go_wp2
   go_ret
   exact ⟨_, rfl, (by rw [ext_size (by omega)]; omega), HB.out⟩
  replace d5 := Bool.eq_false_iff.2 d5
  by_cases d6 : (bt s 0 == 45) = true
  ·go_enter Tryz.func141, Tryz.ntmps141
   go_wp2
   go_ret
   exact ⟨_, rfl, (by rw [ext_size (by omega)]; omega), HB.out⟩
  replace d6 := Bool.eq_false_iff.2 d6
  by_cases d7 : (bt s 0 == 42) = true
  ·go_enter Tryz.func141, Tryz.ntmps141
   go_wp2
   go_ret
   exact ⟨_, rfl, (by rw [ext_size (by omega)]; omega), HB.out⟩
  replace d7 := Bool.eq_false_iff.2 d7
  by_cases d8 : (bt s 0 == 47) = true
  ·go_enter Tryz.func141, Tryz.ntmps141
   go_wp2
   go_ret
   exact ⟨_, rfl, (by rw [ext_size (by omega)]; omega), HB.out⟩
  replace d8 := Bool.eq_false_iff.2 d8
  by_cases d9 : (bt s 0 == 37) = true
  ·go_enter Tryz.func141, Tryz.ntmps141
   go_wp2
   go_ret
   exact ⟨_, rfl, (by rw [ext_size (by omega)]; omega), HB.out⟩
  replace d9 := Bool.eq_false_iff.2 d9
  by_cases d10 : (bt s 0 == 60) = true
  ·go_enter Tryz.func141, Tryz.ntmps141
   go_wp2
   go_ret
   exact ⟨_, rfl, (by rw [ext_size (by omega)]; omega), HB.out⟩
  replace d10 := Bool.eq_false_iff.2 d10
  by_cases d11 : (bt s 0 == 59) = true
  ·go_enter Tryz.func141, Tryz.ntmps141
   go_wp2
   go_ret
   exact ⟨_, rfl, (by rw [ext_size (by omega)]; omega), HB.out⟩
  replace d11 := Bool.eq_false_iff.2 d11
  by_cases d12 : (bt s 0 == 95) = true
  ·go_enter Tryz.func141, Tryz.ntmps141
   go_wp2
   go_ret
   exact ⟨_, rfl, (by rw [ext_size (by omega)]; omega), HB.out⟩
  replace d12 := Bool.eq_false_iff.2 d12
  go_enter Tryz.func141, Tryz.ntmps141
  go_wp2
  go_ret
  exact ⟨_, rfl, Nat.zero_le _, HB.out⟩
/-
  The contract of token.next.
-/
/-- From i on, n bytes: an upper name. -/
def UpAt (s : ByteArray) (i n : Nat) : Prop := n ≤ 24 ∧ grB (bt s (i : Int)) = true ∧ ∀ m, i ≤ m → m < i + n → ptB (bt s (m : Int)) = true
/-- The whole text is an upper name. -/
def Ups (s : ByteArray) : Prop := 0 < s.size ∧ UpAt s 0 s.size
def TokOk (s : ByteArray) (i : Nat) (k : Int) (t : ByteArray) (er : Int) : Prop := i + t.size ≤ s.size ∧ (er = 0 → 1 ≤ t.size) ∧ (er = 0 → k = 2 → UpAt s i t.size) ∧ (i = 0 → Ups s → k = 2 ∧ er = 0 ∧ t = s)
def RetTok (s : ByteArray) (i : Nat) (w0 : World) (e : Ending) (w' : World) : Prop := Below w0.heap.size w0 w' ∧ ∃ (k : Int) (t : ByteArray) (er : Int), e = .returned (.tuple #[.agg #[.int .i64 k, .string t, .int .i64 (i : Int)], .int .i64 er]) ∧ TokOk s i k t er
theorem ext_all (s : ByteArray) : s.extract 0 s.size = s := by
 apply ByteArray.ext
 simp
set_option maxRecDepth 100000 in
set_option maxHeartbeats 8000000 in
theorem next_fn (s : ByteArray) (i : Nat) (w : World) (hi : i < s.size) (hs : s.size ≤ 16384) : Calls Tryz.prog 130 #[.string s, .int .i64 (i : Int)] w (RetTok s i w) := by
  obtain ⟨c, hc⟩ : ∃ c, bt s (i : Int) = c := ⟨_, rfl⟩
  have HC := As hc
  have hx : ∀ h : i < s.size, ((s[i]'h).toNat : Int) = c := by rw [← hc]; exact bt_at s (i : Int)
  have hi1 : (i : Int) < (s.size : Int) := by omega
  obtain ⟨W1, hW1⟩ : ∃ W1, w.alloc (.cells #[.int .i64 0, .string ⟨#[]⟩, .int .i64 0] 147) = W1 := ⟨_, rfl⟩
  obtain ⟨W2, hW2⟩ : ∃ W2, W1.alloc (.cells #[.int .i64 0, .string ⟨#[]⟩, .int .i64 (i : Int)] 147) = W2 := ⟨_, rfl⟩
  have hWW : (w.alloc (.cells #[.int .i64 0, .string ⟨#[]⟩, .int .i64 0] 147)).alloc (.cells #[.int .i64 0, .string ⟨#[]⟩, .int .i64 (i : Int)] 147) = W2 := by rw [hW1]; exact hW2
  have hs1 : W1.heap.size = w.heap.size + 1 := by rw [← hW1]; show (w.heap.push _).size = _; simp
  have hb1 : Below w.heap.size w W1 := by rw [← hW1]; exact below_alloc (Below.refl _ _) _
  have hb12 : Below W1.heap.size W1 W2 := by rw [← hW2]; exact below_alloc (Below.refl _ _) _
  have hg1 : W1.heap[w.heap.size]? = some (.cells #[.int .i64 0, .string ⟨#[]⟩, .int .i64 0] 147 (0, 0)) := by rw [← hW1]; exact heap_alloc_new _ _
  have hg2 : W2.heap[w.heap.size + 1]? = some (.cells #[.int .i64 0, .string ⟨#[]⟩, .int .i64 (i : Int)] 147 (0, 0)) := by rw [← hs1, ← hW2]; exact heap_alloc_new _ _
  have HG4 := As (blk_below hg1 hb12)
  have HG8 := As hg2
  have HWW := As hWW
  have HB2 := As (below_step hb1 hb12)
  clear hWW hW1 hW2 hs1 hb1 hb12 hg1 hg2 hc
  go_enter Tryz.func130, Tryz.ntmps130
  go_upto_region 6 with fail
  rw [HWW.out]
  go_cut [27] from 28 to 33 (fun v27 wx => v27 = .bool (smB c || grB c) ∧ Aside0 (Below W2.heap.size W2 wx))
  case first =>
    obtain ⟨p, hp⟩ : ∃ p, smB c = p := ⟨_, rfl⟩
    have HP := As hp
    clear hp
    go_wp2_with fail
    with_reducible refine (small_fn c _).mono ?_
    rintro e w1 ⟨rfl, hb⟩
    have HB1 := As hb
    rw [HP.out]
    clear hb
    cases p with
    | true =>
      go_wp2
      go_meet
      case rel => exact ⟨by rw [HP.out]; rfl, HB1⟩
    | false =>
      go_wp2_with fail
      with_reducible refine (great_fn c _).mono ?_
      rintro e w2 ⟨rfl, hb⟩
      have HB3 := As (below_step HB1.out hb)
      clear hb
      go_wp2
      go_meet
      case rel => exact ⟨by rw [HP.out]; rfl, HB3⟩
  case rest =>
    obtain ⟨rfl, HBc⟩ := hcut
    have HB3 := As (below_step HB2.out HBc.out)
    have HG4c := As (blk_below HG4.out HBc.out)
    have HG8c := As (blk_below HG8.out HBc.out)
    clear HB2 HG4 HG8 HBc
    obtain ⟨sg, hsg⟩ : ∃ sg, (smB c || grB c) = sg := ⟨_, rfl⟩
    have HSG := As hsg
    rw [hsg]
    clear hsg
    cases sg with
    | true =>
      go_upto_block 1 with fail
      go_cut [7] from 34 to 45 (fun v7 wx => ∃ j : Nat, v7 = .int .i64 (j : Int) ∧ Aside0 (i + 1 ≤ j ∧ j ≤ s.size ∧ (∀ m : Nat, i + 1 ≤ m → m < j → ptB (bt s (m : Int)) = true) ∧ (j < s.size → ptB (bt s (j : Int)) = false)) ∧ Aside0 (Below wc.heap.size wc wx))
      case first =>
        have HBr := As (Below.refl wc.heap.size wc)
        go_wp2
        go_loopw [7] (fun v7 wr => ∃ j : Nat, v7 = .int .i64 (j : Int) ∧ i + 1 ≤ j ∧ j ≤ s.size ∧ Aside0 (∀ m : Nat, i + 1 ≤ m → m < j → ptB (bt s (m : Int)) = true) ∧ Aside0 (Below wc.heap.size wc wr)) (fun v7 _ => s.size - (intOf v7).toNat)
        case atStart => exact ⟨i + 1, by go_num, Nat.le_refl _, hi, ⟨fun m h1 h2 => by omega⟩, HBr⟩
        case round =>
          clear HBr
          obtain ⟨j, rfl, hj1, hj2, HK, HBr⟩ := hrel
          by_cases hlt : j < s.size
          · have hlb : decide ((j : Int) < (s.size : Int)) = true := decide_eq_true (by omega)
            obtain ⟨d, hd⟩ : ∃ d, bt s (j : Int) = d := ⟨_, rfl⟩
            have HDD := As hd
            have hxj : ∀ h : j < s.size, ((s[j]'h).toNat : Int) = d := by rw [← hd]; exact bt_at s (j : Int)
            obtain ⟨q, hq⟩ : ∃ q, ptB d = q := ⟨_, rfl⟩
            have HQ := As hq
            clear hd hq
            go_wp2_with fail
            with_reducible refine (part_fn d _).mono ?_
            rintro e w1 ⟨rfl, hb⟩
            have HB4 := As (below_step HBr.out hb)
            rw [HQ.out]
            clear hb
            cases q with
            | true =>
              go_wp2
              go_roundw
              case rel => exact ⟨j + 1, by go_num, by omega, by omega, ⟨fun m h1 h2 => by rcases Nat.lt_or_ge m j with h | h; exact HK.out m h1 h; rw [show m = j by omega, HDD.out]; exact HQ.out⟩, HB4⟩
              case measure => simp [intOf]; omega
            | false =>
              go_wp2
              go_meet
              case rel => exact ⟨j, rfl, ⟨hj1, hj2, HK.out, fun _ => by rw [HDD.out]; exact HQ.out⟩, HB4⟩
          · have hlb : decide ((j : Int) < (s.size : Int)) = false := decide_eq_false (by omega)
            go_wp2
            go_meet
            case rel => exact ⟨j, rfl, ⟨hj1, hj2, HK.out, fun h => absurd h hlt⟩, HBr⟩
      case rest =>
        obtain ⟨j, rfl, HJ, HBd⟩ := hcut
        have HB4 := As (below_step HB3.out HBd.out)
        have HG4d := As (blk_below HG4c.out HBd.out)
        have HG8d := As (blk_below HG8c.out HBd.out)
        have u0 := (blk_cell HG8d.out 0).trans rfl
        have u1 := (blk_cell HG8d.out 1).trans rfl
        have u2 := (blk_cell HG8d.out 2).trans rfl
        have f0 := blk_frozen HG8d.out 0
        have f1 := blk_frozen HG8d.out 1
        have hgl := blk_lt HG8d.out
        have hij : (i : Int) ≤ (j : Int) := by have := HJ.out.1; omega
        have hjs : (j : Int) ≤ (s.size : Int) := by have := HJ.out.2.1; omega
        clear HB3 HG4c HG8c HBd
        go_upto_region 9 with fail
        go_region_with fail
        obtain ⟨t, ht⟩ : ∃ t, s.extract i j = t := ⟨_, rfl⟩
        have HTX := As ht
        rw [ht]
        obtain ⟨W5, hW5⟩ : ∃ W5, ((wc.setCell ⟨w.heap.size + 1, 0, none⟩ (.int .i64 1)).setCell ⟨w.heap.size + 1, 1, none⟩ (.string t)).drew = W5 := ⟨_, rfl⟩
        have HB5 := As (show Below w.heap.size w W5 by rw [← hW5]; exact below_drew1 (below_set (below_set HB4.out (by omega)) (by omega)))
        have HG8e := As (show W5.heap[w.heap.size + 1]? = some (.cells #[.int .i64 1, .string t, .int .i64 (i : Int)] 147 (0, 0)) by rw [← hW5]; exact blk_drew (blk_put (cs' := #[.int .i64 1, .string t, .int .i64 (i : Int)]) (blk_put (cs' := #[.int .i64 1, .string ⟨#[]⟩, .int .i64 (i : Int)]) HG8d.out 0 _ rfl) 1 _ rfl))
        have HG4e := As (show W5.heap[w.heap.size]? = some (.cells #[.int .i64 0, .string ⟨#[]⟩, .int .i64 0] 147 (0, 0)) by rw [← hW5]; exact blk_drew (blk_far (blk_far HG4d.out (by simp) _) (by simp) _))
        have HTS := As (show t.size = j - i by rw [← ht]; exact ext_size HJ.out.2.1)
        have HW5 := As hW5
        have t1 : W5.cell? ⟨w.heap.size + 1, 1, none⟩ = some (.string t) := (blk_cell HG8e.out 1).trans rfl
        have g0 := blk_frozen HG8e.out 0
        have hl5 := blk_lt HG8e.out
        rw [hW5]
        clear hW5 ht u0 u1 u2 f0 f1 hgl HB4 HG8d HG4d
        go_upto_block 3 with fail
        go_cut [52] from 53 to 60 (fun v52 wx => ∃ k : Int, Aside0 ((k = 2 ↔ grB c = true) ∧ wx.heap[w.heap.size + 1]? = some (.cells #[.int .i64 k, .string t, .int .i64 (i : Int)] 147 (0, 0)) ∧ wx.heap[w.heap.size]? = some (.cells #[.int .i64 0, .string ⟨#[]⟩, .int .i64 0] 147 (0, 0)) ∧ Below w.heap.size w wx))
        case first =>
          obtain ⟨q, hq⟩ : ∃ q, grB c = q := ⟨_, rfl⟩
          have HQ := As hq
          clear hq
          go_wp2_with fail
          with_reducible refine (great_fn c _).mono ?_
          rintro e w6 ⟨rfl, hb⟩
          have HB6 := As (below_step HB5.out hb)
          have HG8f := As (blk_below HG8e.out hb)
          have HG4f := As (blk_below HG4e.out hb)
          replace t1 := pw_cell_below hb t1
          have g0 := blk_frozen HG8f.out 0
          have t0 : w6.cell? ⟨w.heap.size + 1, 0, none⟩ = some (.int .i64 1) := (blk_cell HG8f.out 0).trans rfl
          have hl6 := blk_lt HG8f.out
          rw [HQ.out]
          clear hb
          cases q with
          | true =>
            go_wp2
            go_meet
            case rel => exact ⟨2, ⟨⟨fun _ => HQ.out, fun _ => rfl⟩, blk_put HG8f.out 0 _ rfl, blk_far HG4f.out (by simp) _, below_set HB6.out (by omega)⟩⟩
          | false =>
            go_wp2_with fail
            with_reducible refine (keyword_fn t _).mono ?_
            rintro e w7 ⟨b, rfl, hb⟩
            have HB7 := As (below_step HB6.out hb)
            have HG8g := As (blk_below HG8f.out hb)
            have HG4g := As (blk_below HG4f.out hb)
            have g0 := blk_frozen HG8g.out 0
            have t0 : w7.cell? ⟨w.heap.size + 1, 0, none⟩ = some (.int .i64 1) := (blk_cell HG8g.out 0).trans rfl
            have hl7 := blk_lt HG8g.out
            clear hb
            cases b with
            | true =>
              go_wp2
              go_meet
              case rel => exact ⟨4, ⟨⟨fun h => absurd h (by decide), fun h => by rw [HQ.out] at h; cases h⟩, blk_put HG8g.out 0 _ rfl, blk_far HG4g.out (by simp) _, below_set HB7.out (by omega)⟩⟩
            | false =>
              go_wp2
              go_meet
              case rel => exact ⟨1, ⟨⟨fun h => absurd h (by decide), fun h => by rw [HQ.out] at h; cases h⟩, HG8g.out, HG4g.out, HB7.out⟩⟩
        case rest =>
          obtain ⟨k, HCC⟩ := hcut
          have HG8z := As HCC.out.2.1
          have HG4z := As HCC.out.2.2.1
          have HBz := As HCC.out.2.2.2
          have HKK := As HCC.out.1
          clear HCC HB5 HG8e HG4e t1 g0 hl5
          obtain ⟨ln, hln⟩ : ∃ ln : Nat, j = i + ln := ⟨j - i, by omega⟩
          subst hln
          by_cases h24 : 24 < ln
          · have h24b : decide ((24 : Int) < ((i + ln : Nat) : Int) - (i : Int)) = true := decide_eq_true (by omega)
            have HTK := As (show TokOk s i k t 9 from ⟨by rw [HTS.out]; omega, fun h => absurd h (by decide), fun h => absurd h (by decide), fun h1 h2 => by
              have h3 := h2.2.1
              have h4 := HJ.out.2.1
              omega⟩)
            have v0 : wc.cell? ⟨w.heap.size + 1, 0, none⟩ = some (.int .i64 k) := (blk_cell HG8z.out 0).trans rfl
            have v1 : wc.cell? ⟨w.heap.size + 1, 1, none⟩ = some (.string t) := (blk_cell HG8z.out 1).trans rfl
            have v2 : wc.cell? ⟨w.heap.size + 1, 2, none⟩ = some (.int .i64 (i : Int)) := (blk_cell HG8z.out 2).trans rfl
            have z0 : wc.cell? ⟨w.heap.size, 0, none⟩ = some (.int .i64 0) := (blk_cell HG4z.out 0).trans rfl
            have z1 : wc.cell? ⟨w.heap.size, 1, none⟩ = some (.string ⟨#[]⟩) := (blk_cell HG4z.out 1).trans rfl
            have z2 : wc.cell? ⟨w.heap.size, 2, none⟩ = some (.int .i64 0) := (blk_cell HG4z.out 2).trans rfl
            have q0 := blk_frozen HG4z.out 0
            have q1 := blk_frozen HG4z.out 1
            have q2 := blk_frozen HG4z.out 2
            go_wp2
            exact bodyPost_ret (v := .tuple #[.agg #[.int .i64 k, .string t, .int .i64 (i : Int)], .int .i64 9]) (by simp [results, Tryz.results130, go_sem, z0, z1, z2]) rfl ⟨below_set (below_set (below_set HBz.out (Nat.le_refl _)) (Nat.le_refl _)) (Nat.le_refl _), k, t, 9, rfl, HTK.out⟩
          · have h24b : decide ((24 : Int) < ((i + ln : Nat) : Int) - (i : Int)) = false := decide_eq_false (by omega)
            have HTK := As (show TokOk s i k t 0 from ⟨by rw [HTS.out]; omega, fun _ => by rw [HTS.out]; have := HJ.out.1; omega, fun _ hk => ⟨by rw [HTS.out]; omega, by rw [HC.out]; exact HKK.out.1 hk, fun m h1 h2 => by
                rw [HTS.out] at h2
                rcases Nat.lt_or_ge m (i + 1) with h | h
                · rw [show m = i by omega, HC.out]
                  unfold ptB
                  rw [HSG.out]
                  rfl
                · exact HJ.out.2.2.1 m h (by omega)⟩, fun h1 h2 => by
              have hj : i + ln = s.size := by
                rcases Nat.lt_or_ge (i + ln) s.size with h | h
                · have h5 := h2.2.2.2 (i + ln) (by omega) (by omega)
                  rw [HJ.out.2.2.2 h] at h5
                  cases h5
                · omega
              refine ⟨HKK.out.2 ?_, rfl, ?_⟩
              · have h5 := h2.2.2.1
                rw [← HC.out, h1]
                exact h5
              · rw [← HTX.out, hj, h1]
                exact ext_all s⟩)
            have v0 : wc.cell? ⟨w.heap.size + 1, 0, none⟩ = some (.int .i64 k) := (blk_cell HG8z.out 0).trans rfl
            have v1 : wc.cell? ⟨w.heap.size + 1, 1, none⟩ = some (.string t) := (blk_cell HG8z.out 1).trans rfl
            have v2 : wc.cell? ⟨w.heap.size + 1, 2, none⟩ = some (.int .i64 (i : Int)) := (blk_cell HG8z.out 2).trans rfl
            have z0 : wc.cell? ⟨w.heap.size, 0, none⟩ = some (.int .i64 0) := (blk_cell HG4z.out 0).trans rfl
            have z1 : wc.cell? ⟨w.heap.size, 1, none⟩ = some (.string ⟨#[]⟩) := (blk_cell HG4z.out 1).trans rfl
            have z2 : wc.cell? ⟨w.heap.size, 2, none⟩ = some (.int .i64 0) := (blk_cell HG4z.out 2).trans rfl
            have q0 := blk_frozen HG4z.out 0
            have q1 := blk_frozen HG4z.out 1
            have q2 := blk_frozen HG4z.out 2
            go_wp2
            exact bodyPost_ret (v := .tuple #[.agg #[.int .i64 k, .string t, .int .i64 (i : Int)], .int .i64 0]) (by simp [results, Tryz.results130, go_sem, z0, z1, z2]) rfl ⟨below_set (below_set (below_set HBz.out (Nat.le_refl _)) (Nat.le_refl _)) (Nat.le_refl _), k, t, 0, rfl, HTK.out⟩
    | false =>
      have HNO := As (show i = 0 → Ups s → False from fun h1 h2 => by
        have h3 := h2.2.2.1
        have h4 := HSG.out
        rw [← h1, HC.out] at h3
        rw [h3, Bool.or_true] at h4
        cases h4)
      obtain ⟨q, hq⟩ : ∃ q, dgB c = q := ⟨_, rfl⟩
      have HQ := As hq
      clear hq
      go_wp2_with fail
      with_reducible refine (digit_fn c _).mono ?_
      rintro e w5 ⟨rfl, hb⟩
      have HB5 := As (below_step HB3.out hb)
      have HG4d := As (blk_below HG4c.out hb)
      have HG8d := As (blk_below HG8c.out hb)
      rw [HQ.out]
      clear hb HB3 HG4c HG8c
      cases q with
      | true =>
        obtain ⟨n0, hn0⟩ : ∃ n0, (c - 48) % 256 = n0 := ⟨_, rfl⟩
        go_upto_block 4 with fail
        rw [hn0]
        clear hn0
        go_cut [7, 9] from 72 to 92 (fun v7 v9 wx => ∃ (j : Nat) (n : Int), v7 = .int .i64 (j : Int) ∧ v9 = .int .i64 n ∧ Aside0 (i + 1 ≤ j ∧ j ≤ s.size) ∧ Aside0 (Below w5.heap.size w5 wx))
        case first =>
          have HBr := As (Below.refl w5.heap.size w5)
          go_wp2
          go_loopw [7, 9] (fun v7 v9 wr => ∃ (j : Nat) (n : Int), v7 = .int .i64 (j : Int) ∧ v9 = .int .i64 n ∧ i + 1 ≤ j ∧ j ≤ s.size ∧ Aside0 (Below w5.heap.size w5 wr)) (fun v7 _ _ => s.size - (intOf v7).toNat)
          case atStart => exact ⟨i + 1, n0, by go_num, rfl, Nat.le_refl _, hi, HBr⟩
          case round =>
            clear HBr
            obtain ⟨j, n, rfl, rfl, hj1, hj2, HBr⟩ := hrel
            by_cases hlt : j < s.size
            · have hlb : decide ((j : Int) < (s.size : Int)) = true := decide_eq_true (by omega)
              obtain ⟨d, hd⟩ : ∃ d, bt s (j : Int) = d := ⟨_, rfl⟩
              have hxj : ∀ h : j < s.size, ((s[j]'h).toNat : Int) = d := by rw [← hd]; exact bt_at s (j : Int)
              obtain ⟨q, hq⟩ : ∃ q, dgB d = q := ⟨_, rfl⟩
              have HQ2 := As hq
              clear hd hq
              go_wp2_with fail
              with_reducible refine (digit_fn d _).mono ?_
              rintro e w1 ⟨rfl, hb⟩
              have HB4 := As (below_step HBr.out hb)
              rw [HQ2.out]
              clear hb
              cases q with
              | true =>
                go_wp2
                go_roundw
                case rel => exact ⟨j + 1, _, by go_num, rfl, by omega, by omega, HB4⟩
                case measure => simp [intOf]; omega
              | false =>
                go_wp2
                go_meet
                case rel => exact ⟨j, n, rfl, rfl, ⟨hj1, hj2⟩, HB4⟩
            · have hlb : decide ((j : Int) < (s.size : Int)) = false := decide_eq_false (by omega)
              go_wp2
              go_meet
              case rel => exact ⟨j, n, rfl, rfl, ⟨hj1, hj2⟩, HBr⟩
        case rest =>
          obtain ⟨j, n, rfl, rfl, HJ, HBd⟩ := hcut
          have HB6 := As (below_step HB5.out HBd.out)
          have HG4e := As (blk_below HG4d.out HBd.out)
          have HG8e := As (blk_below HG8d.out HBd.out)
          have u0 : wc.cell? ⟨w.heap.size + 1, 0, none⟩ = some (.int .i64 0) := (blk_cell HG8e.out 0).trans rfl
          have u1 : wc.cell? ⟨w.heap.size + 1, 1, none⟩ = some (.string ⟨#[]⟩) := (blk_cell HG8e.out 1).trans rfl
          have f0 := blk_frozen HG8e.out 0
          have f1 := blk_frozen HG8e.out 1
          have hgl := blk_lt HG8e.out
          have hij : (i : Int) ≤ (j : Int) := by have := HJ.out.1; omega
          have hjs : (j : Int) ≤ (s.size : Int) := by have := HJ.out.2; omega
          clear HB5 HG4d HG8d HBd
          go_upto_region 21 with fail
          go_region_with fail
          all_goals
            (obtain ⟨t, ht⟩ : ∃ t, s.extract i j = t := ⟨_, rfl⟩
             rw [ht]
             obtain ⟨W5, hW5⟩ : ∃ W5, ((wc.setCell ⟨w.heap.size + 1, 0, none⟩ (.int .i64 3)).setCell ⟨w.heap.size + 1, 1, none⟩ (.string t)).drew = W5 := ⟨_, rfl⟩
             have HBz := As (show Below w.heap.size w W5 by rw [← hW5]; exact below_drew1 (below_set (below_set HB6.out (by omega)) (by omega)))
             have HG8z := As (show W5.heap[w.heap.size + 1]? = some (.cells #[.int .i64 3, .string t, .int .i64 (i : Int)] 147 (0, 0)) by rw [← hW5]; exact blk_drew (blk_put (cs' := #[.int .i64 3, .string t, .int .i64 (i : Int)]) (blk_put (cs' := #[.int .i64 3, .string ⟨#[]⟩, .int .i64 (i : Int)]) HG8e.out 0 _ rfl) 1 _ rfl))
             have HG4z := As (show W5.heap[w.heap.size]? = some (.cells #[.int .i64 0, .string ⟨#[]⟩, .int .i64 0] 147 (0, 0)) by rw [← hW5]; exact blk_drew (blk_far (blk_far HG4e.out (by simp) _) (by simp) _))
             have HTS := As (show t.size = j - i by rw [← ht]; exact ext_size HJ.out.2)
             rw [hW5]
             have HTO := As (show ∀ er, TokOk s i 3 t er from fun er => ⟨by rw [HTS.out]; have := HJ.out; omega, fun _ => by rw [HTS.out]; have := HJ.out; omega, fun _ h => absurd h (by decide), fun h1 h2 => (HNO.out h1 h2).elim⟩)
             clear hW5 ht u0 u1 f0 f1 hgl HB6 HG8e HG4e
             obtain ⟨ln, hln⟩ : ∃ ln : Nat, j = i + ln := ⟨j - i, by omega⟩
             subst hln
             obtain ⟨z, hz⟩ : ∃ z, (c == 48) = z := ⟨_, rfl⟩
             obtain ⟨y, hy⟩ : ∃ y, decide ((1 : Int) < ((i + ln : Nat) : Int) - (i : Int)) = y := ⟨_, rfl⟩
             have hy2 : decide (1 < ln) = y := by rw [← hy]; exact decide_eq_decide.2 (by omega)
             obtain ⟨x, hx2⟩ : ∃ x, decide ((1000000 : Int) < n) = x := ⟨_, rfl⟩)
          by_cases hzy : z = true ∧ y = true
          · obtain ⟨rfl, rfl⟩ := hzy
            simp only [decide_eq_true_eq] at hy hy2
            have HTK := As (HTO.out 2)
            have v0 : W5.cell? ⟨w.heap.size + 1, 0, none⟩ = some (.int .i64 3) := (blk_cell HG8z.out 0).trans rfl
            have v1 : W5.cell? ⟨w.heap.size + 1, 1, none⟩ = some (.string t) := (blk_cell HG8z.out 1).trans rfl
            have v2 : W5.cell? ⟨w.heap.size + 1, 2, none⟩ = some (.int .i64 (i : Int)) := (blk_cell HG8z.out 2).trans rfl
            have z0 : W5.cell? ⟨w.heap.size, 0, none⟩ = some (.int .i64 0) := (blk_cell HG4z.out 0).trans rfl
            have z1 : W5.cell? ⟨w.heap.size, 1, none⟩ = some (.string ⟨#[]⟩) := (blk_cell HG4z.out 1).trans rfl
            have z2 : W5.cell? ⟨w.heap.size, 2, none⟩ = some (.int .i64 0) := (blk_cell HG4z.out 2).trans rfl
            have q0 := blk_frozen HG4z.out 0
            have q1 := blk_frozen HG4z.out 1
            have q2 := blk_frozen HG4z.out 2
            go_wp2
            exact bodyPost_ret (v := .tuple #[.agg #[.int .i64 3, .string t, .int .i64 (i : Int)], .int .i64 2]) (by simp [results, Tryz.results130, go_sem, z0, z1, z2]) rfl ⟨below_set (below_set (below_set HBz.out (Nat.le_refl _)) (Nat.le_refl _)) (Nat.le_refl _), 3, t, 2, rfl, HTK.out⟩
          · cases x
            · have HTK := As (HTO.out 0)
              cases z <;> cases y
              all_goals
                (first
                  | exact absurd ⟨rfl, rfl⟩ hzy
                  | (clear hzy
                     simp only [decide_eq_true_eq, decide_eq_false_iff_not] at hy hy2 hx2
                     have v0 : W5.cell? ⟨w.heap.size + 1, 0, none⟩ = some (.int .i64 3) := (blk_cell HG8z.out 0).trans rfl
                     have v1 : W5.cell? ⟨w.heap.size + 1, 1, none⟩ = some (.string t) := (blk_cell HG8z.out 1).trans rfl
                     have v2 : W5.cell? ⟨w.heap.size + 1, 2, none⟩ = some (.int .i64 (i : Int)) := (blk_cell HG8z.out 2).trans rfl
                     have z0 : W5.cell? ⟨w.heap.size, 0, none⟩ = some (.int .i64 0) := (blk_cell HG4z.out 0).trans rfl
                     have z1 : W5.cell? ⟨w.heap.size, 1, none⟩ = some (.string ⟨#[]⟩) := (blk_cell HG4z.out 1).trans rfl
                     have z2 : W5.cell? ⟨w.heap.size, 2, none⟩ = some (.int .i64 0) := (blk_cell HG4z.out 2).trans rfl
                     have q0 := blk_frozen HG4z.out 0
                     have q1 := blk_frozen HG4z.out 1
                     have q2 := blk_frozen HG4z.out 2
                     go_wp2
                     exact bodyPost_ret (v := .tuple #[.agg #[.int .i64 3, .string t, .int .i64 (i : Int)], .int .i64 0]) (by simp [results, Tryz.results130, go_sem, z0, z1, z2]) rfl ⟨below_set (below_set (below_set HBz.out (Nat.le_refl _)) (Nat.le_refl _)) (Nat.le_refl _), 3, t, 0, rfl, HTK.out⟩))
            · have HTK := As (HTO.out 9)
              cases z <;> cases y
              all_goals
                (first
                  | exact absurd ⟨rfl, rfl⟩ hzy
                  | (clear hzy
                     simp only [decide_eq_true_eq, decide_eq_false_iff_not] at hy hy2 hx2
                     have v0 : W5.cell? ⟨w.heap.size + 1, 0, none⟩ = some (.int .i64 3) := (blk_cell HG8z.out 0).trans rfl
                     have v1 : W5.cell? ⟨w.heap.size + 1, 1, none⟩ = some (.string t) := (blk_cell HG8z.out 1).trans rfl
                     have v2 : W5.cell? ⟨w.heap.size + 1, 2, none⟩ = some (.int .i64 (i : Int)) := (blk_cell HG8z.out 2).trans rfl
                     have z0 : W5.cell? ⟨w.heap.size, 0, none⟩ = some (.int .i64 0) := (blk_cell HG4z.out 0).trans rfl
                     have z1 : W5.cell? ⟨w.heap.size, 1, none⟩ = some (.string ⟨#[]⟩) := (blk_cell HG4z.out 1).trans rfl
                     have z2 : W5.cell? ⟨w.heap.size, 2, none⟩ = some (.int .i64 0) := (blk_cell HG4z.out 2).trans rfl
                     have q0 := blk_frozen HG4z.out 0
                     have q1 := blk_frozen HG4z.out 1
                     have q2 := blk_frozen HG4z.out 2
                     go_wp2
                     exact bodyPost_ret (v := .tuple #[.agg #[.int .i64 3, .string t, .int .i64 (i : Int)], .int .i64 9]) (by simp [results, Tryz.results130, go_sem, z0, z1, z2]) rfl ⟨below_set (below_set (below_set HBz.out (Nat.le_refl _)) (Nat.le_refl _)) (Nat.le_refl _), 3, t, 9, rfl, HTK.out⟩))
      | false =>
        have hxs : (s.extract i s.size).size = s.size - i := ext_size (Nat.le_refl _)
        have hil : (i : Int) ≤ (s.size : Int) := by omega
        obtain ⟨y, hy⟩ : ∃ y, s.extract i s.size = y := ⟨_, rfl⟩
        rw [hy] at hxs
        have HXS := As hxs
        go_upto_region 3 with fail
        go_wp2_with fail
        with_reducible refine (sign_fn y _ (by rw [HXS.out]; omega) (by rw [HXS.out]; omega)).mono ?_
        rintro e w6 ⟨t, rfl, hts, hb⟩
        have HTS := As hts
        have HB6 := As (below_step HB5.out hb)
        have HG4e := As (blk_below HG4d.out hb)
        have HG8e := As (blk_below HG8d.out hb)
        have u0 : w6.cell? ⟨w.heap.size + 1, 0, none⟩ = some (.int .i64 0) := (blk_cell HG8e.out 0).trans rfl
        have u1 : w6.cell? ⟨w.heap.size + 1, 1, none⟩ = some (.string ⟨#[]⟩) := (blk_cell HG8e.out 1).trans rfl
        have f0 := blk_frozen HG8e.out 0
        have f1 := blk_frozen HG8e.out 1
        have hgl := blk_lt HG8e.out
        clear hts hb hy hxs hil HB5 HG4d HG8d
        go_upto_region 4 with fail
        obtain ⟨W7, hW7⟩ : ∃ W7, (w6.setCell ⟨w.heap.size + 1, 0, none⟩ (.int .i64 5)).setCell ⟨w.heap.size + 1, 1, none⟩ (.string t) = W7 := ⟨_, rfl⟩
        have HBz := As (show Below w.heap.size w W7 by rw [← hW7]; exact below_set (below_set HB6.out (by omega)) (by omega))
        have HG8z := As (show W7.heap[w.heap.size + 1]? = some (.cells #[.int .i64 5, .string t, .int .i64 (i : Int)] 147 (0, 0)) by rw [← hW7]; exact blk_put (cs' := #[.int .i64 5, .string t, .int .i64 (i : Int)]) (blk_put (cs' := #[.int .i64 5, .string ⟨#[]⟩, .int .i64 (i : Int)]) HG8e.out 0 _ rfl) 1 _ rfl)
        have HG4z := As (show W7.heap[w.heap.size]? = some (.cells #[.int .i64 0, .string ⟨#[]⟩, .int .i64 0] 147 (0, 0)) by rw [← hW7]; exact blk_far (blk_far HG4e.out (by simp) _) (by simp) _)
        have HTO := As (show ∀ er, (er = 0 → 1 ≤ t.size) → TokOk s i 5 t er from fun er h => ⟨by have := HTS.out; rw [HXS.out] at this; omega, h, fun _ h => absurd h (by decide), fun h1 h2 => (HNO.out h1 h2).elim⟩)
        rw [hW7]
        clear hW7 u0 u1 f0 f1 hgl HB6 HG8e HG4e
        by_cases ht : (t.toList == ([] : List UInt8)) = true
        · have HTK := As (HTO.out 2 (fun h => absurd h (by decide)))
          have v0 : W7.cell? ⟨w.heap.size + 1, 0, none⟩ = some (.int .i64 5) := (blk_cell HG8z.out 0).trans rfl
          have v1 : W7.cell? ⟨w.heap.size + 1, 1, none⟩ = some (.string t) := (blk_cell HG8z.out 1).trans rfl
          have v2 : W7.cell? ⟨w.heap.size + 1, 2, none⟩ = some (.int .i64 (i : Int)) := (blk_cell HG8z.out 2).trans rfl
          have z0 : W7.cell? ⟨w.heap.size, 0, none⟩ = some (.int .i64 0) := (blk_cell HG4z.out 0).trans rfl
          have z1 : W7.cell? ⟨w.heap.size, 1, none⟩ = some (.string ⟨#[]⟩) := (blk_cell HG4z.out 1).trans rfl
          have z2 : W7.cell? ⟨w.heap.size, 2, none⟩ = some (.int .i64 0) := (blk_cell HG4z.out 2).trans rfl
          have q0 := blk_frozen HG4z.out 0
          have q1 := blk_frozen HG4z.out 1
          have q2 := blk_frozen HG4z.out 2
          go_wp2
          exact bodyPost_ret (v := .tuple #[.agg #[.int .i64 5, .string t, .int .i64 (i : Int)], .int .i64 2]) (by simp [results, Tryz.results130, go_sem, z0, z1, z2]) rfl ⟨below_set (below_set (below_set HBz.out (Nat.le_refl _)) (Nat.le_refl _)) (Nat.le_refl _), 5, t, 2, rfl, HTK.out⟩
        · have HTK := As (HTO.out 0 (fun _ => by
            rcases Nat.eq_zero_or_pos t.size with h | h
            · exfalso
              apply ht
              have h2 : t = ⟨#[]⟩ := by
                apply ByteArray.ext
                exact Array.eq_empty_of_size_eq_zero h
              rw [h2]
              rw [ByteArray.toList, ByteArray.toList.loop]
              rfl
            · exact h))
          replace ht := Bool.eq_false_iff.2 ht
          have v0 : W7.cell? ⟨w.heap.size + 1, 0, none⟩ = some (.int .i64 5) := (blk_cell HG8z.out 0).trans rfl
          have v1 : W7.cell? ⟨w.heap.size + 1, 1, none⟩ = some (.string t) := (blk_cell HG8z.out 1).trans rfl
          have v2 : W7.cell? ⟨w.heap.size + 1, 2, none⟩ = some (.int .i64 (i : Int)) := (blk_cell HG8z.out 2).trans rfl
          have z0 : W7.cell? ⟨w.heap.size, 0, none⟩ = some (.int .i64 0) := (blk_cell HG4z.out 0).trans rfl
          have z1 : W7.cell? ⟨w.heap.size, 1, none⟩ = some (.string ⟨#[]⟩) := (blk_cell HG4z.out 1).trans rfl
          have z2 : W7.cell? ⟨w.heap.size, 2, none⟩ = some (.int .i64 0) := (blk_cell HG4z.out 2).trans rfl
          have q0 := blk_frozen HG4z.out 0
          have q1 := blk_frozen HG4z.out 1
          have q2 := blk_frozen HG4z.out 2
          go_wp2
          exact bodyPost_ret (v := .tuple #[.agg #[.int .i64 5, .string t, .int .i64 (i : Int)], .int .i64 0]) (by simp [results, Tryz.results130, go_sem, z0, z1, z2]) rfl ⟨below_set (below_set (below_set HBz.out (Nat.le_refl _)) (Nat.le_refl _)) (Nat.le_refl _), 5, t, 0, rfl, HTK.out⟩
/-
  The contracts of token.Split and core.upper.
-/
structure Tk where
 k : Int
 s : ByteArray
 p : Int
def t0 : Tk := ⟨0, ⟨#[]⟩, 0⟩
def kTk : Kd Tk := Kd.iso (Kd.pair (Kd.int .i64) (Kd.pair Kd.string (Kd.int .i64))) (fun x : Tk => (x.k, x.s, x.p))
abbrev zeroK : Value := .agg #[.int .i64 0, .string ⟨#[]⟩, .int .i64 0]
theorem info_tok : (Tryz.prog.info? 147).map (fun i => (i.zero, i.size, i.bytes)) = some (some zeroK, 3, 32) := by kernel_rfl
theorem kTk_openF {W : World} {ok : Nat → Prop} {x : Tk} {cs : List Value} (h : Kd.FK kTk W ok x cs) : cs = [.int .i64 x.k, .string x.s, .int .i64 x.p] := by
 obtain ⟨_, _, rfl, rfl, ⟨_, _, rfl, rfl, e⟩⟩ := Kd.FK_now h
 rw [show _ = [Value.int .i64 x.p] from e]
 rfl
theorem kTk_mkF (W : World) (ok : Nat → Prop) (x : Tk) : Kd.FK kTk W ok x [.int .i64 x.k, .string x.s, .int .i64 x.p] := fun W' hW => ⟨[.int .i64 x.k], [.string x.s, .int .i64 x.p], rfl, rfl, ⟨[.string x.s], [.int .i64 x.p], rfl, rfl, rfl⟩⟩
def NTk (w : World) (base : Nat) (v : Value) (xs : List Tk) : Prop := Kd.N kTk 147 w base (fun _ => True) v xs
section
variable {P : Program} {ops : Array Oper} {rest : List Oper} {o : Oper} {a : Act} {Q : Exit → Act → World → Prop}
theorem tk_append {w0 W : World} {base : Nat} (hgd : o.guard = none) (s x : Operand) (t : TypeId)
  (ho : o.op = .call { callee := .builtin .append, args := #[s, x], argTypes := #[t, t] })
  (ht : P.underlying t = some (.slice 147)) (hinfo : (P.info? 147).map (fun i => (i.zero, i.size, i.bytes)) = some (some zeroK, 3, 32))
  (v : Value) (xs : List Tk) (y : Tk) (hs : a.eval s = v) (hx : a.eval x = .slice (some ⟨W.heap.size, 0, none⟩) 1 1)
  (HO : NTk W base v xs) (HB : Below base w0 W) (hbase : base ≤ W.heap.size) (hl : xs.length ≤ 1000000000)
  (h : ∀ v1 w1, NTk w1 base v1 (xs ++ [y]) → Below base w0 w1 → W.grownBy w1 v.ownBlock → wpList P ops Q rest (a.put o.dst v1) w1) :
  wpList P ops Q (o :: rest) a (W.alloc (.cells #[.int .i64 y.k, .string y.s, .int .i64 y.p] 147)) := by
 refine Kd.N_append kTk base hgd s x t 147 zeroK 32 ho ht hinfo rfl (by show 0 < 3; decide) (by decide) v xs y [.int .i64 y.k, .string y.s, .int .i64 y.p] (fun _ => True) (fun k => True ∧ some k ≠ v.ownBlock) hs hx (kTk_mkF _ _ y) (fun k hk => hk) (fun _ _ => trivial) HO HB hbase (by omega) ?_
 intro v1 w1 h4 hb hg hat
 exact h v1 w1 h4 hb hg
end
/-- The tokens read. -/
def LTk (w : World) (v : Value) (xs : List Tk) : Prop := ∃ A c, v = .slice A xs.length c ∧ Kd.F kTk w (fun _ => True) A xs.length xs
theorem NTk.lt {w : World} {base : Nat} {v : Value} {xs : List Tk} (h : NTk w base v xs) : LTk w v xs := by
 obtain ⟨A, c, rfl⟩ := Kd.N_slice h
 exact ⟨A, c, rfl, Kd.N_F h⟩
theorem LTk.at {w : World} {v : Value} {xs : List Tk} (h : LTk w v xs) (hi : 0 < xs.length) : ∃ b o c, v = .slice (some ⟨b, o, none⟩) xs.length c ∧ w.cell? ⟨b, o, none⟩ = some (.int .i64 (xs.getD 0 t0).k) ∧ w.cell? ⟨b, o + 1, none⟩ = some (.string (xs.getD 0 t0).s) := by
 obtain ⟨A, c, rfl, hF⟩ := h
 obtain ⟨b, o, cs, e, hlen, hK, hcell⟩ := F_addr hF t0 (by show 0 < 3; decide) 0 hi
 have h1 := kTk_openF hK
 subst h1
 rw [e]
 have h2 := hcell 0 _ rfl
 have h3 := hcell 1 _ rfl
 rw [show kTk.sz = 3 from rfl] at h2 h3
 exact ⟨b, o, c, rfl, by simpa using h2, by simpa using h3⟩
def Fine (s : ByteArray) (l : List Tk) (er : Int) : Prop := er = 0 ∧ l.length = 2 ∧ (l.getD 0 t0).k = 2 ∧ (l.getD 0 t0).s = s
def RetSplit (s : ByteArray) (w0 : World) (e : Ending) (w' : World) : Prop := Below w0.heap.size w0 w' ∧ ∃ (v : Value) (l : List Tk) (n er : Int), e = .returned (.tuple #[v, .int .i64 n, .int .i64 er]) ∧ LTk w' v l ∧ (Fine s l er ↔ Ups s)
/-- What holds in the loop. -/
structure InvS (s : ByteArray) (l : List Tk) (i : Nat) : Prop where
 len : l.length ≤ i
 a : l = [] → Ups s → i = 0
 b : ∀ h : 0 < l.length, (l.getD 0 t0).k = 2 → (l.getD 0 t0).s = s → l.length = 1 → Ups s
 c : l ≠ [] → Ups s → l.length = 1 ∧ (l.getD 0 t0).k = 2 ∧ (l.getD 0 t0).s = s ∧ i = s.size
theorem InvS.not {s : ByteArray} {l : List Tk} {i j : Nat} (h : InvS s l i) (hij : i ≤ j) (hn : ¬ Ups s) : InvS s l j := ⟨Nat.le_trans h.len hij, fun _ h => (hn h).elim, h.b, fun _ h => (hn h).elim⟩
theorem InvS.first {s : ByteArray} {l : List Tk} {i : Nat} (h : InvS s l i) (hi : i < s.size) (hu : Ups s) : l = [] ∧ i = 0 := by
 by_cases hl : l = []
 ·exact ⟨hl, h.a hl hu⟩
 ·have := (h.c hl hu).2.2.2
  omega
theorem InvS.push {s : ByteArray} {l : List Tk} {i : Nat} {k : Int} {t : ByteArray} (h : InvS s l i) (hi : i < s.size) (ht : TokOk s i k t 0) : InvS s (l ++ [⟨k, t, (i : Int)⟩]) (i + t.size) := by
 have h1 := ht.2.1 rfl
 refine ⟨by rw [List.length_append]; have := h.len; simp; omega, fun h => absurd h (by simp), fun _ hk hs hl => ?_, fun _ hu => ?_⟩
 ·have hl0 : l = [] := by
   rw [List.length_append] at hl
   exact List.eq_nil_of_length_eq_zero (by simpa using hl)
  subst hl0
  have hk' : k = 2 := hk
  have hs' : t = s := hs
  have h2 := ht.2.2.1 rfl hk'
  have h3 := ht.1
  rw [hs'] at h2 h3
  have h4 : i = 0 := by omega
  rw [h4] at h2
  exact ⟨by omega, h2⟩
 ·obtain ⟨rfl, rfl⟩ := h.first hi hu
  obtain ⟨hk, _, hs⟩ := ht.2.2.2 rfl hu
  exact ⟨rfl, hk, hs, by rw [hs]; omega⟩
theorem InvS.done {s : ByteArray} {l : List Tk} {i : Nat} {k : Int} {t : ByteArray} {p : Int} (h : InvS s l i) (hi : i = s.size) : Fine s (l ++ [⟨k, t, p⟩]) 0 ↔ Ups s := by
 constructor
 ·rintro ⟨_, h2, h3, h4⟩
  have hl : l.length = 1 := by simpa using h2
  have hg : (l ++ [(⟨k, t, p⟩ : Tk)]).getD 0 t0 = l.getD 0 t0 := by
   rw [List.getD_eq_getElem?_getD, List.getD_eq_getElem?_getD, List.getElem?_append_left (by omega)]
  rw [hg] at h3 h4
  exact h.b (by omega) h3 h4 hl
 ·intro hu
  have hne : l ≠ [] := fun e => by have := h.a e hu; have := hu.1; omega
  obtain ⟨h1, h2, h3, _⟩ := h.c hne hu
  have hg : (l ++ [(⟨k, t, p⟩ : Tk)]).getD 0 t0 = l.getD 0 t0 := by
   rw [List.getD_eq_getElem?_getD, List.getD_eq_getElem?_getD, List.getElem?_append_left (by omega)]
  exact ⟨rfl, by simp [h1], by rw [hg]; exact h2, by rw [hg]; exact h3⟩
set_option maxRecDepth 100000 in
set_option maxHeartbeats 8000000 in
theorem split_fn (s : ByteArray) (w : World) : Calls Tryz.prog 113 #[.string s] w (RetSplit s w) := by
 have HB0 := As (Below.refl w.heap.size w)
 by_cases hbig : 16384 < s.size
 ·have hbb : decide ((16384 : Int) < (s.size : Int)) = true := decide_eq_true (by omega)
  have HN := As (show ¬ Ups s from fun h => by have := h.2.1; omega)
  go_enter Tryz.func113, Tryz.ntmps113
  go_wp2
  go_step3
  go_wp2
  rw [Exit.noGoto_ret]
  refine bodyPost_ret (v := .tuple #[.slice none 0 0, .int .i64 0, .int .i64 9]) (by simp [results, Tryz.results113, go_sem]) rfl ?_
  exact ⟨HB0.out, _, [], _, _, rfl, ⟨none, 0, rfl, Kd.F_nil _ _ _⟩, fun h => absurd h.1 (by decide), fun h => (HN.out h).elim⟩
 ·have hbb : decide ((16384 : Int) < (s.size : Int)) = false := decide_eq_false (by omega)
  have HSZ := As (show s.size ≤ 16384 by omega)
  go_enter Tryz.func113, Tryz.ntmps113
  go_wp2
  go_step3
  go_wp2
  go_step3
  go_wp2
  go_loopg [5, 6] s.size (fun g v5 v6 wr => ∃ (l : List Tk) (i : Nat), i + g = s.size ∧ v6 = .int .i64 (i : Int) ∧ Aside0 (NTk wr w.heap.size v5 l) ∧ Aside0 (InvS s l i) ∧ Aside0 (Below w.heap.size w wr))
  case atStart => exact ⟨[], 0, by omega, rfl, ⟨Kd.N_nil _ _ _ _ _⟩, ⟨⟨Nat.le_refl _, fun _ _ => rfl, fun h => absurd h (Nat.not_lt_zero _), fun h => absurd rfl h⟩⟩, HB0⟩
  case round =>
   clear HB0
   obtain ⟨l, i, hg, rfl, HO, HI, HB⟩ := hrel
   have HIL := As (show l.length ≤ 1000000000 by have := HI.out.len; omega)
   by_cases hlt : i < s.size
   ·have hlb : decide ((i : Int) < (s.size : Int)) = true := decide_eq_true (by omega)
    obtain ⟨c, hc⟩ : ∃ c, bt s (i : Int) = c := ⟨_, rfl⟩
    have HC := As hc
    have hx : ∀ h : i < s.size, ((s[i]'h).toNat : Int) = c := by rw [← hc]; exact bt_at s (i : Int)
    clear hc
    have HNG := As (show grB c = false → ¬ Ups s from fun hg hu => by
     obtain ⟨_, h2⟩ := HI.out.first hlt hu
     have h3 := hu.2.2.1
     rw [show ((0 : Nat) : Int) = (i : Int) by rw [h2], HC.out, hg] at h3
     cases h3)
    by_cases hws : c = 9 ∨ c = 10 ∨ c = 13 ∨ c = 32
    ·have HN := As (HNG.out (by rcases hws with rfl | rfl | rfl | rfl <;> rfl))
     rcases hws with rfl | rfl | rfl | rfl
     all_goals
      (go_wp2
       go_roundg (s.size - (i + 1))
       case measure => omega
       case rel => exact ⟨l, i + 1, by omega, by go_num, HO, ⟨HI.out.not (by omega) HN.out⟩, HB⟩)
    ·have h9 : (c == 9) = false := beq_eq_false_iff_ne.2 (by omega)
     have h10 : (c == 10) = false := beq_eq_false_iff_ne.2 (by omega)
     have h13 : (c == 13) = false := beq_eq_false_iff_ne.2 (by omega)
     have h32 : (c == 32) = false := beq_eq_false_iff_ne.2 (by omega)
     clear hws
     by_cases h35 : c = 35
     ·subst h35
      have HN := As (HNG.out rfl)
      clear h9 h10 h13 h32
      go_wp2
      go_loopg [6] (s.size - i) (fun g2 v6 wy => ∃ j : Nat, j + g2 = s.size ∧ v6 = .int .i64 (j : Int) ∧ i ≤ j ∧ wy = wr)
      case atStart => exact ⟨i, by omega, rfl, Nat.le_refl _, rfl⟩
      case round =>
        obtain ⟨j, hj, rfl, hij, rfl⟩ := hrel
        by_cases hjl : j < s.size
        ·have hjb : decide ((j : Int) < (s.size : Int)) = true := decide_eq_true (by omega)
         obtain ⟨d, hd⟩ : ∃ d, bt s (j : Int) = d := ⟨_, rfl⟩
         have HDD := As hd
         have hxj : ∀ h : j < s.size, ((s[j]'h).toNat : Int) = d := by rw [← hd]; exact bt_at s (j : Int)
         clear hd hx
         by_cases hd10 : d = 10
         ·have hji : i < j := by
           rcases Nat.lt_or_ge i j with h | h
           ·exact h
           ·have h1 : i = j := by omega
            have h2 := HC.out
            rw [h1, HDD.out, hd10] at h2
            exact absurd h2 (by decide)
          have hdb : (d == 10) = true := beq_iff_eq.2 hd10
          clear hd10
          go_wp2
          go_roundg (s.size - j)
          case measure => omega
          case rel => exact ⟨l, j, by omega, rfl, HO, ⟨HI.out.not (by omega) HN.out⟩, HB⟩
         ·have hdb : (d == 10) = false := beq_eq_false_iff_ne.2 hd10
          clear hd10
          go_wp2
          go_roundg (s.size - (j + 1))
          case measure => omega
          case rel => exact ⟨j + 1, by omega, by go_num, by omega, rfl⟩
        ·have hjb : decide ((j : Int) < (s.size : Int)) = false := decide_eq_false (by omega)
         have hje : j = s.size := by omega
         have HD := As ((HI.out.not (j := j) (by omega) HN.out).done (k := 6) (t := ⟨#[]⟩) (p := (s.size : Int)) hje)
         clear hje
         go_wp2_with ((with_reducible refine gate_builtin (b := .append) (xs := #[.tmp 69, .tmp 73]) rfl ?_); at_builtin; refine tk_append (w0 := w) (base := w.heap.size) rfl (.tmp 69) (.tmp 73) 143 rfl Tryz.underlying143 info_tok u5 l ⟨6, ⟨#[]⟩, (s.size : Int)⟩ rfl rfl HO.out HB.out HB.out.size HIL.out ?_; intro v5 w5 hr_ hb_ hg_; have HO5 := As hr_; have HB5 := As hb_; clear hr_ hb_ hg_)
         rw [Exit.noGoto_ret]
         refine bodyPost_ret (v := .tuple #[v5, .int .i64 0, .int .i64 0]) (by simp [results, Tryz.results113, go_sem]) rfl ?_
         exact ⟨HB5.out, _, _, _, _, rfl, HO5.out.lt, HD.out⟩
     ·have h35b : (c == 35) = false := beq_eq_false_iff_ne.2 h35
      clear h35
      go_wp2_with fail
      with_reducible refine (next_fn s i _ hlt HSZ.out).mono ?_
      rintro e w3 ⟨hb, k, t, er, rfl, htk⟩
      have HTK := As htk
      have hts : i + t.size ≤ s.size := htk.1
      have HB3 := As (below_step HB.out hb)
      have HO3 := As (Kd.N_below HO.out hb)
      have HSL := As hb.size
      obtain ⟨W4, hW4⟩ : ∃ W4, w3.alloc (.cells #[.int .i64 k, .string t, .int .i64 (i : Int)] 147) = W4 := ⟨_, rfl⟩
      have hb4 : Below w3.heap.size w3 W4 := by rw [← hW4]; exact below_alloc (Below.refl _ _) _
      have hg4 : W4.heap[w3.heap.size]? = some (.cells #[.int .i64 k, .string t, .int .i64 (i : Int)] 147 (0, 0)) := by rw [← hW4]; exact heap_alloc_new _ _
      have c0 : W4.cell? ⟨w3.heap.size, 0, none⟩ = some (.int .i64 k) := (blk_cell hg4 0).trans rfl
      have c1 : W4.cell? ⟨w3.heap.size, 1, none⟩ = some (.string t) := (blk_cell hg4 1).trans rfl
      have c2 : W4.cell? ⟨w3.heap.size, 2, none⟩ = some (.int .i64 (i : Int)) := (blk_cell hg4 2).trans rfl
      have HB4 := As (below_step HB3.out hb4)
      have HO4 := As (Kd.N_below HO3.out hb4)
      have HG4 := As hg4
      have HW4 := As hW4
      clear hb htk hb4 hg4 hW4 HO3
      go_upto_region 14 with fail
      rw [HW4.out]
      by_cases her : er = 0
      · subst her
        have HI2 := As (HI.out.push hlt HTK.out)
        have HTP := As (HTK.out.2.1 rfl)
        have NE := As (show some w3.heap.size ≠ u5.ownBlock from fun he => by have := Kd.N_lt HO.out w3.heap.size he.symm; have := HSL.out; omega)
        go_wp2_with ((with_reducible refine gate_builtin (b := .append) (xs := #[.tmp 60, .tmp 62]) rfl ?_); at_builtin; refine tk_append (w0 := w) (base := w.heap.size) rfl (.tmp 60) (.tmp 62) 143 rfl Tryz.underlying143 info_tok u5 l ⟨k, t, (i : Int)⟩ rfl rfl HO4.out HB4.out HB4.out.size HIL.out ?_; intro v5 w5 hr_ hb_ hg_; have HO5 := As hr_; have HB5 := As hb_; have HG5 := As ((hg_.block _ (blk_lt HG4.out) NE.out).trans HG4.out); (have c1 : w5.cell? ⟨w3.heap.size, 1, none⟩ = some (.string t) := (blk_cell HG5.out 1).trans rfl); clear hr_ hb_ hg_)
        go_roundg (s.size - (i + t.size))
        case measure => have := HTP.out; omega
        case rel => exact ⟨_, i + t.size, by omega, by go_num, HO5, HI2, HB5⟩
      · have herb : (er == 0) = false := beq_eq_false_iff_ne.2 her
        have hern : (er != 0) = true := bne_iff_ne.2 her
        have HF := As (show Fine s [] er ↔ Ups s from ⟨fun h => absurd h.1 her, fun h => by
         obtain ⟨_, h2⟩ := HI.out.first hlt h
         exact absurd (HTK.out.2.2.2 h2 h).2.1 her⟩)
        clear her
        go_wp2
        rw [Exit.noGoto_ret]
        refine bodyPost_ret (v := .tuple #[.slice none 0 0, .int .i64 (i : Int), .int .i64 er]) (by simp [results, Tryz.results113, go_sem]) rfl ?_
        exact ⟨HB4.out, _, [], _, _, rfl, ⟨none, 0, rfl, Kd.F_nil _ _ _⟩, HF.out⟩
   ·have hlb : decide ((i : Int) < (s.size : Int)) = false := decide_eq_false (by omega)
    have hie : i = s.size := by omega
    have HD := As (HI.out.done (k := 6) (t := ⟨#[]⟩) (p := (s.size : Int)) hie)
    go_wp2_with ((with_reducible refine gate_builtin (b := .append) (xs := #[.tmp 69, .tmp 73]) rfl ?_); at_builtin; refine tk_append (w0 := w) (base := w.heap.size) rfl (.tmp 69) (.tmp 73) 143 rfl Tryz.underlying143 info_tok u5 l ⟨6, ⟨#[]⟩, (s.size : Int)⟩ rfl rfl HO.out HB.out HB.out.size HIL.out ?_; intro v5 w5 hr_ hb_ hg_; have HO5 := As hr_; have HB5 := As hb_; clear hr_ hb_ hg_)
    rw [Exit.noGoto_ret]
    refine bodyPost_ret (v := .tuple #[v5, .int .i64 0, .int .i64 0]) (by simp [results, Tryz.results113, go_sem]) rfl ?_
    exact ⟨HB5.out, _, _, _, _, rfl, HO5.out.lt, HD.out⟩
theorem bytes_same {a b : ByteArray} (h : a.toList = b.toList) : a = b := by
 rw [ByteArray.toList_eq, ByteArray.toList_eq] at h
 apply ByteArray.ext
 exact Array.toList_inj.1 h
open Classical in
/-- An upper name. -/
noncomputable def upB (s : ByteArray) : Bool := decide (Ups s)
theorem upB_iff (s : ByteArray) : upB s = true ↔ Ups s := by
 unfold upB
 simp
set_option maxHeartbeats 2000000 in
theorem upper_fn (s : ByteArray) (w : World) : Calls Tryz.prog 92 #[.string s] w (RetB (upB s) w) := by
 go_enter Tryz.func92, Tryz.ntmps92
 go_wp2_with fail
 with_reducible refine (split_fn s _).mono ?_
 rintro e w3 ⟨hb, v, l, n, er, rfl, hl, hF⟩
 have HB := As hb
 have HE := As (show upB s = true ↔ Fine s l er by rw [upB_iff]; exact hF.symm)
 clear hb hF
 by_cases h0 : 0 < l.length
 ·obtain ⟨b, o, c, rfl, p0, p1⟩ := hl.at h0
  have h0i : (0 : Int) < (l.length : Int) := by omega
  obtain ⟨z, hz⟩ : ∃ z, l.getD 0 t0 = z := ⟨_, rfl⟩
  have HE2 := As (show upB s = true ↔ er = 0 ∧ l.length = 2 ∧ z.k = 2 ∧ z.s = s by rw [HE.out, ← hz]; exact Iff.rfl)
  rw [hz] at p0 p1
  obtain ⟨q1, hq1⟩ : ∃ q, (er == 0) = q := ⟨_, rfl⟩
  obtain ⟨q2, hq2⟩ : ∃ q, ((l.length : Int) == 2) = q := ⟨_, rfl⟩
  obtain ⟨q3, hq3⟩ : ∃ q, (z.k == 2) = q := ⟨_, rfl⟩
  clear hl hz h0
  cases q1
  ·have HF := As (show upB s = false by
     rw [Bool.eq_false_iff]
     intro h
     have h2 := (HE2.out.1 h).1
     rw [h2] at hq1
     exact absurd hq1 (by decide))
   go_wp2
   go_ret
   exact RetB.mk HF.out HB.out
  cases q2
  ·have HF := As (show upB s = false by
     rw [Bool.eq_false_iff]
     intro h
     have h2 := (HE2.out.1 h).2.1
     rw [h2] at hq2
     exact absurd hq2 (by decide))
   go_wp2
   go_ret
   exact RetB.mk HF.out HB.out
  cases q3
  ·have HF := As (show upB s = false by
     rw [Bool.eq_false_iff]
     intro h
     have h2 := (HE2.out.1 h).2.2.1
     rw [h2] at hq3
     exact absurd hq3 (by decide))
   go_wp2
   go_ret
   exact RetB.mk HF.out HB.out
  have HF := As (show upB s = (z.s.toList == s.toList) by
   rw [Bool.eq_iff_iff, HE2.out, beq_iff_eq]
   constructor
   · intro h
     rw [h.2.2.2]
   · intro h
     exact ⟨eq_of_beq hq1, by have := eq_of_beq hq2; omega, eq_of_beq hq3, bytes_same h⟩)
  go_wp2
  go_ret
  exact RetB.mk HF.out HB.out
 ·have hl0 : l = [] := List.eq_nil_of_length_eq_zero (by omega)
  subst hl0
  have HF := As (show upB s = false by
   rw [Bool.eq_false_iff]
   intro h
   exact absurd (HE.out.1 h).2.1 (by decide))
  obtain ⟨A, c, rfl, _⟩ := hl
  obtain ⟨q1, hq1⟩ : ∃ q, (er == 0) = q := ⟨_, rfl⟩
  cases q1
  all_goals
   (go_wp2
    go_ret
    exact RetB.mk HF.out HB.out)
/-
  The call's own sets of strings.
-/
/-- A string as a key. -/
def keyS (s : ByteArray) : Lit := .string s.data.toList
theorem keyS_inj {a b : ByteArray} (h : keyS a = keyS b) : a = b := by
 unfold keyS at h
 injection h with h
 apply ByteArray.ext
 exact Array.toList_inj.1 h
/-- The set's datum. -/
def setD (D : DataW Unit) (ks : List ByteArray) : DataW Unit := ks.foldl (fun D s => D.put (keyS s) (.lit (.bool true))) D
theorem setD_snoc (D : DataW Unit) (ks : List ByteArray) (s : ByteArray) : setD D (ks ++ [s]) = (setD D ks).put (keyS s) (.lit (.bool true)) := by
 unfold setD
 rw [List.foldl_append]
 rfl
open Classical in
theorem setD_at (s : ByteArray) (z : DataW Unit) : ∀ (ks : List ByteArray) (D : DataW Unit), Maps.IsMap D → (setD D ks).atKey (keyS s) z = if s ∈ ks then .lit (.bool true) else D.atKey (keyS s) z
 | [], D, _ => by simp [setD]
 | k :: ks, D, hD => by
  show (setD (D.put (keyS k) (.lit (.bool true))) ks).atKey (keyS s) z = _
  rw [setD_at s z ks _ (hD.put _ _)]
  by_cases h : s ∈ ks
  ·rw [if_pos h, if_pos (List.mem_cons_of_mem _ h)]
  ·rw [if_neg h]
   by_cases he : s = k
   ·subst he
    rw [if_pos (List.mem_cons_self ..), Maps.atKey_put_same hD (by unfold keyS; trivial)]
   ·rw [if_neg (by rw [List.mem_cons]; exact fun h1 => h1.elim he h), Maps.atKey_put_other (fun h1 => he (keyS_inj h1))]
/-- The block b is the set of the strings ks. -/
def MSet (w : World) (b : Nat) (ks : List ByteArray) : Prop := w.ownsMap Tryz.prog 9 (plainElem Tryz.prog 4) b ks.length (setD (.map []) ks)
theorem MSet.made (w : World) : MSet (w.alloc (.map #[] 0)) w.heap.size [] := World.ownsMap_made w _ _ _
theorem MSet.step {w w1 : World} {b : Nat} {ks : List ByteArray} (h : MSet w b ks) (he : w1.heap[b]? = w.heap[b]?) : MSet w1 b ks := by
 obtain ⟨es, clock, hb, r⟩ := h
 exact ⟨es, clock, he.trans hb, r⟩
theorem MSet.lt {w : World} {b : Nat} {ks : List ByteArray} (h : MSet w b ks) : b < w.heap.size := World.ownsMap.lt h
theorem MSet.below {w w1 : World} {b : Nat} {ks : List ByteArray} (h : MSet w b ks) (hb : Below w.heap.size w w1) : MSet w1 b ks := h.step (hb.block b h.lt)
theorem plainElem_bool_inv {P : Program} {e : TypeId} (he : P.underlying e = some .bool) {v : Value} {z : DataW Unit × List MemPlace} (h : plainElem P e v = some z) : ∃ x, v = .bool x ∧ z = (.lit (.bool x), []) := by
 unfold plainElem at h
 rw [he] at h
 cases v <;> simp at h
 exact ⟨_, rfl, h.symm⟩
open Classical in
/-- The string is among them. -/
noncomputable def memB (s : ByteArray) (ks : List ByteArray) : Bool := decide (s ∈ ks)
theorem memB_iff (s : ByteArray) (ks : List ByteArray) : memB s ks = true ↔ s ∈ ks := by
 unfold memB
 simp
set_option maxRecDepth 100000 in
theorem MSet.look {w : World} {b : Nat} {ks : List ByteArray} (h : MSet w b ks) (s : ByteArray) (hs : s.size ≤ 24) : (Instr.lookup 128 (.map (some b)) (.string s) false).run Tryz.prog w = .ok (.bool (memB s ks)) w := by
 have hk : keyOf Tryz.prog 9 (.string s) = some (keyS s) := WideMaps.keyOf_string_mk Tryz.underlying9 (by unfold maxLen; omega)
 obtain ⟨v, ps, hrun, hv⟩ := World.ownsMap.lookup h (Maps.string_keyed Tryz.underlying9) Tryz.underlying128 (z := .bool false) (by rfl) (plainElem_bool Tryz.underlying4 false) hk
 obtain ⟨x, rfl, hx⟩ := plainElem_bool_inv Tryz.underlying4 hv
 rw [hrun]
 have h1 : (setD (.map []) ks).atKey (keyS s) (.lit (.bool false)) = .lit (.bool x) := congrArg Prod.fst hx
 rw [setD_at s _ ks _ Maps.isMap_empty] at h1
 by_cases hm : s ∈ ks
 ·rw [if_pos hm] at h1
  injection h1 with h1
  injection h1 with h1
  rw [← h1, (memB_iff s ks).2 hm]
 ·rw [if_neg hm] at h1
  have h2 : DataW.lit (H := Unit) (.bool false) = .lit (.bool x) := h1
  injection h2 with h2
  injection h2 with h2
  rw [← h2, Bool.eq_false_iff.2 (fun h => hm ((memB_iff s ks).1 h))]
set_option maxRecDepth 100000 in
/-- A store of true. -/
theorem ms_put {w w0 : World} {ops : Array Oper} {rest : List Oper} {o : Oper} {a : Act} {Q : Exit → Act → World → Prop} (hg : o.guard = none) (m x v : Operand) (hop : o.op = Op.mapUpdate 128 m x v)
  (b : Nat) (ks : List ByteArray) (s : ByteArray) (hm : a.eval m = .map (some b)) (hx : a.eval x = .string s) (hv : a.eval v = .bool true) (hs : s.size ≤ 24) (hl : ks.length ≤ 1000000) (hown : MSet w b ks) (hb : w0.heap.size ≤ b) (HB : Below w0.heap.size w0 w)
  (hK : ∀ w', MSet w' b (ks ++ [s]) → Below w0.heap.size w0 w' → w.grownBy w' (some b) → wpList Tryz.prog ops Q rest (a.put o.dst undef) w') : wpList Tryz.prog ops Q (o :: rest) a w := by
 have hk : keyOf Tryz.prog 9 (.string s) = some (keyS s) := WideMaps.keyOf_string_mk Tryz.underlying9 (by unfold maxLen; omega)
 refine wpList_mapUpdate_own w hg m x v _ hop _ 4 (Maps.string_keyed Tryz.underlying9) Tryz.underlying128 _ b ks.length _ hm hown (by unfold maxLen; omega) _ _ (keyS s) hx hv hk (.lit (.bool true)) [] (plainElem_bool Tryz.underlying4 true) ?_
 intro w' h1 h2
 refine hK w' ?_ (HB.grown h2 (HB.size) (fun k hk => by cases hk; exact hb)) h2
 unfold MSet
 rw [setD_snoc, List.length_append]
 exact h1
end Go.Proofs.YtldkcpgnccknpaaGreat
