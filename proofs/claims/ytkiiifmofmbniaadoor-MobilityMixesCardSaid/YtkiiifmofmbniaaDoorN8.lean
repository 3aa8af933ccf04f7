/- Walks: the law on mixed page blocks. -/
import Derived.Test.YtkiiifmofmbniaaDoorN7
namespace Go.Proofs.YtkiiifmofmbniaaDoor
open Go.RowKit Go.Over Go.Mob Go.Can Go.Seg Go.Grow
set_option maxRecDepth 100000 in set_option maxHeartbeats 3200000 in
theorem mixes_11 (v : Value) (p : P) (a : Option Addr) (l : List Int) (n c : Nat) (w : World) (H : Rpv w v p) (HI : Ints w a l) (hn : l.length = n) (hFB : FB w) : Calls Tryd.prog 11 #[v, .slice a n c] w fun e w' => e = .returned (.bool true) ∧ Below w.heap.size w w' := by
  have HN := Lib.hid hn
  clear hn
  obtain ⟨cs, rfl, hV⟩ := H
  have X0 := PX.new hV
  have HV0 := Lib.hid hV
  clear hV
  go_enter Tryd.func11, Tryd.ntmps11
  go_upto_region 1 with fail
  obtain ⟨w1, hw1⟩ : ∃ W, W = w.alloc (.cells cs.toArray 26) := ⟨_, rfl⟩
  have X1 : PX w w.heap.size cs p w1 := by rw [hw1]; exact X0
  rw [← hw1]
  obtain ⟨g, hg0⟩ : ∃ g, w.heap.size = g := ⟨_, rfl⟩
  rw [hg0] at X1 ⊢
  clear hw1 X0 hg0
  go_wp2_with fail
  refine (awake_12 _ (hFB.below X1.b)).mono ?_
  rintro e w2 ⟨rfl, b2⟩
  have X2 := X1.below b2
  clear X1 b2
  go_wp2_with ((with_reducible refine ldg ?_ ?_ X2.x X2.v.len ?_); (focus rfl); (focus rfl))
  refine (few_13 _ p _ X2.rpv).mono ?_
  rintro e w3 ⟨rfl, b3⟩
  have X3 := X2.below b3
  clear X2 b3
  cases hfew : fewB p with
  | false =>
    go_wp2_with fail
    refine (awake_12 _ (hFB.below X3.b)).mono ?_
    rintro e w4 ⟨rfl, b4⟩
    go_wp2
    go_ret
    exact ⟨rfl, (X3.below b4).b⟩
  | true =>
  have HLB := Lib.hid (few_len hfew)
  have HFEW := Lib.hid (few_all hfew)
  clear hfew
  have HI3 := HI.below X3.b
  by_cases h300 : 300 < n
  · have t0 : decide ((300 : Int) < (n : Int)) = true := by simp; omega
    go_wp2_with fail
    refine (awake_12 _ (hFB.below X3.b)).mono ?_
    rintro e w4 ⟨rfl, b4⟩
    go_wp2
    go_ret
    exact ⟨rfl, (X3.below b4).b⟩
  have t0 : decide ((300 : Int) < (n : Int)) = false := by simp; omega
  have hn1 : n ≤ 1000 := by omega
  obtain ⟨R, hR⟩ : ∃ R, mixedP p l = R := ⟨_, rfl⟩
  obtain ⟨r1, r2⟩ := R
  have HR := Lib.hid hR
  have tr1 : (r1 == r1) = true := by simp
  have tr2 : (r2 == r2) = true := by simp
  clear h300 hR
  go_wp2_with ((with_reducible refine ld ?_ X3.x X3.v.len ?_); (focus rfl))
  refine (mixed_30 _ p a l n c w3 X3.rpv HI3 HN.out (by omega)).mono ?_
  rw [HR.out]
  rintro e w4 ⟨rfl, b4⟩
  have X4 := X3.below b4
  have HI4 := HI3.below b4
  go_wp2_with ((with_reducible refine ld ?_ X4.x X4.v.len ?_); (focus rfl))
  refine (refMixed_31 _ p a l n c w4 X4.rpv HLB.out HI4 HN.out hn1).mono ?_
  rw [HR.out]
  rintro e w5 ⟨rfl, b5⟩
  have X5 := X4.below b5
  go_wp2
  go_ret
  exact ⟨rfl, X5.b⟩
end Go.Proofs.YtkiiifmofmbniaaDoor
