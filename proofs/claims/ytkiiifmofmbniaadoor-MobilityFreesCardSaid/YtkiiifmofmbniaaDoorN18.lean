/- Walks: the laws on requests and returns. -/
import Derived.Test.YtkiiifmofmbniaaDoorN17
namespace Go.Proofs.YtkiiifmofmbniaaDoor
open Go.RowKit Go.Over Go.Mob Go.Can Go.Seg Go.Grow
set_option maxRecDepth 100000 in set_option maxHeartbeats 3200000 in
theorem frees_6 (v : Value) (p : P) (f o : Int) (w : World) (H : Rpv w v p) (hFB : FB w) : Calls Tryd.prog 6 #[v, .int .i64 f, .int .i64 o] w fun e w' => e = .returned (.bool true) ∧ Below w.heap.size w w' := by
  obtain ⟨cs, rfl, hV⟩ := H
  have X0 := PX.new hV
  have HV0 := Lib.hid hV
  clear hV
  go_enter Tryd.func6, Tryd.ntmps6
  go_upto_region 1 with fail
  obtain ⟨w1, hw1⟩ : ∃ W, W = w.alloc (.cells cs.toArray 26) := ⟨_, rfl⟩
  have X1 : PX w w.heap.size cs p w1 := by rw [hw1]; exact X0
  rw [← hw1]
  obtain ⟨g, hg0⟩ : ∃ g, w.heap.size = g := ⟨_, rfl⟩
  rw [hg0] at X1 ⊢
  clear hw1 X0 hg0
  go_wp2_with fail
  refine (awake_12 _ (hFB.below X1.b)).mono ?_
  rintro e w2 ⟨rfl, b2⟩
  have X2 := X1.below b2
  clear X1 b2
  go_wp2_with ((with_reducible refine ldg ?_ ?_ X2.x X2.v.len ?_); (focus rfl); (focus rfl))
  refine (few_13 _ p _ X2.rpv).mono ?_
  rintro e w3 ⟨rfl, b3⟩
  have X3 := X2.below b3
  clear X2 b3
  cases hfew : fewB p with
  | false =>
    go_wp2_with fail
    refine (awake_12 _ (hFB.below X3.b)).mono ?_
    rintro e w4 ⟨rfl, b4⟩
    go_wp2
    go_ret
    exact ⟨rfl, (X3.below b4).b⟩
  | true =>
  have HLB := Lib.hid (few_len hfew)
  have HFEW := Lib.hid (few_all hfew)
  clear hfew
  go_wp2_with ((with_reducible refine ld ?_ X3.x X3.v.len ?_); (focus rfl))
  refine (free_21 _ p f o w3 X3.rpv).mono ?_
  obtain ⟨RR, hR⟩ : ∃ R, freeP p f o = R := ⟨_, rfl⟩
  obtain ⟨pq, c⟩ := RR
  rw [hR]
  have HR := Lib.hid hR
  clear hR
  rintro e w2 ⟨cs1, rfl, hO, b2⟩
  have X4 := X3.below b2
  have hO1w := MixP.weaken hO X3.b.size
  have hz1 := Blk.new w2 26 #[.int .i64 0, .slice none 0 0, .slice none 0 0, .slice none 0 0, .slice none 0 0, .slice none 0 0, .slice none 0 0, .slice none 0 0, .slice none 0 0, .slice none 0 0, .slice none 0 0, .slice none 0 0, .slice none 0 0, .slice none 0 0, .slice none 0 0, .slice none 0 0, .slice none 0 0] zP rfl
  have h11 := (MixP.pv hO1w).one
  have hl1 := (MixP.pv hO1w).len
  go_upto_region 4 with ((with_reducible refine st26 (cs := cs1) ?_ ?_ hz1 zP_len hl1 h11 ?_); (focus rfl); (focus rfl); intro wS hBS hgS)
  have V1 := VP.new hO1w (below_then X3.b b2) hz1 hBS hgS
  have bS : Below w2.heap.size w2 wS := (below_box w2 (.cells #[.int .i64 0, .slice none 0 0, .slice none 0 0, .slice none 0 0, .slice none 0 0, .slice none 0 0, .slice none 0 0, .slice none 0 0, .slice none 0 0, .slice none 0 0, .slice none 0 0, .slice none 0 0, .slice none 0 0, .slice none 0 0, .slice none 0 0, .slice none 0 0, .slice none 0 0] 26)).grown hgS (by simp) (fun k hk => Nat.le_of_eq (Option.some.inj hk))
  obtain ⟨g1, hgq⟩ : ∃ g, w2.heap.size = g := ⟨_, rfl⟩
  rw [hgq] at V1 ⊢
  clear hgq hBS hgS hz1 h11 hl1 hO1w
  have X5 := X4.below bS
  clear hO b2 bS X4 X3
  go_wp2_with ((with_reducible refine ld ?_ X5.x X5.v.len ?_); (focus rfl))
  refine (refFree_22 _ p f o wS X5.rpv HLB.out).mono ?_
  rw [HR.out]
  rintro e w4 ⟨cs2, q, rfl, hO, b4, hq⟩
  clear X5
  have V2 := V1.below b4
  have HSQ := Lib.hid hq
  have hO4 := MixP.weaken hO V1.b.size
  clear V1 hq hO b4
  have hz4 := Blk.new w4 26 #[.int .i64 0, .slice none 0 0, .slice none 0 0, .slice none 0 0, .slice none 0 0, .slice none 0 0, .slice none 0 0, .slice none 0 0, .slice none 0 0, .slice none 0 0, .slice none 0 0, .slice none 0 0, .slice none 0 0, .slice none 0 0, .slice none 0 0, .slice none 0 0, .slice none 0 0] zP rfl
  have h14 := (MixP.pv hO4).one
  have hl4 := (MixP.pv hO4).len
  go_upto_region 5 with ((with_reducible refine st26 (cs := cs2) ?_ ?_ hz4 zP_len hl4 h14 ?_); (focus rfl); (focus rfl); intro wT hBT hgT)
  have V4 := VP.new hO4 V2.b hz4 hBT hgT
  have V3 := V2.below ((below_box w4 (.cells #[.int .i64 0, .slice none 0 0, .slice none 0 0, .slice none 0 0, .slice none 0 0, .slice none 0 0, .slice none 0 0, .slice none 0 0, .slice none 0 0, .slice none 0 0, .slice none 0 0, .slice none 0 0, .slice none 0 0, .slice none 0 0, .slice none 0 0, .slice none 0 0, .slice none 0 0] 26)).grown hgT (by simp) (fun k hk => Nat.le_of_eq (Option.some.inj hk)))
  obtain ⟨g4, hg4⟩ : ∃ g, w4.heap.size = g := ⟨_, rfl⟩
  rw [hg4] at V4 ⊢
  clear hg4 hBT hgT hz4 h14 hl4 hO4 V2
  have tc : (c == c) = true := by simp
  go_wp2_with first | ((with_reducible refine ldg ?_ ?_ V3.x V3.v.len ?_); (focus rfl); (focus rfl)) | ((with_reducible refine ldg ?_ ?_ V4.x V4.v.len ?_); (focus rfl); (focus rfl))
  refine (same_18 _ _ pq q wT V3.rpv V4.rpv HSQ.out.1 HSQ.out.2.1 HSQ.out.2.2.1 HSQ.out.2.2.2).mono ?_
  rintro e w5 ⟨rfl, b5⟩
  go_wp2
  go_ret
  exact ⟨rfl, (V3.below b5).b⟩
set_option maxRecDepth 100000 in set_option maxHeartbeats 3200000 in
theorem allocs_5 (v : Value) (p : P) (o t : Int) (w : World) (H : Rpv w v p) (hFB : FB w) : Calls Tryd.prog 5 #[v, .int .i64 o, .int .i64 t] w fun e w' => e = .returned (.bool true) ∧ Below w.heap.size w w' := by
  obtain ⟨cs, rfl, hV⟩ := H
  have X0 := PX.new hV
  have HV0 := Lib.hid hV
  clear hV
  go_enter Tryd.func5, Tryd.ntmps5
  go_upto_region 1 with fail
  obtain ⟨w1, hw1⟩ : ∃ W, W = w.alloc (.cells cs.toArray 26) := ⟨_, rfl⟩
  have X1 : PX w w.heap.size cs p w1 := by rw [hw1]; exact X0
  rw [← hw1]
  obtain ⟨g, hg0⟩ : ∃ g, w.heap.size = g := ⟨_, rfl⟩
  rw [hg0] at X1 ⊢
  clear hw1 X0 hg0
  go_wp2_with fail
  refine (awake_12 _ (hFB.below X1.b)).mono ?_
  rintro e w2 ⟨rfl, b2⟩
  have X2 := X1.below b2
  clear X1 b2
  go_wp2_with ((with_reducible refine ldg ?_ ?_ X2.x X2.v.len ?_); (focus rfl); (focus rfl))
  refine (few_13 _ p _ X2.rpv).mono ?_
  rintro e w3 ⟨rfl, b3⟩
  have X3 := X2.below b3
  clear X2 b3
  cases hfew : fewB p with
  | false =>
    go_wp2_with fail
    refine (awake_12 _ (hFB.below X3.b)).mono ?_
    rintro e w4 ⟨rfl, b4⟩
    go_wp2
    go_ret
    exact ⟨rfl, (X3.below b4).b⟩
  | true =>
  have HLB := Lib.hid (few_len hfew)
  have HFEW := Lib.hid (few_all hfew)
  clear hfew
  go_wp2_with ((with_reducible refine ld ?_ X3.x X3.v.len ?_); (focus rfl))
  refine (alloc_19 _ p o t w3 X3.rpv (hFB.below X3.b)).mono ?_
  obtain ⟨RR, hR⟩ : ∃ R, allocP p o t = R := ⟨_, rfl⟩
  obtain ⟨pq, x, c⟩ := RR
  rw [hR]
  have HR := Lib.hid hR
  clear hR
  rintro e w2 ⟨cs1, rfl, hO, b2⟩
  have X4 := X3.below b2
  have hO1w := MixP.weaken hO X3.b.size
  have hz1 := Blk.new w2 26 #[.int .i64 0, .slice none 0 0, .slice none 0 0, .slice none 0 0, .slice none 0 0, .slice none 0 0, .slice none 0 0, .slice none 0 0, .slice none 0 0, .slice none 0 0, .slice none 0 0, .slice none 0 0, .slice none 0 0, .slice none 0 0, .slice none 0 0, .slice none 0 0, .slice none 0 0] zP rfl
  have h11 := (MixP.pv hO1w).one
  have hl1 := (MixP.pv hO1w).len
  go_upto_region 4 with ((with_reducible refine st26 (cs := cs1) ?_ ?_ hz1 zP_len hl1 h11 ?_); (focus rfl); (focus rfl); intro wS hBS hgS)
  have V1 := VP.new hO1w (below_then X3.b b2) hz1 hBS hgS
  have bS : Below w2.heap.size w2 wS := (below_box w2 (.cells #[.int .i64 0, .slice none 0 0, .slice none 0 0, .slice none 0 0, .slice none 0 0, .slice none 0 0, .slice none 0 0, .slice none 0 0, .slice none 0 0, .slice none 0 0, .slice none 0 0, .slice none 0 0, .slice none 0 0, .slice none 0 0, .slice none 0 0, .slice none 0 0, .slice none 0 0] 26)).grown hgS (by simp) (fun k hk => Nat.le_of_eq (Option.some.inj hk))
  obtain ⟨g1, hgq⟩ : ∃ g, w2.heap.size = g := ⟨_, rfl⟩
  rw [hgq] at V1 ⊢
  clear hgq hBS hgS hz1 h11 hl1 hO1w
  have X5 := X4.below bS
  clear hO b2 bS X4 X3
  go_wp2_with ((with_reducible refine ld ?_ X5.x X5.v.len ?_); (focus rfl))
  refine (refAlloc_20 _ p o t wS X5.rpv HLB.out).mono ?_
  rw [HR.out]
  rintro e w4 ⟨cs2, q, rfl, hO, b4, hq⟩
  have tx : (x == x) = true := by simp
  clear X5
  have V2 := V1.below b4
  have HSQ := Lib.hid hq
  have hO4 := MixP.weaken hO V1.b.size
  clear V1 hq hO b4
  have hz4 := Blk.new w4 26 #[.int .i64 0, .slice none 0 0, .slice none 0 0, .slice none 0 0, .slice none 0 0, .slice none 0 0, .slice none 0 0, .slice none 0 0, .slice none 0 0, .slice none 0 0, .slice none 0 0, .slice none 0 0, .slice none 0 0, .slice none 0 0, .slice none 0 0, .slice none 0 0, .slice none 0 0] zP rfl
  have h14 := (MixP.pv hO4).one
  have hl4 := (MixP.pv hO4).len
  go_upto_region 5 with ((with_reducible refine st26 (cs := cs2) ?_ ?_ hz4 zP_len hl4 h14 ?_); (focus rfl); (focus rfl); intro wT hBT hgT)
  have V4 := VP.new hO4 V2.b hz4 hBT hgT
  have V3 := V2.below ((below_box w4 (.cells #[.int .i64 0, .slice none 0 0, .slice none 0 0, .slice none 0 0, .slice none 0 0, .slice none 0 0, .slice none 0 0, .slice none 0 0, .slice none 0 0, .slice none 0 0, .slice none 0 0, .slice none 0 0, .slice none 0 0, .slice none 0 0, .slice none 0 0, .slice none 0 0, .slice none 0 0] 26)).grown hgT (by simp) (fun k hk => Nat.le_of_eq (Option.some.inj hk)))
  obtain ⟨g4, hg4⟩ : ∃ g, w4.heap.size = g := ⟨_, rfl⟩
  rw [hg4] at V4 ⊢
  clear hg4 hBT hgT hz4 h14 hl4 hO4 V2
  have tc : (c == c) = true := by simp
  go_wp2_with first | ((with_reducible refine ldg ?_ ?_ V3.x V3.v.len ?_); (focus rfl); (focus rfl)) | ((with_reducible refine ldg ?_ ?_ V4.x V4.v.len ?_); (focus rfl); (focus rfl))
  refine (same_18 _ _ pq q wT V3.rpv V4.rpv HSQ.out.1 HSQ.out.2.1 HSQ.out.2.2.1 HSQ.out.2.2.2).mono ?_
  rintro e w5 ⟨rfl, b5⟩
  go_wp2
  go_ret
  exact ⟨rfl, (V3.below b5).b⟩
end Go.Proofs.YtkiiifmofmbniaaDoor
