/- Walks: the fixed example of the statements. -/
import Derived.Test.YtkiiifmofmbniaaDoorM15
namespace Go.Mob
open Go.Can
def ex1 : P × Int := newP 0 [0, 1]
def ex2 : P × Int × Int := allocP ex1.1 0 2
def ex3 : P × Int := freeP ex2.1 16 0
theorem ex1_all : ex1.2 = 0 ∧ ex1.1.ty.length = 2 ∧ (ex1.1.fr 9).length = 1 ∧ chk ex1.1 = 0 := by decide +kernel
theorem ex2_all : ex2.2.1 = 16 ∧ ex2.2.2 = 0 ∧ ex2.1.ty = [0, 2] ∧ ex2.1.fr 13 = [24] := by decide +kernel
theorem ex3_all : ex3.2 = 0 ∧ countP ex3.1 2 = 16 ∧ typeP ex3.1 20 = 2 := by decide +kernel
end Go.Mob
namespace Go.Proofs.YtkiiifmofmbniaaDoor
open Go.RowKit Go.Over Go.Mob Go.Can Go.Seg Go.Grow
theorem sl_two (w : World) (x y : Int) : Sl (w.alloc (.cells #[.int .i64 x, .int .i64 y] 3)) (.slice (some ⟨w.heap.size, 0, none⟩) 2 2) [x, y] := by
  have hb := Blk.new w 3 #[.int .i64 x, .int .i64 y] [.int .i64 x, .int .i64 y] rfl
  refine ⟨_, 2, rfl, Nat.le_refl _, by unfold maxLen; decide, fun h => (by cases h), fun _ => ⟨_, 0, rfl, fun i hi => ?_⟩⟩
  rw [Nat.zero_add, hb.cell]
  rcases (show i = 0 ∨ i = 1 by simp at hi; omega) with rfl | rfl <;> rfl
set_option maxRecDepth 100000 in set_option maxHeartbeats 3200000 in
theorem awake_12 (w : World) (hFB : FB w) : Calls Tryd.prog 12 #[] w fun e w' => e = .returned (.bool true) ∧ Below w.heap.size w w' := by
  obtain ⟨p1, hp1⟩ : ∃ p, ex1 = p := ⟨_, rfl⟩
  obtain ⟨p2, hp2⟩ : ∃ p, ex2 = p := ⟨_, rfl⟩
  obtain ⟨p3, hp3⟩ : ∃ p, ex3 = p := ⟨_, rfl⟩
  have A1 := ex1_all
  have A2 := ex2_all
  have A3 := ex3_all
  rw [hp1] at A1
  rw [hp2] at A2
  rw [hp3] at A3
  have E1 := Lib.hid (show newP 0 [0, 1] = p1 from hp1)
  have E2 := Lib.hid (show allocP p1.1 0 2 = p2 by rw [← hp1, ← hp2]; rfl)
  have E3 := Lib.hid (show freeP p2.1 16 0 = p3 by rw [← hp2, ← hp3]; rfl)
  have AH1 := Lib.hid A1; have AH2 := Lib.hid A2; have AH3 := Lib.hid A3
  have HFB := Lib.hid hFB
  clear hp1 hp2 hp3 A1 A2 A3 hFB
  obtain ⟨q1, c1⟩ := p1
  obtain ⟨q2, x2, c2⟩ := p2
  obtain ⟨q3, c3⟩ := p3
  have hb0 := below_box w (.cells #[.int .i64 0, .int .i64 1] 3)
  have hs0 := sl_two w 0 1
  go_enter Tryd.func12, Tryd.ntmps12
  go_wp2_with fail
  obtain ⟨w1, hw1⟩ : ∃ W, W = w.alloc (.cells #[.int .i64 0, .int .i64 1] 3) := ⟨_, rfl⟩
  rw [← hw1] at hb0 hs0 ⊢
  clear hw1
  refine (new_16 0 _ [0, 1] w1 hs0 (by decide)).mono ?_
  rw [E1.out]
  rintro e w2 ⟨cs1, rfl, hO, b2⟩
  have hB := below_then hb0 b2
  have hO1 := MixP.weaken hO hb0.size
  clear hO b2 hb0 hs0
  have hz := Blk.new w2 26 #[.int .i64 0, .slice none 0 0, .slice none 0 0, .slice none 0 0, .slice none 0 0, .slice none 0 0, .slice none 0 0, .slice none 0 0, .slice none 0 0, .slice none 0 0, .slice none 0 0, .slice none 0 0, .slice none 0 0, .slice none 0 0, .slice none 0 0, .slice none 0 0, .slice none 0 0] zP rfl
  have h1c := (MixP.pv hO1).one
  have hlen := (MixP.pv hO1).len
  go_upto_region 2 with ((with_reducible refine st26 (cs := cs1) ?_ ?_ hz zP_len hlen h1c ?_); (focus rfl); (focus rfl); intro wS hBS hgS)
  have V1 := VP.new hO1 hB hz hBS hgS
  obtain ⟨g1, hgq⟩ : ∃ g, w2.heap.size = g := ⟨_, rfl⟩
  rw [hgq] at V1 ⊢
  clear hgq hBS hgS hz h1c hlen hO1 hB
  obtain ⟨rfl, a2, a3, a4⟩ := AH1.out
  obtain ⟨aT, nT, cT, hT, hnT, _, _, _, _⟩ := V1.v.types V1.x
  obtain ⟨aL, nL, cL, hL, hnL, _, _, _, _⟩ := V1.v.list V1.x (show 1 < 3 by decide) (show 4 < 5 by decide)
  obtain rfl : nT = 2 := by omega
  obtain rfl : nL = 1 := by rw [← hnL]; exact a3
  have HA4 := Lib.hid a4
  clear a2 a3 a4 hnT hnL AH1
  go_wp2_with ((with_reducible refine ldg ?_ ?_ V1.x V1.v.len ?_); (focus rfl); (focus rfl))
  refine (check_14 _ q1 _ V1.rpv).mono ?_
  rintro e w3 ⟨rfl, b3⟩
  rw [HA4.out]
  have V2 := V1.below b3
  clear V1 b3 hT hL
  go_wp2_with ((with_reducible refine ld ?_ V2.x V2.v.len ?_); (focus rfl))
  have hA := alloc_19 _ q1 0 2 w3 V2.rpv (HFB.out.below V2.b)
  rw [E2.out] at hA
  refine hA.mono ?_
  rintro e w4 ⟨cs2, rfl, hO, b4⟩
  have hB := V2.below b4 |>.b
  have hO1 := MixP.weaken hO V2.b.size
  clear hO b4 V2 hA
  have hz := Blk.new w4 26 #[.int .i64 0, .slice none 0 0, .slice none 0 0, .slice none 0 0, .slice none 0 0, .slice none 0 0, .slice none 0 0, .slice none 0 0, .slice none 0 0, .slice none 0 0, .slice none 0 0, .slice none 0 0, .slice none 0 0, .slice none 0 0, .slice none 0 0, .slice none 0 0, .slice none 0 0] zP rfl
  have h1c := (MixP.pv hO1).one
  have hlen := (MixP.pv hO1).len
  go_upto_region 5 with ((with_reducible refine st26 (cs := cs2) ?_ ?_ hz zP_len hlen h1c ?_); (focus rfl); (focus rfl); intro wS hBS hgS)
  have V3 := VP.new hO1 hB hz hBS hgS
  obtain ⟨g2, hgq⟩ : ∃ g, w4.heap.size = g := ⟨_, rfl⟩
  rw [hgq] at V3 ⊢
  clear hgq hBS hgS hz h1c hlen hO1 hB
  obtain ⟨rfl, rfl, a2, a3⟩ := AH2.out
  obtain ⟨aT, nT, cT, hT, hnT, _, _, _, hIT⟩ := V3.v.types V3.x
  obtain ⟨aL, nL, cL, hL, hnL, _, _, _, hIL⟩ := V3.v.list V3.x (show 2 < 3 by decide) (show 3 < 5 by decide)
  rw [a2] at hnT hIT
  rw [show 5 * 2 + 3 = 13 by decide, a3] at hnL hIL
  obtain rfl : nT = 2 := hnT.symm
  obtain rfl : nL = 1 := hnL.symm
  obtain ⟨bT, oT, rfl, cxT⟩ := hIT.at (i := 1) (x := 2) rfl
  obtain ⟨bL, oL, rfl, cxL⟩ := hIL.at (i := 0) (x := 24) rfl
  rw [Nat.add_zero] at cxL
  clear a2 a3 hnT hnL AH2 hIT hIL
  go_wp2_with ((with_reducible refine ld ?_ V3.x V3.v.len ?_); (focus rfl))
  clear hT hL cxT cxL
  have hA := free_21 _ q2 16 0 _ V3.rpv
  rw [E3.out] at hA
  refine hA.mono ?_
  rintro e w5 ⟨cs3, rfl, hO, b5⟩
  have hB := V3.below b5 |>.b
  have hO1 := MixP.weaken hO V3.b.size
  clear hO b5 V3 hA
  have hz := Blk.new w5 26 #[.int .i64 0, .slice none 0 0, .slice none 0 0, .slice none 0 0, .slice none 0 0, .slice none 0 0, .slice none 0 0, .slice none 0 0, .slice none 0 0, .slice none 0 0, .slice none 0 0, .slice none 0 0, .slice none 0 0, .slice none 0 0, .slice none 0 0, .slice none 0 0, .slice none 0 0] zP rfl
  have h1c := (MixP.pv hO1).one
  have hlen := (MixP.pv hO1).len
  go_upto_region 8 with ((with_reducible refine st26 (cs := cs3) ?_ ?_ hz zP_len hlen h1c ?_); (focus rfl); (focus rfl); intro wS hBS hgS)
  have V4 := VP.new hO1 hB hz hBS hgS
  obtain ⟨g3, hgq⟩ : ∃ g, w5.heap.size = g := ⟨_, rfl⟩
  rw [hgq] at V4 ⊢
  clear hgq hBS hgS hz h1c hlen hO1 hB
  obtain ⟨rfl, a2, a3⟩ := AH3.out
  have HA2 := Lib.hid a2; have HA3 := Lib.hid a3
  clear a2 a3 AH3
  go_wp2_with ((with_reducible refine ldg ?_ ?_ V4.x V4.v.len ?_); (focus rfl); (focus rfl))
  refine (count_25 _ q3 2 _ V4.rpv).mono ?_
  rintro e w6 ⟨rfl, b6⟩
  rw [HA2.out]
  have V5 := V4.below b6
  clear V4 b6
  go_wp2_with ((with_reducible refine ldg ?_ ?_ V5.x V5.v.len ?_); (focus rfl); (focus rfl))
  refine (type_24 _ q3 20 _ V5.rpv).mono ?_
  rintro e w7 ⟨rfl, b7⟩
  rw [HA3.out]
  have V6 := V5.below b7
  clear V5 b7
  go_wp2
  go_ret
  exact ⟨rfl, V6.b⟩
end Go.Proofs.YtkiiifmofmbniaaDoor
