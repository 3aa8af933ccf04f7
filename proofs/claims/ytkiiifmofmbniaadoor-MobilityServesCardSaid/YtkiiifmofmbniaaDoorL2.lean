/- Walks: the laws on plays; a request that its own type serves. -/
import Derived.Test.YtkiiifmofmbniaaDoorL1
namespace Go.Mob
open Go.Can
/-- Whether one of the lists k, .., k + n - 1 has a block. -/
def hasB (fr : Nat → List Int) (b k n : Nat) : Bool := (List.range n).any fun i => decide (0 < (fr (b + (k + i))).length)
theorem hasB_zero {fr : Nat → List Int} {b k : Nat} : hasB fr b k 0 = false := rfl
theorem hasB_succ {fr : Nat → List Int} {b k n : Nat} : hasB fr b k (n + 1) = (hasB fr b k n || decide (0 < (fr (b + (k + n))).length)) := by
  unfold hasB
  rw [List.range_succ, List.any_append]
  simp
theorem hasB_true {fr : Nat → List Int} {b k n : Nat} (h : hasB fr b k n = true) : ∃ j, k ≤ j ∧ j < k + n ∧ (fr (b + j)).length ≠ 0 := by
  unfold hasB at h
  rw [List.any_eq_true] at h
  obtain ⟨i, hi, h⟩ := h
  have := List.mem_range.1 hi
  exact ⟨k + i, by omega, by omega, by have := of_decide_eq_true h; omega⟩
theorem three_list {l : List Int} (h : l.length = 3) : ∃ a b c, l = [a, b, c] := by
  match l, h with
  | [a, b, c], _ => exact ⟨a, b, c, rfl⟩
end Go.Mob
namespace Go.Proofs.YtkiiifmofmbniaaDoor
open Go.RowKit Go.Over Go.Mob Go.Can Go.Seg Go.Grow
set_option maxRecDepth 100000 in set_option maxHeartbeats 3200000 in
theorem stays_8 (x y z ao at' : Nat) (a : Option Addr) (l : List Stp) (n c : Nat) (w : World) (hx : x < 256) (hy : y < 256) (hz : z < 256) (ho : ao < 256) (ht : at' < 256) (HO0 : Ops w a l) (hn : l.length = n) (hFB : FB w) :
    Calls Tryd.prog 8 #[.agg #[.int .u8 x, .int .u8 y, .int .u8 z], .slice a n c, .agg #[.int .u8 ao, .int .u8 at']] w fun e w' => e = .returned (.bool true) ∧ Below w.heap.size w w' := by
  obtain ⟨s, hS, hPI, hsl⟩ := play_start (x := x) (y := y) (z := z) l
  have HS := Lib.hid hS; have HPI := Lib.hid hPI; have HN := Lib.hid hn; have HSL := Lib.hid hsl
  clear hS hPI hn hsl
  go_enter Tryd.func8, Tryd.ntmps8
  go_wp2_with fail
  obtain ⟨w0, hw0⟩ : ∃ W, W = (w.alloc (.cells #[.int .u8 x, .int .u8 y, .int .u8 z] 38)).alloc (.cells #[.int .u8 ao, .int .u8 at'] 40) := ⟨_, rfl⟩
  have b0 : Below w.heap.size w w0 := by rw [hw0]; exact below_then (below_box _ _) (below_box _ _)
  have X0 : Blk w0 w.heap.size 38 [.int .u8 x, .int .u8 y, .int .u8 z] := by rw [hw0]; exact (Blk.new w 38 #[.int .u8 x, .int .u8 y, .int .u8 z] _ rfl).later (below_box _ _)
  rw [← hw0]
  refine (awake_12 _ (hFB.below b0)).mono ?_
  rintro e w1 ⟨rfl, b1⟩
  have B1 := below_then b0 b1
  by_cases h30 : 30 < n
  · have t0 : decide ((30 : Int) < (n : Int)) = true := by simp; omega
    go_wp2_with fail
    refine (awake_12 _ (hFB.below B1)).mono ?_
    rintro e w2 ⟨rfl, b2⟩
    go_wp2
    go_ret
    exact ⟨rfl, below_then B1 b2⟩
  have t0 : decide ((30 : Int) < (n : Int)) = false := by simp; omega
  have hle : n ≤ 30 := by omega
  have x0 := (X0.later b1).cell 0
  have x1 := (X0.later b1).cell 1
  have x2 := (X0.later b1).cell 2
  simp only [List.getElem?_cons_zero, List.getElem?_cons_succ] at x0 x1 x2
  clear h30 b0
  go_wp2_with fail
  clear x0 x1 x2 X0
  refine (play_23 x y z a l n c w1 hx hy hz (HO0.below B1) HN.out (by omega) (hFB.below B1) s HS.out).mono ?_
  rintro e w2 ⟨cs1, a9, c9, rfl, hO, hH, b2⟩
  have hO2 := MixP.weaken hO B1.size
  have hH2 : HO w2 w.heap.size (.slice a9 s.2.length c9) s.2 := own_weaken hH B1.size
  have B2 := below_then B1 b2
  have hz2 := Blk.new w2 26 #[.int .i64 0, .slice none 0 0, .slice none 0 0, .slice none 0 0, .slice none 0 0, .slice none 0 0, .slice none 0 0, .slice none 0 0, .slice none 0 0, .slice none 0 0, .slice none 0 0, .slice none 0 0, .slice none 0 0, .slice none 0 0, .slice none 0 0, .slice none 0 0, .slice none 0 0] zP rfl
  have h1c := (MixP.pv hO2).one
  have hlen := (MixP.pv hO2).len
  obtain ⟨m, hm⟩ : ∃ m, s.2.length = m := ⟨_, rfl⟩
  rw [hm] at hH2 ⊢
  go_upto_region 4 with ((with_reducible refine st26 (cs := cs1) ?_ ?_ hz2 zP_len hlen h1c ?_); (focus rfl); (focus rfl); intro w3 hB3 hg3)
  have V3 := VP.new hO2 B2 hz2 hB3 hg3
  have b3 : Below w2.heap.size w2 w3 := (below_box w2 (.cells #[.int .i64 0, .slice none 0 0, .slice none 0 0, .slice none 0 0, .slice none 0 0, .slice none 0 0, .slice none 0 0, .slice none 0 0, .slice none 0 0, .slice none 0 0, .slice none 0 0, .slice none 0 0, .slice none 0 0, .slice none 0 0, .slice none 0 0, .slice none 0 0, .slice none 0 0] 26)).grown hg3 (by simp) (fun k hk => Nat.le_of_eq (Option.some.inj hk))
  have H3 := HO.later hH2 b3
  have HM := Lib.hid hm
  have hm30 : m ≤ 30 := by have := HSL.out; have := HN.out; omega
  obtain ⟨g, hg⟩ : ∃ g, w2.heap.size = g := ⟨_, rfl⟩
  rw [hg] at V3 ⊢
  have Y0 : Blk w0 (w.heap.size + 1) 40 [.int .u8 ao, .int .u8 at'] := by
    have := Blk.new (w.alloc (.cells #[.int .u8 x, .int .u8 y, .int .u8 z] 38)) 40 #[.int .u8 ao, .int .u8 at'] [.int .u8 ao, .int .u8 at'] rfl
    rw [show (w.alloc (.cells #[.int .u8 x, .int .u8 y, .int .u8 z] 38)).heap.size = w.heap.size + 1 by simp] at this
    rw [hw0]; exact this
  have Y3 := ((Y0.later b1).later b2).later b3
  clear Y0
  clear hg hB3 hg3 hz2 h1c hlen hO2 B2 hO hH hH2 b2 b3 hm HS hw0 b1 B1
  have y0 := Y3.cell 0
  have y1 := Y3.cell 1
  simp only [List.getElem?_cons_zero, List.getElem?_cons_succ] at y0 y1
  obtain ⟨k, hk⟩ : ∃ k, ao % 5 = k := ⟨_, rfl⟩
  obtain ⟨t, ht'⟩ : ∃ t, at' % 3 = t := ⟨_, rfl⟩
  have hk5 : k < 5 := by omega
  have ht3 : t < 3 := by omega
  have ek : (ao : Int) % 5 = (k : Int) := by omega
  have et : (at' : Int) % 3 = (t : Int) := by omega
  clear hk ht' H3
  go_wp2_with fail
  refine wp_region_plan (fun U => Below w3.heap.size w3 U) (.quiet [0, 1, 2, 3, 4, 5, 6, 7, 8, 9] .done) 99 (by kernel_rfl) (by kernel_rfl) (Below.refl _ _).drew ?_
  intro W hW hWe
  have V4 := V3.below hW
  clear hWe
  simp only [wpPlan, inOrder, List.filterMap_cons, List.filterMap_nil, List.getElem?_cons_zero, List.getElem?_cons_succ]
  have q0 := fun z => cell_later (hold_ok (S0 := fun U => Below w3.heap.size w3 U) hW z) y0
  have q1 := fun z => cell_later (hold_ok (S0 := fun U => Below w3.heap.size w3 U) hW z) y1
  show wpQuiet _ _ _ _ (_ :: _ :: _ :: _ :: _ :: _ :: _ :: _ :: _ :: [_]) _
  repeat (go_big_quiet_step (fail))
  refine wpQuiet_nil ?_
  refine NoPanic.normal ?_
  clear q0 q1 y0 y1 Y3 V3 hW
  go_wp2
  go_loopg [12, 13] (5 - k) (fun gg v12 v13 wq => ∃ j : Nat, j + gg = 5 - k ∧ v13 = .int .i64 ((k + j : Nat) : Int) ∧ v12 = .bool (hasB s.1.fr (5 * t) k j) ∧ W = wq)
  case atStart => exact ⟨0, by omega, by rw [Nat.add_zero], by rw [hasB_zero], rfl⟩
  case round =>
    obtain ⟨j, hg, rfl, rfl, rfl⟩ := hrel
    cases gk with
    | zero =>
      obtain rfl : j = 5 - k := by omega
      have tj : decide (((k + (5 - k) : Nat) : Int) ≤ 4) = false := by simp; omega
      obtain ⟨own, hown⟩ : ∃ b, hasB s.1.fr (5 * t) k (5 - k) = b := ⟨_, rfl⟩
      rw [hown]
      have HOWN := Lib.hid hown
      clear hown hg
      obtain ⟨R, hR⟩ : ∃ R, allocP s.1 (k : Int) (t : Int) = R := ⟨_, rfl⟩
      obtain ⟨rq, rf, re⟩ := R
      have HR := Lib.hid hR
      clear hR
      go_wp2_with ((with_reducible refine ld ?_ V4.x V4.v.len ?_); (focus rfl))
      refine (alloc_19 _ s.1 (k : Int) (t : Int) W V4.rpv (hFB.below V4.b)).mono ?_
      rw [HR.out]
      rintro e w6 ⟨cs7, rfl, hO, b6⟩
      have V6 := V4.below b6
      have hO6 := MixP.weaken hO V4.b.size
      have hz6 := Blk.new w6 26 #[.int .i64 0, .slice none 0 0, .slice none 0 0, .slice none 0 0, .slice none 0 0, .slice none 0 0, .slice none 0 0, .slice none 0 0, .slice none 0 0, .slice none 0 0, .slice none 0 0, .slice none 0 0, .slice none 0 0, .slice none 0 0, .slice none 0 0, .slice none 0 0, .slice none 0 0] zP rfl
      have h17 := (MixP.pv hO6).one
      have hl7 := (MixP.pv hO6).len
      go_upto_region 13 with ((with_reducible refine st26 (cs := cs7) ?_ ?_ hz6 zP_len hl7 h17 ?_); (focus rfl); (focus rfl); intro w8 hB8 hg8)
      have V8 := V6.below ((below_box w6 (.cells #[.int .i64 0, .slice none 0 0, .slice none 0 0, .slice none 0 0, .slice none 0 0, .slice none 0 0, .slice none 0 0, .slice none 0 0, .slice none 0 0, .slice none 0 0, .slice none 0 0, .slice none 0 0, .slice none 0 0, .slice none 0 0, .slice none 0 0, .slice none 0 0, .slice none 0 0] 26)).grown hg8 (by simp) (fun k hk => Nat.le_of_eq (Option.some.inj hk)))
      have N8 := VP.new hO6 V6.b hz6 hB8 hg8
      obtain ⟨gn, hgn⟩ : ∃ g, w6.heap.size = g := ⟨_, rfl⟩
      rw [hgn] at N8 ⊢
      clear hgn hB8 hg8 hz6 h17 hl7 hO6 hO V6 b6 V4
      cases own with
      | false =>
        go_wp2
        go_ret
        exact ⟨rfl, V8.b⟩
      | true =>
        obtain ⟨j, hj1, hj2, hjn⟩ := hasB_true HOWN.out
        obtain ⟨q', f', e', ty', et'⟩ := stays HPI.out hk5 ht3 hj1 (by omega) hjn
        rw [HR.out] at e'
        cases e'
        have HTY := Lib.hid ty'
        obtain ⟨a0, a1, a2, hl3⟩ := three_list HPI.out.n
        have hl4 : rq.ty = [a0, a1, a2] := by rw [et', hl3]
        obtain ⟨aT, nT, cT, hT, hnT, _, _, _, iT⟩ := V8.v.types V8.x
        obtain ⟨aU, nU, cU, hU, hnU, _, _, _, iU⟩ := N8.v.types N8.x
        rw [hl3] at hnT iT
        rw [hl4] at hnU iU
        obtain rfl : nT = 3 := hnT.symm
        obtain rfl : nU = 3 := hnU.symm
        obtain ⟨bT, oT, rfl, i0⟩ := iT.at (i := 0) (x := a0) rfl
        obtain ⟨_, _, hbo, i1⟩ := iT.at (i := 1) (x := a1) rfl
        cases hbo
        obtain ⟨_, _, hbo, i2⟩ := iT.at (i := 2) (x := a2) rfl
        cases hbo
        obtain ⟨bU, oU, rfl, j0⟩ := iU.at (i := 0) (x := a0) rfl
        obtain ⟨_, _, hbo, j1⟩ := iU.at (i := 1) (x := a1) rfl
        cases hbo
        obtain ⟨_, _, hbo, j2⟩ := iU.at (i := 2) (x := a2) rfl
        cases hbo
        rw [Nat.add_zero] at i0 j0
        clear hnT hnU iT iU hj1 hj2 hjn ty' et' hl3 hl4
        go_wp2_with ((with_reducible refine ldg ?_ ?_ N8.x N8.v.len ?_); (focus rfl); (focus rfl))
        refine (type_24 _ rq rf _ N8.rpv).mono ?_
        rw [HTY.out]
        rintro e w9 ⟨rfl, b9⟩
        have hT9 := cell_later b9 hT; have hU9 := cell_later b9 hU
        have i09 := cell_later b9 i0; have i19 := cell_later b9 i1; have i29 := cell_later b9 i2
        have j09 := cell_later b9 j0; have j19 := cell_later b9 j1; have j29 := cell_later b9 j2
        have V9 := V8.below b9
        clear hT hU i0 i1 i2 j0 j1 j2 b9 V8 N8
        go_wp2_with fail
        refine wp_region_over (by kernel_rfl) (by kernel_rfl) ?_
        have z0 := fun u => over_cell hT9 u
        have z1 := fun u => over_cell hU9 u
        have z2 := fun u => over_cell i09 u
        have z3 := fun u => over_cell i19 u
        have z4 := fun u => over_cell i29 u
        have z5 := fun u => over_cell j09 u
        have z6 := fun u => over_cell j19 u
        have z7 := fun u => over_cell j29 u
        have t00 : (a0 == a0) = true := by simp
        have t11 : (a1 == a1) = true := by simp
        have t22 : (a2 == a2) = true := by simp
        repeat (go_big_quiet_step (fail))
        refine wpQuiet_nil ?_
        rintro _ ⟨u, rfl⟩
        have hfin := below_then V9.b (below_over w9 u)
        go_wp2
        go_ret
        exact ⟨rfl, hfin⟩
    | succ gg =>
      have hj4 : k + j < 5 := by omega
      have tj : decide (((k + j : Nat) : Int) ≤ 4) = true := by simp; omega
      have HG := Lib.hid hg
      clear hg
      obtain ⟨aL, nL, cL, hL, hnL, _, _, _, _⟩ := V4.v.list V4.x ht3 hj4
      obtain ⟨kj, hkj⟩ : ∃ i, k + j = i := ⟨_, rfl⟩
      have hsn : hasB s.1.fr (5 * t) k (j + 1) = (hasB s.1.fr (5 * t) k j || decide (0 < nL)) := by rw [hasB_succ, hnL]
      rw [hkj] at hL hj4 tj ⊢
      have HSN := Lib.hid hsn; have HKJ := Lib.hid hkj
      obtain ⟨B, hB⟩ : ∃ b, hasB s.1.fr (5 * t) k j = b := ⟨_, rfl⟩
      rw [hB]
      have HB := Lib.hid hB
      clear hsn hkj hB hnL
      cases B with
      | true =>
        go_wp2
        go_roundg gg
        case rel => exact ⟨j + 1, by have := HG.out; omega, by have := HKJ.out; rw [show k + (j + 1) = kj + 1 by omega]; go_num, by rw [HSN.out, HB.out]; rfl, rfl⟩
        case measure => omega
      | false =>
        by_cases h0 : nL = 0
        · subst h0
          go_wp2
          go_roundg gg
          case rel => exact ⟨j + 1, by have := HG.out; omega, by have := HKJ.out; rw [show k + (j + 1) = kj + 1 by omega]; go_num, by rw [HSN.out, HB.out]; rfl, rfl⟩
          case measure => omega
        · have tn : decide ((0 : Int) < (nL : Int)) = true := by simp; omega
          have tn' : decide (0 < nL) = true := by simp; omega
          go_wp2
          go_roundg gg
          case rel => exact ⟨j + 1, by have := HG.out; omega, by have := HKJ.out; rw [show k + (j + 1) = kj + 1 by omega]; go_num, by rw [HSN.out, HB.out, tn']; rfl, rfl⟩
          case measure => omega
end Go.Proofs.YtkiiifmofmbniaaDoor
