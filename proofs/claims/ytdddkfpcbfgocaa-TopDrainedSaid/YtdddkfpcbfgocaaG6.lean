/- Walks: a new allocator. Walks: the allocator of a machine. Memory and plain parts of a script of frames. -/
import Derived.Test.YtdddkfpcbfgocaaG5
import Derived.Test.YtdddkfpcbfgocaaG1
namespace Go.Proofs.Ytdddkfpcbfgocaa
open Go.RowKit Go.Over Go.Zn Go.Can Go.Seg Go.Grow
set_option maxRecDepth 100000 in set_option maxHeartbeats 3200000 in
theorem newA (vn : Value) (nodes : List Int) (bt hi b n c : Nat) (pc : List Value) (ps : List Z) (w : World) (hN : Sl w vn nodes) (n0 : 1 ≤ nodes.length) (n4 : nodes.length ≤ 4) (nr : ∀ x ∈ nodes, 0 ≤ x ∧ x < 4) (b1 : 1 ≤ bt) (bh : bt ≤ hi) (h64 : hi ≤ 64) (hS : SV w b pc ps) (hn : ps.length = n) (hP : PS ps) :
    Calls Try.prog 11 #[vn, .int .i64 bt, .int .i64 hi, .slice (some ⟨b, 0, none⟩) n c] w (NewQ w nodes bt hi ps) := by
  have h6 : n ≤ 6 := by rw [← hn]; exact hP.l6
  have b0 := below_box w (.cells #[.slice none 0 0, .int .i64 0, .int .i64 0, .slice none 0 0, .slice none 0 0] 32)
  have Z0 := Blk.new w 32 #[.slice none 0 0, .int .i64 0, .int .i64 0, .slice none 0 0, .slice none 0 0] nilA rfl
  have N0 := hN.below b0
  have S0 := hS.below b0
  have HP := Lib.hid hP; have HN := Lib.hid hn
  clear hN hS hP hn
  go_enter Try.func11, Try.ntmps11
  go_upto_region 1 with fail
  obtain ⟨w1, hw1⟩ : ∃ W, W = w.alloc (.cells #[.slice none 0 0, .int .i64 0, .int .i64 0, .slice none 0 0, .slice none 0 0] 32) := ⟨_, rfl⟩
  rw [← hw1] at b0 Z0 N0 S0 ⊢
  obtain ⟨gr, hgr⟩ : ∃ g, w.heap.size = g := ⟨_, rfl⟩
  rw [hgr] at Z0 ⊢
  obtain ⟨av, cv, rfl, _⟩ := id N0
  have X0 : NX w gr (.slice av nodes.length cv) nodes b pc ps w1 := ⟨b0, Z0, N0, S0⟩
  have hlr : w.heap.size ≤ gr := by omega
  obtain ⟨nn, hnn⟩ : ∃ n, nodes.length = n := ⟨_, rfl⟩
  rw [hnn] at X0 n0 n4 ⊢
  have HNN := Lib.hid hnn
  clear b0 Z0 N0 S0 hnn hw1 hgr
  go_cut [10] from 18 (fun v10 wr => ∃ (gp bz c1 : Nat) (a1 : Option Addr) (zc : List Value), v10 = .pointer (some ⟨gp, 0, none⟩) ∧ NG w gp gr bz (.slice a1 nn c1) (.slice none 0 0) bt hi n zc (.slice av nn cv) nodes b pc ps wr)
  case first =>
    refine wp_region_plan3 (fun _ => True) (.quiet [0, 2, 3, 4, 5] (.fork3 1 (.fork 6 (.quiet [7] (.only 8 (.only 9 .done))) 8 (.only 6 (.quiet [7] (.only 9 .done)))) 6 (.fork 1 (.quiet [7] (.only 8 (.only 9 .done))) 8 (.only 1 (.quiet [7] (.only 9 .done)))) 8 (.fork 1 (.only 6 (.quiet [7] (.only 9 .done))) 6 (.only 1 (.quiet [7] (.only 9 .done)))))) 99 (by kernel_rfl) (by kernel_rfl) trivial ?_
    intro W1 _ hWe
    have bW : Below w1.heap.size w1 W1 := by rw [hWe]; exact (Below.refl _ _).drew
    clear hWe
    have X1 := X0.below bW
    clear X0 bW
    simp only [wpPlanT, inOrder, List.filterMap_cons, List.filterMap_nil, List.getElem?_cons_zero, List.getElem?_cons_succ]
    show wpQuiet _ _ _ _ (_ :: _ :: _ :: _ :: [_]) _
    repeat (go_big_quiet_step (fail))
    refine wpQuiet_nil ?_
    refine ⟨?_, ?_, ?_⟩
    · skip
      show wpList _ _ _ [_] _ _
      go_wp2_with fail
      refine (clone (.slice av nn cv) nodes W1 X1.n (by rw [HNN.out]; omega)).mono ?_
      rintro e W2 ⟨v1, rfl, O1, bC⟩
      obtain ⟨a1, c1, hv1, _⟩ := own_form O1
      rw [HNN.out] at hv1
      subst hv1
      have X2 := X1.below bC
      go_wp2
      refine ⟨hold_of (S0 := fun _ => True) trivial, ?_⟩
      refine ⟨?_, ?_⟩
      · skip
        show wpList _ _ _ [_] _ _
        go_wp2_with ((with_reducible refine wpList_mkZ ?_ h6 ?_); (focus rfl); intro W3 zc hzc M1 bM)
        obtain ⟨bz, hbz⟩ : ∃ g, W2.heap.size = g := ⟨_, rfl⟩
        rw [hbz] at M1 ⊢
        have hlz : w.heap.size ≤ bz := by rw [← hbz]; exact X2.bl.size
        clear hbz
        have X3 := X2.below bM
        refine ⟨hold_of (S0 := fun _ => True) trivial, ?_⟩
        simp only [Act.put, List.setIfInBounds_toArray, List.set_cons_succ, List.set_cons_zero]
        have O1 := O1.later bM
        show wpQuiet _ _ _ _ [_] _
        repeat (go_big_quiet_step (fail))
        refine wpQuiet_nil ?_
        show wpList _ _ _ [_] _ _
        have A1 := Blk.new W3 32 #[.slice none 0 0, .int .i64 0, .int .i64 0, .slice none 0 0, .slice none 0 0] nilA rfl
        have bA := below_box W3 (.cells #[.slice none 0 0, .int .i64 0, .int .i64 0, .slice none 0 0, .slice none 0 0] 32)
        have X4 := X3.below bA
        go_wp2
        refine ⟨hold_of (S0 := fun _ => True) trivial, ?_⟩
        obtain ⟨W4, hwA⟩ : ∃ U, U = W3.alloc (.cells #[.slice none 0 0, .int .i64 0, .int .i64 0, .slice none 0 0, .slice none 0 0] 32) := ⟨_, rfl⟩
        obtain ⟨gp, hgp⟩ : ∃ g, W3.heap.size = g := ⟨_, rfl⟩
        rw [← hwA] at A1 bA X4 ⊢
        rw [hgp] at A1 ⊢
        have hlp : w.heap.size ≤ gp := by rw [← hgp]; exact X3.bl.size
        have hpr : gr ≠ gp := by have := X3.z.lt; omega
        clear hwA hgp
        have O1 := O1.later bA
        have M1 := M1.later bA
        have NS := O1.sl
        have hC1 : ∀ u ∈ nC (.slice a1 nn c1) bt hi bz n (.slice none 0 0), u.oneCell' = true := by
          intro u hu; simp [nC] at hu; rcases hu with rfl | rfl | rfl | rfl | rfl <;> rfl
        have hCl : (nC (.slice a1 nn c1) bt hi bz n (.slice none 0 0)).length = 5 := rfl
        clear O1
        show wpList _ _ _ [_] _ _
        go_wp2_with ((with_reducible refine stG (cs := nC (.slice a1 nn c1) bt hi bz n (.slice none 0 0)) ?_ ?_ A1 rfl hCl hC1 ?_); (focus rfl); (focus rfl); intro w5 hB5 hg5)
        have X5 := X4.grown A1 hg5 hpr hlp
        have M5 := M1.grown hg5 (by simpa using A1.ne_type M1 (by decide))
        have N5 := NS.grown A1 (by decide) hg5
        clear X4 A1 M1 NS hg5
        refine ⟨hold_of (S0 := fun _ => True) trivial, NoPanic.normal ?_⟩
        go_wp2
        go_meet
        case rel => exact ⟨gp, bz, c1, a1, zc, rfl, hlp, hlz, hpr, hlr, X5, hB5, M5, hzc, by rw [← HNN.out] at N5 ⊢; exact N5⟩
      · skip
        show wpList _ _ _ [_] _ _
        have A1 := Blk.new W2 32 #[.slice none 0 0, .int .i64 0, .int .i64 0, .slice none 0 0, .slice none 0 0] nilA rfl
        have bA := below_box W2 (.cells #[.slice none 0 0, .int .i64 0, .int .i64 0, .slice none 0 0, .slice none 0 0] 32)
        have X3 := X2.below bA
        go_wp2
        refine ⟨hold_of (S0 := fun _ => True) trivial, ?_⟩
        obtain ⟨W3, hwA⟩ : ∃ U, U = W2.alloc (.cells #[.slice none 0 0, .int .i64 0, .int .i64 0, .slice none 0 0, .slice none 0 0] 32) := ⟨_, rfl⟩
        obtain ⟨gp, hgp⟩ : ∃ g, W2.heap.size = g := ⟨_, rfl⟩
        rw [← hwA] at A1 bA X3 ⊢
        rw [hgp] at A1 ⊢
        have hlp : w.heap.size ≤ gp := by rw [← hgp]; exact X2.bl.size
        have hpr : gr ≠ gp := by have := X2.z.lt; omega
        clear hwA hgp
        have O1 := O1.later bA
        show wpList _ _ _ [_] _ _
        go_wp2_with ((with_reducible refine wpList_mkZ ?_ h6 ?_); (focus rfl); intro W4 zc hzc M1 bM)
        obtain ⟨bz, hbz⟩ : ∃ g, W3.heap.size = g := ⟨_, rfl⟩
        rw [hbz] at M1 ⊢
        have hlz : w.heap.size ≤ bz := by rw [← hbz]; exact X3.bl.size
        clear hbz
        have X4 := X3.below bM
        refine ⟨hold_of (S0 := fun _ => True) trivial, ?_⟩
        simp only [Act.put, List.setIfInBounds_toArray, List.set_cons_succ, List.set_cons_zero]
        have O1 := O1.later bM
        have A1 := A1.later bM
        show wpQuiet _ _ _ _ [_] _
        repeat (go_big_quiet_step (fail))
        refine wpQuiet_nil ?_
        have NS := O1.sl
        have hC1 : ∀ u ∈ nC (.slice a1 nn c1) bt hi bz n (.slice none 0 0), u.oneCell' = true := by
          intro u hu; simp [nC] at hu; rcases hu with rfl | rfl | rfl | rfl | rfl <;> rfl
        have hCl : (nC (.slice a1 nn c1) bt hi bz n (.slice none 0 0)).length = 5 := rfl
        clear O1
        show wpList _ _ _ [_] _ _
        go_wp2_with ((with_reducible refine stG (cs := nC (.slice a1 nn c1) bt hi bz n (.slice none 0 0)) ?_ ?_ A1 rfl hCl hC1 ?_); (focus rfl); (focus rfl); intro w5 hB5 hg5)
        have X5 := X4.grown A1 hg5 hpr hlp
        have M5 := M1.grown hg5 (by simpa using A1.ne_type M1 (by decide))
        have N5 := NS.grown A1 (by decide) hg5
        clear X4 A1 M1 NS hg5
        refine ⟨hold_of (S0 := fun _ => True) trivial, NoPanic.normal ?_⟩
        go_wp2
        go_meet
        case rel => exact ⟨gp, bz, c1, a1, zc, rfl, hlp, hlz, hpr, hlr, X5, hB5, M5, hzc, by rw [← HNN.out] at N5 ⊢; exact N5⟩
    · skip
      show wpList _ _ _ [_] _ _
      go_wp2_with ((with_reducible refine wpList_mkZ ?_ h6 ?_); (focus rfl); intro W2 zc hzc M1 bM)
      obtain ⟨bz, hbz⟩ : ∃ g, W1.heap.size = g := ⟨_, rfl⟩
      rw [hbz] at M1 ⊢
      have hlz : w.heap.size ≤ bz := by rw [← hbz]; exact X1.bl.size
      clear hbz
      have X2 := X1.below bM
      refine ⟨hold_of (S0 := fun _ => True) trivial, ?_⟩
      simp only [Act.put, List.setIfInBounds_toArray, List.set_cons_succ, List.set_cons_zero]
      refine ⟨?_, ?_⟩
      · skip
        show wpList _ _ _ [_] _ _
        go_wp2_with fail
        refine (clone (.slice av nn cv) nodes W2 X2.n (by rw [HNN.out]; omega)).mono ?_
        rintro e W3 ⟨v1, rfl, O1, bC⟩
        obtain ⟨a1, c1, hv1, _⟩ := own_form O1
        rw [HNN.out] at hv1
        subst hv1
        have X3 := X2.below bC
        go_wp2
        refine ⟨hold_of (S0 := fun _ => True) trivial, ?_⟩
        have M1 := M1.later bC
        show wpQuiet _ _ _ _ [_] _
        repeat (go_big_quiet_step (fail))
        refine wpQuiet_nil ?_
        show wpList _ _ _ [_] _ _
        have A1 := Blk.new W3 32 #[.slice none 0 0, .int .i64 0, .int .i64 0, .slice none 0 0, .slice none 0 0] nilA rfl
        have bA := below_box W3 (.cells #[.slice none 0 0, .int .i64 0, .int .i64 0, .slice none 0 0, .slice none 0 0] 32)
        have X4 := X3.below bA
        go_wp2
        refine ⟨hold_of (S0 := fun _ => True) trivial, ?_⟩
        obtain ⟨W4, hwA⟩ : ∃ U, U = W3.alloc (.cells #[.slice none 0 0, .int .i64 0, .int .i64 0, .slice none 0 0, .slice none 0 0] 32) := ⟨_, rfl⟩
        obtain ⟨gp, hgp⟩ : ∃ g, W3.heap.size = g := ⟨_, rfl⟩
        rw [← hwA] at A1 bA X4 ⊢
        rw [hgp] at A1 ⊢
        have hlp : w.heap.size ≤ gp := by rw [← hgp]; exact X3.bl.size
        have hpr : gr ≠ gp := by have := X3.z.lt; omega
        clear hwA hgp
        have M1 := M1.later bA
        have O1 := O1.later bA
        have NS := O1.sl
        have hC1 : ∀ u ∈ nC (.slice a1 nn c1) bt hi bz n (.slice none 0 0), u.oneCell' = true := by
          intro u hu; simp [nC] at hu; rcases hu with rfl | rfl | rfl | rfl | rfl <;> rfl
        have hCl : (nC (.slice a1 nn c1) bt hi bz n (.slice none 0 0)).length = 5 := rfl
        clear O1
        show wpList _ _ _ [_] _ _
        go_wp2_with ((with_reducible refine stG (cs := nC (.slice a1 nn c1) bt hi bz n (.slice none 0 0)) ?_ ?_ A1 rfl hCl hC1 ?_); (focus rfl); (focus rfl); intro w5 hB5 hg5)
        have X5 := X4.grown A1 hg5 hpr hlp
        have M5 := M1.grown hg5 (by simpa using A1.ne_type M1 (by decide))
        have N5 := NS.grown A1 (by decide) hg5
        clear X4 A1 M1 NS hg5
        refine ⟨hold_of (S0 := fun _ => True) trivial, NoPanic.normal ?_⟩
        go_wp2
        go_meet
        case rel => exact ⟨gp, bz, c1, a1, zc, rfl, hlp, hlz, hpr, hlr, X5, hB5, M5, hzc, by rw [← HNN.out] at N5 ⊢; exact N5⟩
      · skip
        show wpList _ _ _ [_] _ _
        have A1 := Blk.new W2 32 #[.slice none 0 0, .int .i64 0, .int .i64 0, .slice none 0 0, .slice none 0 0] nilA rfl
        have bA := below_box W2 (.cells #[.slice none 0 0, .int .i64 0, .int .i64 0, .slice none 0 0, .slice none 0 0] 32)
        have X3 := X2.below bA
        go_wp2
        refine ⟨hold_of (S0 := fun _ => True) trivial, ?_⟩
        obtain ⟨W3, hwA⟩ : ∃ U, U = W2.alloc (.cells #[.slice none 0 0, .int .i64 0, .int .i64 0, .slice none 0 0, .slice none 0 0] 32) := ⟨_, rfl⟩
        obtain ⟨gp, hgp⟩ : ∃ g, W2.heap.size = g := ⟨_, rfl⟩
        rw [← hwA] at A1 bA X3 ⊢
        rw [hgp] at A1 ⊢
        have hlp : w.heap.size ≤ gp := by rw [← hgp]; exact X2.bl.size
        have hpr : gr ≠ gp := by have := X2.z.lt; omega
        clear hwA hgp
        have M1 := M1.later bA
        show wpList _ _ _ [_] _ _
        go_wp2_with fail
        refine (clone (.slice av nn cv) nodes W3 X3.n (by rw [HNN.out]; omega)).mono ?_
        rintro e W4 ⟨v1, rfl, O1, bC⟩
        obtain ⟨a1, c1, hv1, _⟩ := own_form O1
        rw [HNN.out] at hv1
        subst hv1
        have X4 := X3.below bC
        go_wp2
        refine ⟨hold_of (S0 := fun _ => True) trivial, ?_⟩
        have M1 := M1.later bC
        have A1 := A1.later bC
        show wpQuiet _ _ _ _ [_] _
        repeat (go_big_quiet_step (fail))
        refine wpQuiet_nil ?_
        have NS := O1.sl
        have hC1 : ∀ u ∈ nC (.slice a1 nn c1) bt hi bz n (.slice none 0 0), u.oneCell' = true := by
          intro u hu; simp [nC] at hu; rcases hu with rfl | rfl | rfl | rfl | rfl <;> rfl
        have hCl : (nC (.slice a1 nn c1) bt hi bz n (.slice none 0 0)).length = 5 := rfl
        clear O1
        show wpList _ _ _ [_] _ _
        go_wp2_with ((with_reducible refine stG (cs := nC (.slice a1 nn c1) bt hi bz n (.slice none 0 0)) ?_ ?_ A1 rfl hCl hC1 ?_); (focus rfl); (focus rfl); intro w5 hB5 hg5)
        have X5 := X4.grown A1 hg5 hpr hlp
        have M5 := M1.grown hg5 (by simpa using A1.ne_type M1 (by decide))
        have N5 := NS.grown A1 (by decide) hg5
        clear X4 A1 M1 NS hg5
        refine ⟨hold_of (S0 := fun _ => True) trivial, NoPanic.normal ?_⟩
        go_wp2
        go_meet
        case rel => exact ⟨gp, bz, c1, a1, zc, rfl, hlp, hlz, hpr, hlr, X5, hB5, M5, hzc, by rw [← HNN.out] at N5 ⊢; exact N5⟩
    · skip
      show wpList _ _ _ [_] _ _
      have A1 := Blk.new W1 32 #[.slice none 0 0, .int .i64 0, .int .i64 0, .slice none 0 0, .slice none 0 0] nilA rfl
      have bA := below_box W1 (.cells #[.slice none 0 0, .int .i64 0, .int .i64 0, .slice none 0 0, .slice none 0 0] 32)
      have X2 := X1.below bA
      go_wp2
      refine ⟨hold_of (S0 := fun _ => True) trivial, ?_⟩
      obtain ⟨W2, hwA⟩ : ∃ U, U = W1.alloc (.cells #[.slice none 0 0, .int .i64 0, .int .i64 0, .slice none 0 0, .slice none 0 0] 32) := ⟨_, rfl⟩
      obtain ⟨gp, hgp⟩ : ∃ g, W1.heap.size = g := ⟨_, rfl⟩
      rw [← hwA] at A1 bA X2 ⊢
      rw [hgp] at A1 ⊢
      have hlp : w.heap.size ≤ gp := by rw [← hgp]; exact X1.bl.size
      have hpr : gr ≠ gp := by have := X1.z.lt; omega
      clear hwA hgp
      refine ⟨?_, ?_⟩
      · skip
        show wpList _ _ _ [_] _ _
        go_wp2_with fail
        refine (clone (.slice av nn cv) nodes W2 X2.n (by rw [HNN.out]; omega)).mono ?_
        rintro e W3 ⟨v1, rfl, O1, bC⟩
        obtain ⟨a1, c1, hv1, _⟩ := own_form O1
        rw [HNN.out] at hv1
        subst hv1
        have X3 := X2.below bC
        go_wp2
        refine ⟨hold_of (S0 := fun _ => True) trivial, ?_⟩
        have A1 := A1.later bC
        show wpList _ _ _ [_] _ _
        go_wp2_with ((with_reducible refine wpList_mkZ ?_ h6 ?_); (focus rfl); intro W4 zc hzc M1 bM)
        obtain ⟨bz, hbz⟩ : ∃ g, W3.heap.size = g := ⟨_, rfl⟩
        rw [hbz] at M1 ⊢
        have hlz : w.heap.size ≤ bz := by rw [← hbz]; exact X3.bl.size
        clear hbz
        have X4 := X3.below bM
        refine ⟨hold_of (S0 := fun _ => True) trivial, ?_⟩
        simp only [Act.put, List.setIfInBounds_toArray, List.set_cons_succ, List.set_cons_zero]
        have A1 := A1.later bM
        have O1 := O1.later bM
        show wpQuiet _ _ _ _ [_] _
        repeat (go_big_quiet_step (fail))
        refine wpQuiet_nil ?_
        have NS := O1.sl
        have hC1 : ∀ u ∈ nC (.slice a1 nn c1) bt hi bz n (.slice none 0 0), u.oneCell' = true := by
          intro u hu; simp [nC] at hu; rcases hu with rfl | rfl | rfl | rfl | rfl <;> rfl
        have hCl : (nC (.slice a1 nn c1) bt hi bz n (.slice none 0 0)).length = 5 := rfl
        clear O1
        show wpList _ _ _ [_] _ _
        go_wp2_with ((with_reducible refine stG (cs := nC (.slice a1 nn c1) bt hi bz n (.slice none 0 0)) ?_ ?_ A1 rfl hCl hC1 ?_); (focus rfl); (focus rfl); intro w5 hB5 hg5)
        have X5 := X4.grown A1 hg5 hpr hlp
        have M5 := M1.grown hg5 (by simpa using A1.ne_type M1 (by decide))
        have N5 := NS.grown A1 (by decide) hg5
        clear X4 A1 M1 NS hg5
        refine ⟨hold_of (S0 := fun _ => True) trivial, NoPanic.normal ?_⟩
        go_wp2
        go_meet
        case rel => exact ⟨gp, bz, c1, a1, zc, rfl, hlp, hlz, hpr, hlr, X5, hB5, M5, hzc, by rw [← HNN.out] at N5 ⊢; exact N5⟩
      · skip
        show wpList _ _ _ [_] _ _
        go_wp2_with ((with_reducible refine wpList_mkZ ?_ h6 ?_); (focus rfl); intro W3 zc hzc M1 bM)
        obtain ⟨bz, hbz⟩ : ∃ g, W2.heap.size = g := ⟨_, rfl⟩
        rw [hbz] at M1 ⊢
        have hlz : w.heap.size ≤ bz := by rw [← hbz]; exact X2.bl.size
        clear hbz
        have X3 := X2.below bM
        refine ⟨hold_of (S0 := fun _ => True) trivial, ?_⟩
        simp only [Act.put, List.setIfInBounds_toArray, List.set_cons_succ, List.set_cons_zero]
        have A1 := A1.later bM
        show wpList _ _ _ [_] _ _
        go_wp2_with fail
        refine (clone (.slice av nn cv) nodes W3 X3.n (by rw [HNN.out]; omega)).mono ?_
        rintro e W4 ⟨v1, rfl, O1, bC⟩
        obtain ⟨a1, c1, hv1, _⟩ := own_form O1
        rw [HNN.out] at hv1
        subst hv1
        have X4 := X3.below bC
        go_wp2
        refine ⟨hold_of (S0 := fun _ => True) trivial, ?_⟩
        have A1 := A1.later bC
        have M1 := M1.later bC
        show wpQuiet _ _ _ _ [_] _
        repeat (go_big_quiet_step (fail))
        refine wpQuiet_nil ?_
        have NS := O1.sl
        have hC1 : ∀ u ∈ nC (.slice a1 nn c1) bt hi bz n (.slice none 0 0), u.oneCell' = true := by
          intro u hu; simp [nC] at hu; rcases hu with rfl | rfl | rfl | rfl | rfl <;> rfl
        have hCl : (nC (.slice a1 nn c1) bt hi bz n (.slice none 0 0)).length = 5 := rfl
        clear O1
        show wpList _ _ _ [_] _ _
        go_wp2_with ((with_reducible refine stG (cs := nC (.slice a1 nn c1) bt hi bz n (.slice none 0 0)) ?_ ?_ A1 rfl hCl hC1 ?_); (focus rfl); (focus rfl); intro w5 hB5 hg5)
        have X5 := X4.grown A1 hg5 hpr hlp
        have M5 := M1.grown hg5 (by simpa using A1.ne_type M1 (by decide))
        have N5 := NS.grown A1 (by decide) hg5
        clear X4 A1 M1 NS hg5
        refine ⟨hold_of (S0 := fun _ => True) trivial, NoPanic.normal ?_⟩
        go_wp2
        go_meet
        case rel => exact ⟨gp, bz, c1, a1, zc, rfl, hlp, hlz, hpr, hlr, X5, hB5, M5, hzc, by rw [← HNN.out] at N5 ⊢; exact N5⟩
  case rest =>
    clear X0
    obtain ⟨gp, bz, c1, a1, zc, rfl, G⟩ := hcut
    go_wp2_with ((with_reducible refine ldG ?_ G.B rfl ?_); (focus rfl))
    refine (machineOk (.slice a1 nn c1) nodes bt hi bz n n (.slice none 0 0) wc G.N (by rw [HNN.out]; exact n0) (by rw [HNN.out]; exact n4) nr b1 bh h64 (by rw [← HN.out]; exact HP.out.l1) h6).mono ?_
    rintro e w6 ⟨rfl, b6⟩
    have G6 := G.below b6
    clear G b6
    have hzc0 := G6.L
    go_wp2
    go_loopg [11, 32] n (fun gg v11 v32 wr => ∃ (i : Nat) (zc : List Value) (zs : List Z), i + gg = n ∧ v32 = .int .i64 i ∧ v11 = .int .i64 (stS ps i) ∧ zs.length = i ∧ NG w gp gr bz (.slice a1 nn c1) (.slice none 0 0) bt hi n zc (.slice av nn cv) nodes b pc ps wr ∧ QV wr bz zc zs ∧ ∀ j y, zs[j]? = some y → Gd ps j y)
    case atStart => exact ⟨0, zc, [], by omega, rfl, rfl, rfl, G6, ⟨G6.M, by simp, fun j y h => by simp at h⟩, fun j y h => by simp at h⟩
    case round =>
      clear G6 hzc0
      obtain ⟨i, zc7, zs, hi7, rfl, rfl, hzl, G7, Q7, hgd⟩ := hrel
      have HZL := Lib.hid hzl; have HGD := Lib.hid hgd
      clear hzl hgd
      cases gk with
      | zero =>
        have hin : ¬ i < n := by omega
        obtain rfl : i = n := by omega
        have hn1 : 1 ≤ i := by rw [← HN.out]; exact HP.out.l1
        have c4 := G7.c4
        clear hi7
        go_wp2
        go_loopg [66] nn (fun g2 v66 wj => ∃ (c : Nat) (u : Value) (us : List Value), c + g2 = nn ∧ v66 = .int .i64 c ∧ NG w gp gr bz (.slice a1 nn c1) u bt hi i zc7 (.slice av nn cv) nodes b pc ps wj ∧ QV wj bz zc7 zs ∧ wj.ownsRow w.heap.size 77 1 u c us ∧ ∀ k, k < c → ∃ x, us[k]? = some x ∧ Lc wj x (List.replicate i []))
        case atStart => exact ⟨0, _, [], by omega, rfl, G7, Q7, World.ownsRow_nil _ _ _ _, fun k hk => by omega⟩
        case round =>
          clear G7 Q7 c4
          obtain ⟨c, u, us, hc, rfl, G8, Q8, O8, hus⟩ := hrel
          have HUS := Lib.hid hus
          clear hus
          cases gk with
          | zero =>
            have hcn : ¬ c < nn := by omega
            obtain rfl : c = nn := by omega
            have HR := Lib.hid (show ∃ (bc cap : Nat) (cur : List Value), u = .slice (some ⟨bc, 0, none⟩) c cap ∧ Blk wr bc 77 cur ∧ c ≤ cap ∧ cap ≤ maxLen ∧ cur.length = cap ∧ cur.take c = us from by
              obtain ⟨bc, cap, cur, h1, h2, h3, h4, h5, h6, h7⟩ := own_open O8 n0
              exact ⟨bc, cap, cur, h1, h3, h4, h5, by rw [h6, Nat.mul_one], by rw [Nat.mul_one] at h7; exact h7⟩)
            have hC1 : ∀ y ∈ nC (.slice a1 c c1) bt hi bz i u, y.oneCell' = true := by
              obtain ⟨bc, cap, cur, h1, _⟩ := HR.out
              subst h1
              intro y hy; simp [nC] at hy; rcases hy with rfl | rfl | rfl | rfl | rfl <;> rfl
            have hCl : (nC (.slice a1 c c1) bt hi bz i u).length = 5 := rfl
            clear hc O8
            go_wp2_with first | ((with_reducible refine ldG ?_ G8.B hCl ?_); (focus rfl)) | ((with_reducible refine stG (cs := nC (.slice a1 c c1) bt hi bz i u) ?_ ?_ G8.X.z rfl hCl hC1 ?_); (focus rfl); (focus rfl); intro w9 hB9 hg9)
            refine bodyPost_ret (resA1 rfl _ _ gr _ _ rfl hB9 rfl rfl) rfl ?_
            obtain ⟨bc, cap, cur, rfl, hbc, hcap, hcm, hcl, hct⟩ := HR.out
            have kp : ∀ {q t : Nat} {bs : List Value}, t ≠ 32 → Blk wr q t bs → Blk w9 q t bs := fun ht hq => hq.grown hg9 (by simpa using G8.X.z.ne_type hq (Ne.symm ht))
            have hzz : zs.length = ps.length := by rw [HZL.out, HN.out]
            refine ⟨_, nA nodes bt hi zs, rfl, ⟨⟨a1, c, c1, bz, i, i, bc, c, cap⟩, zc7, cur, rfl, ⟨HNN.out, HZL.out, by simp [nA, HNN.out], G8.N.past fun _ _ => kp (by decide), Q8.past (kp (by decide) Q8.x) (fun _ _ => kp (by decide)), Nat.le_refl _, by show i ≤ maxLen; unfold maxLen; omega, ⟨kp (by decide) hbc, by simp [nA, HNN.out]; omega, fun d L hL => ?_⟩, hcap, hcm⟩⟩, VA.fresh HP.out (by rw [HNN.out]; exact n0) (by rw [HNN.out]; exact n4) nr b1 bh h64 hzz HGD.out, G8.X.bl.grown hg9 G8.X.bl.size (fun q hq => by cases hq; exact hlr), rfl, rfl, rfl, hzz, fun j p hp => ?_, fun j x hj hx => ?_, fun c z => nA_lst c z⟩
            · have hd : d < c := by
                have := lt_of hL
                simpa [nA, HNN.out] using this
              have hLe : L = List.replicate i [] := by
                have : (List.replicate nodes.length (List.replicate zs.length ([] : List Int)))[d]? = some L := hL
                rw [rep_get (by rw [HNN.out]; exact hd), HZL.out] at this
                exact (Option.some.inj this).symm
              subst hLe
              obtain ⟨x, hx, hLc⟩ := HUS.out d hd
              refine ⟨x, ?_, hLc.past (fun _ _ => kp (by decide)) (fun _ _ => kp (by decide))⟩
              rw [← hct, List.getElem?_take, if_pos hd] at hx
              exact hx
            · obtain ⟨y, hy⟩ := get_some hzz (lt_of hp)
              obtain ⟨p', hp', e1, e2, e3, e4, e5, _⟩ := HGD.out j y hy
              rw [hp] at hp'
              cases hp'
              have : zn (nA nodes bt hi zs) j = y := getD_of hy
              rw [this]
              exact ⟨e1, e2, e3, e4, e5⟩
            · obtain ⟨y, hy⟩ := get_some hzz hj
              obtain ⟨_, _, _, _, _, _, _, _, h8⟩ := HGD.out j y hy
              have : zn (nA nodes bt hi zs) j = y := getD_of hy
              rw [this] at hx ⊢
              exact (h8 x).2 hx
          | succ g2 =>
            have hcn : c < nn := by omega
            have HC := Lib.hid hc
            clear hc
            go_wp2_with fail
            refine (pcnew i wr hn1 h6).mono ?_
            rintro e w8 ⟨y, rfl, ⟨v0, rfl, hLc⟩, b8⟩
            have G9 := G8.below b8
            have Q9 := Q8.below b8
            have O9 := own_later O8 b8
            have HUS9 := Lib.hid (show ∀ k, k < c → ∃ x, us[k]? = some x ∧ Lc w8 x (List.replicate i []) from fun k hk => by
              obtain ⟨x, h1, h2⟩ := HUS.out k hk
              exact ⟨x, h1, h2.below b8⟩)
            have hz9 := Blk.new w8 77 #[.slice none 0 0] [.slice none 0 0] rfl
            have b0 := below_box w8 (.cells #[.slice none 0 0] 77)
            have hv1 : v0.oneCell' = true := by obtain ⟨_, _, h3, _⟩ := hLc.form; rw [h3]; rfl
            clear G8 Q8 O8 HUS b8
            go_upto_region 17 with ((with_reducible refine stC ?_ ?_ hz9 hv1 ?_); (focus rfl); (focus rfl); intro w9 hB9 hg9)
            have b9 : Below w8.heap.size w8 w9 := b0.grown hg9 b0.size (fun k hk => by cases hk; exact Nat.le_refl _)
            have G10 := G9.below b9
            have Q10 := Q9.below b9
            have O10 := own_later O9 b9
            have hLc10 := hLc.below b9
            obtain ⟨g9, hg9'⟩ : ∃ g, w8.heap.size = g := ⟨_, rfl⟩
            rw [hg9'] at hB9 ⊢
            have HUS10 := Lib.hid (show ∀ k, k < c → ∃ x, us[k]? = some x ∧ Lc w9 x (List.replicate i []) from fun k hk => by
              obtain ⟨x, h1, h2⟩ := HUS9.out k hk
              exact ⟨x, h1, h2.below b9⟩)
            clear G9 Q9 O9 HUS9 hz9 b0 hg9 hLc b9 hg9'
            have c4 := G10.c4
            have bN := below_box w9 (.cells #[v0] 77)
            have G11 := G10.below bN
            have hBN := Blk.new w9 77 #[v0] [v0] rfl
            have O11 := own_later O10 bN
            have hsz := G11.X.bl.size
            have hcc : c ≤ 900000 := by omega
            go_upto_region 18 with first | ((with_reducible refine ldC ?_ hB9 ?_); (focus rfl)) | ((with_reducible refine wpList_appC (base := w.heap.size) (b := w9.heap.size) (x := v0) ?_ ?_ O11 hBN hv1 hcc hsz ?_); (focus rfl); (focus rfl); intro u' w12 O12 hg12; have kq : ∀ {q t : Nat} {bs : List Value}, t ≠ 77 → Blk (w9.alloc (.cells #[v0] 77)) q t bs → Blk w12 q t bs := (fun ht hq => hq.grown hg12 (hq.not_own O11 (Ne.symm ht))); have G12 := G11.past (G11.X.bl.grown hg12 G11.X.bl.size (fun k hk => (World.ownsRow.lt O11 k hk).1)) kq; clear c4; have c4 := G12.c4; have f4 := G12.B.frozen 4; obtain ⟨bc', cap', cur', hu', _⟩ := own_open O12 (by omega); subst hu')
            have hg13 : w12.grownBy (w12.setCell ⟨gp, 4, none⟩ (.slice (some ⟨bc', 0, none⟩) (c + 1) cap')) (some gp) := set_grown
            have kr : ∀ {q t : Nat} {bs : List Value}, t ≠ 32 → Blk w12 q t bs → Blk (w12.setCell ⟨gp, 4, none⟩ (.slice (some ⟨bc', 0, none⟩) (c + 1) cap')) q t bs := fun ht hq => hq.grown hg13 (by simpa using G12.B.ne_type hq (Ne.symm ht))
            have G13 := G12.cset (u' := .slice (some ⟨bc', 0, none⟩) (c + 1) cap')
            have Q11 := Q10.below bN
            have Q12 := Q11.past (kq (by decide) Q11.x) (fun _ _ => kq (by decide))
            have Q13 := Q12.past (kr (by decide) Q12.x) (fun _ _ => kr (by decide))
            have O13 := own_far O12 G12.B (by decide) hg13
            have hul : us.length = c := by have := O11.1; omega
            have HUS13 := Lib.hid (show ∀ k, k < c + 1 → ∃ x, (us ++ [v0])[k]? = some x ∧ Lc (w12.setCell ⟨gp, 4, none⟩ (.slice (some ⟨bc', 0, none⟩) (c + 1) cap')) x (List.replicate i []) from fun k hk => by
              have key : ∀ {x : Value}, Lc w9 x (List.replicate i []) → Lc (w12.setCell ⟨gp, 4, none⟩ (.slice (some ⟨bc', 0, none⟩) (c + 1) cap')) x (List.replicate i []) := fun h => ((h.below bN).past (fun _ _ => kq (by decide)) (fun _ _ => kq (by decide))).past (fun _ _ => kr (by decide)) (fun _ _ => kr (by decide))
              rcases Nat.lt_or_ge k c with h | h
              · obtain ⟨x, h1, h2⟩ := HUS10.out k h
                exact ⟨x, by rw [List.getElem?_append_left (by omega)]; exact h1, key h2⟩
              · obtain rfl : k = c := by omega
                exact ⟨v0, by rw [List.getElem?_append_right (by omega), hul, Nat.sub_self]; rfl, key hLc10⟩)
            obtain ⟨w13, hw13⟩ : ∃ W, W = w12.setCell ⟨gp, 4, none⟩ (.slice (some ⟨bc', 0, none⟩) (c + 1) cap') := ⟨_, rfl⟩
            rw [← hw13] at G13 Q13 O13 HUS13 ⊢
            clear hw13 G10 Q10 O10 G11 Q11 O11 G12 Q12 O12 kq kr hg12 hg13 hB9 hBN bN hsz HUS10 hLc10 c4 f4 hul
            go_wp2
            go_roundg g2
            case rel => exact ⟨c + 1, _, _, by have := HC.out; omega, by go_num, G13, Q13, O13, HUS13.out⟩
            case measure => omega
      | succ gg =>
        have hin : i < n := by omega
        have HI := Lib.hid hi7
        obtain ⟨p, hp⟩ := get_some HN.out hin
        have hm := List.mem_of_getElem? hp
        have hst0 := stS_nn HP.out.ct i
        have hst1 := HP.out.end_le hp
        have hct := HP.out.ct p hm
        have hnd := HP.out.nd p hm
        have hmn := HP.out.mn p hm
        have hkd := HP.out.kd p hm
        have HSN := Lib.hid (stS_next hp)
        obtain ⟨S, hS⟩ : ∃ S, stS ps i = S := ⟨_, rfl⟩
        rw [hS] at hst0 hst1 HSN ⊢
        have HS := Lib.hid hS; have HPP := Lib.hid hp
        have HNW := Lib.hid (fun W => (show Calls Try.prog 28 #[.int .i64 p.nd, .int .i64 p.kd, .int .i64 S, .int .i64 p.ct, .int .i64 p.mn] W (AnsV W { p with st := S } (inZ { p with st := S })) from new { p with st := S } W ⟨hnd.1, hnd.2, hkd, hst0, hct, hst1, hmn.1, hmn.2⟩))
        have hz5 := Blk.new wr 51 #[.int .i64 0, .int .i64 0, .int .i64 0, .int .i64 0] sp0 rfl
        have b0 := below_box wr (.cells #[.int .i64 0, .int .i64 0, .int .i64 0, .int .i64 0] 51)
        clear hi7 hp hS hm hkd hnd hmn
        go_upto_region 8 with first | ((with_reducible refine ldSp ?_ G7.X.s HPP.out ?_); (focus rfl)) | ((with_reducible refine stSp (p := p) ?_ ?_ hz5 rfl ?_); (focus rfl); (focus rfl); intro w3 hB3 hg3)
        have b3 : Below wr.heap.size wr w3 := b0.grown hg3 b0.size (fun k hk => by cases hk; exact Nat.le_refl _)
        have G8 := G7.below b3
        have Q8 := Q7.below b3
        obtain ⟨g3, hg3'⟩ : ∃ g, wr.heap.size = g := ⟨_, rfl⟩
        rw [hg3'] at hB3 ⊢
        have d0 := hB3.cell 0
        have d1 := hB3.cell 1
        have d2 := hB3.cell 2
        have d3 := hB3.cell 3
        simp only [spC, List.getElem?_cons_zero, List.getElem?_cons_succ] at d0 d1 d2 d3
        clear G7 Q7 hz5 b0 hg3 b3 hg3'
        go_wp2_with fail
        refine (HNW.out w3).mono ?_
        rintro e w4 ⟨cs, fr, rfl, hO, hv, hcov, b4⟩
        have V4 := hO.zv
        have h1c := V4.one
        have hB4 := hB3.later b4
        have G9 := G8.below b4
        have Q9 := Q8.below b4
        have hz6 := Blk.new w4 39 #[.int .i64 0, .int .i64 0, .int .i64 0, .int .i64 0, .int .i64 0, .slice none 0 0, .slice none 0 0, .slice none 0 0, .slice none 0 0, .slice none 0 0] zP rfl
        have b6 := below_box w4 (.cells #[.int .i64 0, .int .i64 0, .int .i64 0, .int .i64 0, .int .i64 0, .slice none 0 0, .slice none 0 0, .slice none 0 0, .slice none 0 0, .slice none 0 0] 39)
        have HV := Lib.hid hv; have HCV := Lib.hid hcov
        clear G8 Q8 hB3 d0 d1 d2 d3 hO hv hcov HNW b4
        go_upto_region 9 with ((with_reducible refine stZ (cs := cs) ?_ ?_ hz6 zP_len V4.len h1c ?_); (focus rfl); (focus rfl); intro w5 hB5 hg5)
        have b5 : Below w4.heap.size w4 w5 := b6.grown hg5 b6.size (fun k hk => by cases hk; exact Nat.le_refl _)
        have G10 := G9.below b5
        have Q10 := Q9.below b5
        have V5 := V4.below b5
        have hB6 := hB4.later b5
        obtain ⟨g5, hg5'⟩ : ∃ g, w4.heap.size = g := ⟨_, rfl⟩
        rw [hg5'] at hB5 ⊢
        have c3 := G10.c3
        have hfit : i * 10 + 10 ≤ zc7.length := by rw [G10.L]; omega
        clear G9 Q9 V4 hz6 b6 hg5 b5 hg5' hB4
        go_upto_region 12 with first | ((with_reducible refine ld ?_ hB5 V5.len ?_); (focus rfl)) | ((with_reducible refine stQ ?_ ?_ G10.M V5.len hfit h1c ?_); (focus rfl); (focus rfl); intro w7 hB7 hg7)
        have hfl : i * 10 + cs.length ≤ zc7.length := by rw [V5.len]; exact hfit
        have Q11 := Q10.snoc HZL.out hfit V5 hB7 hg7
        have G11 := G10.zset hB7 hg7 (by rw [lay_len hfl]; exact G10.L)
        have hB8 := hB6.grown hg7 (by simpa using G10.M.ne_type hB6 (by decide))
        have d2 := hB8.cell 2
        simp only [spC, List.getElem?_cons_zero, List.getElem?_cons_succ] at d2
        have HG2 := Lib.hid (show ∀ j y, (zs ++ [{ p with st := S, fr := fr }])[j]? = some y → Gd ps j y from fun j y hy => by
          rcases Nat.lt_or_ge j i with hj | hj
          · rw [List.getElem?_append_left (by rw [HZL.out]; exact hj)] at hy
            exact HGD.out j y hy
          · rw [List.getElem?_append_right (by rw [HZL.out]; exact hj), HZL.out] at hy
            have hji : j = i := by
              have := lt_of hy
              simp at this
              omega
            subst hji
            rw [Nat.sub_self] at hy
            cases hy
            exact ⟨p, HPP.out, rfl, rfl, HS.out.symm, rfl, rfl, HV.out, HCV.out⟩)
        have HZL2 := Lib.hid (show (zs ++ [{ p with st := S, fr := fr }]).length = i + 1 by rw [List.length_append, HZL.out]; rfl)
        clear G10 Q10 hB5 hB6 hB7 hg7 c3 V5 hfit hfl h1c
        go_wp2
        go_roundg gg
        case rel => exact ⟨i + 1, _, _, by have := HI.out; omega, by go_num, by rw [HSN.out], HZL2.out, G11, Q11, HG2.out⟩
        case measure => omega
end Go.Proofs.Ytdddkfpcbfgocaa
namespace Go.Zn
open Go.Can
/-- Sizes of a zone of a small machine. -/
structure SpOk (p : Z) : Prop where
  n0 : 0 ≤ p.nd
  n1 : p.nd < 2
  kd : p.kd = 0 ∨ p.kd = 1
  c0 : 1 ≤ p.ct
  c1 : p.ct ≤ 20
  m0 : 0 ≤ p.mn
  m1 : p.mn ≤ p.ct
theorem stS_20 {ps : List Z} (h : ∀ p ∈ ps, SpOk p) : ∀ i : Nat, stS ps i ≤ 20 * i
  | 0 => by simp [stS]
  | i + 1 => by
    have := stS_20 h i
    cases hp : ps[i]? with
    | none =>
      unfold stS at this ⊢
      rw [List.take_add_one, hp]
      simp only [Option.toList_none, List.append_nil]
      omega
    | some p =>
      rw [stS_next hp]
      have := (h p (List.mem_of_getElem? hp)).c1
      omega
theorem PS.small {ps : List Z} (h : ∀ p ∈ ps, SpOk p) (h1 : 1 ≤ ps.length) (h3 : ps.length ≤ 3) : PS ps :=
  ⟨h1, by omega, fun z hz => ⟨(h z hz).n0, by have := (h z hz).n1; omega⟩, fun z hz => (h z hz).kd, fun z hz => (h z hz).c0, fun z hz => ⟨(h z hz).m0, (h z hz).m1⟩, by
    have := stS_20 h ps.length; omega⟩
end Go.Zn
namespace Go.Proofs.Ytdddkfpcbfgocaa
open Go.RowKit Go.Over Go.Zn Go.Can Go.Seg Go.Grow
/-- The cells of a machine. -/
structure MV (mc : List Value) (th : Bool) : Prop where
  ct : ∀ i, i < 3 → ∃ x : Int, mc[i]? = some (.int .u8 x) ∧ 0 ≤ x ∧ x < 256
  mn : ∀ i, i < 3 → ∃ x : Int, mc[3 + i]? = some (.int .u8 x) ∧ 0 ≤ x ∧ x < 256
  kd : ∀ i, i < 3 → ∃ b : Bool, mc[6 + i]? = some (.bool b)
  bt : ∃ x : Int, mc[9]? = some (.int .u8 x) ∧ 0 ≤ x ∧ x < 256
  th : mc[10]? = some (.bool th)
theorem KS : Kind Try.prog 52 51 4 32 := Kind.mk' Try.underlying52 (z := .agg #[.int .i64 0, .int .i64 0, .int .i64 0, .int .i64 0]) (by kernel_rfl) rfl (by decide) (by decide)
/-- A machine in a variable, beside a variable for the result. -/
structure MM (w : World) (g gr : Nat) (mc : List Value) (W : World) : Prop where
  b : Below w.heap.size w W
  x : Blk W g 25 mc
  z : Blk W gr 32 nilA
  l : w.heap.size ≤ gr
theorem MM.below {w W W' : World} {g gr : Nat} {mc : List Value} (h : MM w g gr mc W) (hb : Below W.heap.size W W') : MM w g gr mc W' := ⟨below_then h.b hb, h.x.later hb, h.z.later hb, h.l⟩
theorem MM.own {w W W' : World} {g gr n : Nat} {mc xs : List Value} {v : Value} (h : MM w g gr mc W) (hO : W.ownsRow w.heap.size 51 4 v n xs) (hg : W.grownBy W' v.ownBlock) : MM w g gr mc W' :=
  ⟨h.b.grown hg h.b.size (fun k hk => (World.ownsRow.lt hO k hk).1), h.x.grown hg (h.x.not_own hO (by decide)), h.z.grown hg (h.z.not_own hO (by decide)), h.l⟩
theorem flat4 {ps : List Z} {i j : Nat} {p : Z} (hp : ps[i]? = some p) (hj : j < 4) : (ps.flatMap spC)[i * 4 + j]? = (spC p)[j]? := by
  induction ps generalizing i with
  | nil => simp at hp
  | cons q r ih =>
    rw [List.flatMap_cons]
    cases i with
    | zero =>
      simp at hp
      subst hp
      rw [Nat.zero_mul, Nat.zero_add, List.getElem?_append_left (by simp [spC]; omega)]
    | succ i =>
      rw [List.getElem?_append_right (by simp [spC]; omega)]
      have e : (i + 1) * 4 + j - (spC q).length = i * 4 + j := by simp [spC]; omega
      rw [e]
      exact ih (by simpa using hp)
theorem SV.of {w : World} {g n : Nat} {cur : List Value} {ps : List Z} (hB : Blk w g 51 cur) (hl : ps.length = n) (ht : cur.take (n * 4) = ps.flatMap spC) : SV w g cur ps := by
  refine ⟨hB, fun i z hz => ?_⟩
  have hi := lt_of hz
  have key : ∀ j, j < 4 → cur[i * 4 + j]? = (spC z)[j]? := fun j hj => by
    rw [← flat4 hz hj, ← ht, List.getElem?_take, if_pos (by omega)]
  exact ⟨key 0 (by omega), key 1 (by omega), key 2 (by omega), key 3 (by omega)⟩
section
variable {ops : Array Oper} {rest : List Oper} {d i j : Nat} {ty : TypeId} {pos : String} {af : Array Edge} {a : Act} {w : World} {Q : Exit → Act → World → Prop}
/-- One zone's sizes are appended to a row of a call's own. -/
theorem wpList_appS {base b n : Nat} {v : Value} {p : Z} {l : List Value} (hs : a.eval (.tmp i) = v) (hx : a.eval (.tmp j) = .slice (some ⟨b, 0, none⟩) 1 1) (hO : w.ownsRow base 51 4 v n l) (hB : Blk w b 51 (spC p)) (hl : n ≤ 900000) (hb : base ≤ w.heap.size)
    (h : ∀ v' w', w'.ownsRow base 51 4 v' (n + 1) (l ++ spC p) → w.grownBy w' v.ownBlock → wpList Try.prog ops Q rest (a.put (some d) v') w') :
    wpList Try.prog ops Q ({ dst := some d, op := .call { callee := .builtin .append, args := #[.tmp i, .tmp j], argTypes := #[52, 52] }, type := ty, pos := pos, after := af, guard := none } :: rest) a w := by
  refine wpList_append_k KS rfl (.tmp i) (.tmp j) rfl v n l hs hO (some ⟨b, 0, none⟩) 1 1 (spC p) hx ⟨rfl, ?_, .inr ⟨_, rfl, fun k u hk => ?_⟩⟩ (by omega) hb fun v' w' q1 q2 _ => h v' w' q1 q2
  · intro u hu
    simp [spC] at hu
    rcases hu with rfl | rfl | rfl | rfl <;> rfl
  · rw [add_off, Nat.zero_add, hB.cell]; exact hk
end
/-- What the allocator of a machine is. -/
def NewR (w : World) (e : Ending) (w' : World) : Prop :=
  ∃ v a, e = .returned (.tuple #[v, .int .i64 0]) ∧ Ra w' v a ∧ VA a ∧ Below w.heap.size w w' ∧ a.nodes.length = 2 ∧ 2 ≤ a.zs.length ∧ (∀ z, z < a.zs.length → (zn a z).st + (zn a z).ct ≤ 64) ∧ ∀ z x, z < a.zs.length → inZ (zn a z) x → Fr a z x
theorem NewQ.small {w w' : World} {nodes : List Int} {bt hi : Nat} {ps : List Z} {e : Ending} (h : NewQ w nodes bt hi ps e w') (hn : nodes.length = 2) (hp : ∀ p ∈ ps, SpOk p) (h2 : 2 ≤ ps.length) (h3 : ps.length ≤ 3) : NewR w e w' := by
  obtain ⟨v, a, rfl, hR, hV, hb, e1, e2, e3, e4, e5, e6, e7⟩ := h
  refine ⟨v, a, rfl, hR, hV, hb, by rw [e1]; exact hn, by omega, fun z hz => ?_, fun z x hz hx => .inl (e6 z x (by omega) hx)⟩
  obtain ⟨p, hpp⟩ := get_some (show ps.length = ps.length from rfl) (show z < ps.length by omega)
  obtain ⟨_, _, d3, d4, _⟩ := e5 z p hpp
  rw [d3, d4, ← stS_next hpp]
  have := stS_20 hp (z + 1)
  omega
set_option maxRecDepth 100000 in set_option maxHeartbeats 3200000 in
theorem newM (mc : List Value) (th : Bool) (w : World) (H : MV mc th) : Calls Try.prog 13 #[.agg mc.toArray] w (NewR w) := by
  have b0 := below_box w (.cells mc.toArray 25)
  have b1 := below_then b0 (below_box (w.alloc (.cells mc.toArray 25)) (.cells #[.slice none 0 0, .int .i64 0, .int .i64 0, .slice none 0 0, .slice none 0 0] 32))
  have hs : (w.alloc (.cells mc.toArray 25)).heap.size = w.heap.size + 1 := by simp
  have X0 := (Blk.new w 25 mc.toArray mc rfl).later (below_box (w.alloc (.cells mc.toArray 25)) (.cells #[.slice none 0 0, .int .i64 0, .int .i64 0, .slice none 0 0, .slice none 0 0] 32))
  have Z0 := Blk.new (w.alloc (.cells mc.toArray 25)) 32 #[.slice none 0 0, .int .i64 0, .int .i64 0, .slice none 0 0, .slice none 0 0] nilA rfl
  rw [hs] at Z0
  have HM := Lib.hid H
  clear H b0 hs
  go_enter Try.func13, Try.ntmps13
  go_upto_region 1 with fail
  obtain ⟨w1, hw1⟩ : ∃ W, W = (w.alloc (.cells mc.toArray 25)).alloc (.cells #[.slice none 0 0, .int .i64 0, .int .i64 0, .slice none 0 0, .slice none 0 0] 32) := ⟨_, rfl⟩
  rw [← hw1] at X0 Z0 b1 ⊢
  have G0 : MM w w.heap.size (w.heap.size + 1) mc w1 := ⟨b1, X0, Z0, by omega⟩
  obtain ⟨gr, hgr⟩ : ∃ g, w.heap.size + 1 = g := ⟨_, rfl⟩
  obtain ⟨g, hg⟩ : ∃ g, w.heap.size = g := ⟨_, rfl⟩
  rw [hgr] at G0 ⊢
  have G1 : MM w g gr mc w1 := by rw [← hg]; exact G0
  rw [hg]
  clear G0 hw1 hgr hg X0 Z0 b1
  have ct := G1.x.cell 10
  rw [HM.out.th] at ct
  obtain ⟨n, hn⟩ : ∃ n : Nat, (if th then 3 else 2) = n := ⟨_, rfl⟩
  have hn2 : 2 ≤ n := by rw [← hn]; cases th <;> decide
  have hn3 : n ≤ 3 := by rw [← hn]; cases th <;> decide
  have HN := Lib.hid hn
  clear hn
  go_upto_if 11 with fail
  go_cut [4] from 12 (fun v4 wr => v4 = .int .i64 n ∧ w1 = wr)
  case first =>
    cases th with
    | true =>
      go_wp2
      go_meet
      case rel => exact ⟨by rw [← HN.out]; rfl, rfl⟩
    | false =>
      go_wp2
      go_meet
      case rel => exact ⟨by rw [← HN.out]; rfl, rfl⟩
  case rest =>
    obtain ⟨rfl, rfl⟩ := hcut
    clear ct HN
    go_wp2
    go_loopg [5, 13] n (fun gg v5 v13 wr => ∃ (i : Nat) (ps : List Z), i + gg = n ∧ v13 = .int .i64 i ∧ MM w g gr mc wr ∧ wr.ownsRow w.heap.size 51 4 v5 i (ps.flatMap spC) ∧ ps.length = i ∧ ∀ p ∈ ps, SpOk p)
    case atStart => exact ⟨0, [], by omega, rfl, G1, World.ownsRow_nil _ _ _ _, rfl, fun p hp => by cases hp⟩
    case round =>
      clear G1
      obtain ⟨i, ps, hi, rfl, G2, O2, hpl, hps⟩ := hrel
      have HPL := Lib.hid hpl; have HPS := Lib.hid hps
      clear hpl hps
      cases gk with
      | zero =>
        have hin : ¬ i < n := by omega
        obtain rfl : i = n := by omega
        obtain ⟨bs, cap, cur, rfl, hbs, hB, hcap, hcm, hcl, hct⟩ := own_open O2 (by omega)
        have S2 := SV.of hB HPL.out hct
        obtain ⟨x, cx, x0, x1⟩ := HM.out.bt
        rw [← G2.x.cell] at cx
        obtain ⟨b, hb⟩ : ∃ b : Nat, 1 + x % 4 = (b : Int) := ⟨(1 + x % 4).toNat, by omega⟩
        obtain ⟨h, hh⟩ : ∃ h : Nat, (b : Int) + x / 4 % 4 = (h : Int) := ⟨((b : Int) + x / 4 % 4).toNat, by omega⟩
        have hb1 : 1 ≤ b := by omega
        have hbh : b ≤ h := by omega
        have hh64 : h ≤ 64 := by omega
        have bN := below_box wr (.cells #[.int .i64 0, .int .i64 1] 3)
        have NN : Sl (wr.alloc (.cells #[.int .i64 0, .int .i64 1] 3)) (.slice (some ⟨wr.heap.size, 0, none⟩) 2 2) [0, 1] := by
          refine ⟨_, 2, rfl, Nat.le_refl _, by unfold maxLen; omega, fun h => (by cases h), fun _ => ⟨wr.heap.size, 0, rfl, ⟨_, Blk.new wr 3 #[.int .i64 0, .int .i64 1] [.int .i64 0, .int .i64 1] rfl⟩, fun k hk => ?_⟩⟩
          rw [(Blk.new wr 3 #[.int .i64 0, .int .i64 1] [.int .i64 0, .int .i64 1] rfl).cell]
          have hk : k < 2 := hk
          rcases (show k = 0 ∨ k = 1 by omega) with rfl | rfl <;> rfl
        have S3 := S2.below bN
        have G3 := G2.below bN
        have HNA := Lib.hid (newA (.slice (some ⟨wr.heap.size, 0, none⟩) 2 2) [0, 1] b h bs i cap cur ps _ NN (by decide) (by decide) (fun x hx => by simp at hx; omega) hb1 hbh hh64 S3 HPL.out (PS.small HPS.out (by rw [HPL.out]; omega) (by rw [HPL.out]; exact hn3)))
        have HSM := Lib.hid (fun e w' (hq : NewQ (wr.alloc (.cells #[.int .i64 0, .int .i64 1] 3)) [0, 1] b h ps e w') => hq.small rfl HPS.out (by rw [HPL.out]; exact hn2) (by rw [HPL.out]; exact hn3))
        have hgl := G2.x.lt
        clear hi O2 hB hct S2 NN S3 G2 bN
        go_wp2_with fail
        refine HNA.out.mono ?_
        intro e w4 hq
        obtain ⟨v, a, rfl, hR, hV, b4, e1, e2, e3, e4⟩ := HSM.out e w4 hq
        obtain ⟨s, zc, ccs, rfl, hW⟩ := hR
        have G4 := G3.below b4
        have HE := Lib.hid (And.intro e1 (And.intro e2 (And.intro e3 e4)))
        have HV := Lib.hid hV
        clear HNA HSM hq e1 e2 e3 e4 hV b4 G3 cx
        go_wp2_with ((with_reducible refine stA (s := s) (bt := a.bt) (hi := a.hi) ?_ ?_ G4.z rfl ?_); (focus rfl); (focus rfl); intro w5 hB5 hg5)
        refine bodyPost_ret (resA1 rfl _ _ gr _ _ rfl hB5 rfl rfl) rfl ?_
        have kp : ∀ {q t : Nat} {bs : List Value}, t ≠ 32 → Blk w4 q t bs → Blk w5 q t bs := fun ht hq => hq.grown hg5 (by simpa using G4.z.ne_type hq (Ne.symm ht))
        exact ⟨_, a, rfl, ⟨s, zc, ccs, rfl, hW.past (kp (by decide) hW.q.x) (kp (by decide) hW.c.x) (fun _ _ => kp (by decide)) (fun _ _ => kp (by decide))⟩, HV.out, G4.b.grown hg5 G4.b.size (fun q hq => by cases hq; exact G4.l), HE.out.1, HE.out.2.1, HE.out.2.2.1, HE.out.2.2.2⟩
      | succ gg =>
        have hin : i < n := by omega
        have hi3 : i < 3 := by omega
        have HI := Lib.hid hi
        obtain ⟨x, cx, x0, x1⟩ := HM.out.ct i hi3
        obtain ⟨y, cy, y0, y1⟩ := HM.out.mn i hi3
        obtain ⟨k, ck⟩ := HM.out.kd i hi3
        rw [← G2.x.cell] at cx cy ck
        clear hi
        obtain ⟨C, hC⟩ : ∃ C, 1 + x % 20 = C := ⟨_, rfl⟩
        have hC1 : 1 ≤ C := by omega
        have hC2 : C ≤ 20 := by omega
        go_upto_if 26 with fail
        clear hC cx x0 x1
        go_cut [8] from 27 to 43 (fun v8 wd => (∃ kd : Int, v8 = .int .i64 kd ∧ (kd = 0 ∨ kd = 1)) ∧ wr = wd)
        case first =>
          cases k with
          | true =>
            go_wp2
            go_meet
            case rel => exact ⟨⟨1, rfl, .inr rfl⟩, rfl⟩
          | false =>
            go_wp2
            go_meet
            case rel => exact ⟨⟨0, rfl, .inl rfl⟩, rfl⟩
        case rest =>
          obtain ⟨⟨kd, rfl, hkd⟩, rfl⟩ := hcut
          clear ck
          obtain ⟨p, hp⟩ : ∃ p : Z, p = ⟨(i : Int) % 2, kd, 0, C, y % (C + 1), fun _ => []⟩ := ⟨_, rfl⟩
          have hm0 := Int.emod_nonneg y (show C + 1 ≠ 0 by omega)
          have hm1 := Int.emod_lt_of_pos y (show 0 < C + 1 by omega)
          have HSP := Lib.hid (show SpOk p by rw [hp]; exact ⟨by show 0 ≤ (i : Int) % 2; omega, by show (i : Int) % 2 < 2; omega, hkd, hC1, hC2, hm0, by show y % (C + 1) ≤ C; omega⟩)
          have hBN : Blk (wr.alloc (.cells #[.int .i64 ((i : Int) % 2), .int .i64 kd, .int .i64 C, .int .i64 (y % (C + 1))] 51)) wr.heap.size 51 (spC p) := Blk.new _ _ _ _ (by rw [hp]; rfl)
          have bN := below_box wr (.cells #[.int .i64 ((i : Int) % 2), .int .i64 kd, .int .i64 C, .int .i64 (y % (C + 1))] 51)
          have G3 := G2.below bN
          have O3 := own_later O2 bN
          have hsz := G3.b.size
          have hcc : i ≤ 900000 := by omega
          clear hkd hp hm0 hm1
          go_upto_region 13 with ((with_reducible refine wpList_appS (base := w.heap.size) (b := wr.heap.size) (p := p) ?_ ?_ O3 hBN hcc hsz ?_); (focus rfl); (focus rfl); intro u' w4 O4 hg4)
          have G4 := G3.own O3 hg4
          have HF := Lib.hid (show (ps ++ [p]).flatMap spC = ps.flatMap spC ++ spC p by simp)
          have HPL2 := Lib.hid (show (ps ++ [p]).length = i + 1 by rw [List.length_append, HPL.out]; rfl)
          have HPS2 := Lib.hid (show ∀ q ∈ ps ++ [p], SpOk q from fun q hq => by
            rcases List.mem_append.1 hq with h | h
            · exact HPS.out q h
            · rw [List.mem_singleton.1 h]; exact HSP.out)
          clear G2 O2 G3 O3 hBN bN hsz hcc hg4
          go_wp2
          go_roundg gg
          case rel => exact ⟨i + 1, ps ++ [p], by have := HI.out; omega, by go_num, G4, by rw [HF.out]; exact O4, HPL2.out, HPS2.out⟩
          case measure => omega
end Go.Proofs.Ytdddkfpcbfgocaa
namespace Go.Zn
open Go.Can
/-- The frames that are held are those that are not free. -/
structure HI (a : A) (hs : List Bool) : Prop where
  v : VA a
  nc : a.cs.length = 2
  n2 : 2 ≤ a.zs.length
  e : ∀ z, z < a.zs.length → (zn a z).st + (zn a z).ct ≤ 64
  l : hs.length = 64
  f : ∀ z x, z < a.zs.length → inZ (zn a z) x → (Fr a z x ↔ hs.getD x.toNat false = false)
  h : ∀ i : Nat, hs.getD i false = true → ∃ z, z < a.zs.length ∧ inZ (zn a z) (i : Int)
theorem HI.rg {a : A} {hs : List Bool} (h : HI a hs) {z : Nat} {x : Int} (hz : z < a.zs.length) (hx : inZ (zn a z) x) : 0 ≤ x ∧ x < 64 := by
  have := (h.v.inr hz hx).1
  have := h.e z hz
  unfold inZ at hx
  omega
theorem HI.start {a : A} (hv : VA a) (hn : a.nodes.length = 2) (h2 : 2 ≤ a.zs.length) (he : ∀ z, z < a.zs.length → (zn a z).st + (zn a z).ct ≤ 64) (hf : ∀ z x, z < a.zs.length → inZ (zn a z) x → Fr a z x) : HI a (List.replicate 64 false) := by
  have hr : ∀ i : Nat, (List.replicate 64 false).getD i false = false := fun i => by
    rw [List.getD_eq_getElem?_getD, List.getElem?_replicate]
    split <;> rfl
  refine ⟨hv, by rw [hv.nc]; exact hn, h2, he, by simp, fun z x hz hx => ⟨fun _ => hr _, fun _ => hf z x hz hx⟩, fun i hi => ?_⟩
  rw [hr] at hi
  cases hi
theorem getD_set' {hs : List Bool} {i j : Nat} {b : Bool} (hi : i < hs.length) : (hs.set i b).getD j false = if j = i then b else hs.getD j false := getD_set hi
theorem HI.same {a b : A} {hs : List Bool} (h : HI a hs) (hv : VA b) (hs' : Sa a b) (hf : ∀ z x, Fr b z x ↔ Fr a z x) : HI b hs :=
  ⟨hv, by rw [hs'.nc]; exact h.nc, by rw [hs'.nz]; exact h.n2, fun z hz => by rw [hs'.nz] at hz; rw [(hs'.par z).st, (hs'.par z).ct]; exact h.e z hz, h.l, fun z x hz hx => by
    rw [hs'.nz] at hz
    rw [hf]
    exact h.f z x hz (hs'.inZ.1 hx), fun i hi => by
    obtain ⟨z, h1, h2⟩ := h.h i hi
    exact ⟨z, by rw [hs'.nz]; exact h1, hs'.inZ.2 h2⟩⟩
theorem HI.less {a b : A} {hs : List Bool} {z : Nat} {i : Nat} (h : HI a hs) (hl : Less a z i b) (hz : z < a.zs.length) : i < 64 ∧ hs.getD i false = false ∧ HI b (hs.set i true) := by
  have hx := h.v.fr_in hz hl.m
  have hr := h.rg hz hx
  have hi : i < 64 := by omega
  have hh := (h.f z i hz hx).1 hl.m
  rw [Int.toNat_natCast] at hh
  refine ⟨hi, hh, hl.v, by rw [hl.s.nc]; exact h.nc, by rw [hl.s.nz]; exact h.n2, fun y hy => by rw [hl.s.nz] at hy; rw [(hl.s.par y).st, (hl.s.par y).ct]; exact h.e y hy, by rw [List.length_set]; exact h.l, fun y x hy hxy => ?_, fun j hj => ?_⟩
  · rw [hl.s.nz] at hy
    have hxa := hl.s.inZ.1 hxy
    have hrx := h.rg hy hxa
    rw [hl.f, h.f y x hy hxa, getD_set' (by rw [h.l]; exact hi)]
    by_cases e : x.toNat = i
    · rw [if_pos e]
      have e2 : x = (i : Int) := by omega
      have e3 : y = z := h.v.zdis hy hz hxa (by rw [e2]; exact hx)
      exact ⟨fun q => absurd ⟨e3, e2⟩ q.2, fun q => by cases q⟩
    · rw [if_neg e]
      exact ⟨fun q => q.1, fun q => ⟨q, fun q2 => e (by omega)⟩⟩
  · rw [getD_set' (by rw [h.l]; exact hi)] at hj
    by_cases e : j = i
    · subst e
      exact ⟨z, by rw [hl.s.nz]; exact hz, hl.s.inZ.2 hx⟩
    · rw [if_neg e] at hj
      obtain ⟨y, h1, h2⟩ := h.h j hj
      exact ⟨y, by rw [hl.s.nz]; exact h1, hl.s.inZ.2 h2⟩
theorem HI.held {a : A} {hs : List Bool} {i : Nat} (h : HI a hs) (hi : hs.getD i false = true) : ∃ z, z < a.zs.length ∧ inZ (zn a z) (i : Int) ∧ ¬ Fr a z (i : Int) := by
  obtain ⟨z, h1, h2⟩ := h.h i hi
  refine ⟨z, h1, h2, fun hf => ?_⟩
  have := (h.f z i h1 h2).1 hf
  rw [Int.toNat_natCast, hi] at this
  cases this
end Go.Zn
namespace Go.Proofs.Ytdddkfpcbfgocaa
open Go.RowKit Go.Over Go.Zn Go.Can Go.Seg Go.Grow
theorem _root_.Go.Zn.HI.more {a b : A} {hs : List Bool} {z : Nat} {i : Nat} (h : HI a hs) (hl : More a z i b) (hz : z < a.zs.length) (hx : inZ (zn a z) i) : HI b (hs.set i false) := by
  have hr := h.rg hz hx
  have hi : i < 64 := by omega
  refine ⟨hl.v, by rw [hl.s.nc]; exact h.nc, by rw [hl.s.nz]; exact h.n2, fun y hy => by rw [hl.s.nz] at hy; rw [(hl.s.par y).st, (hl.s.par y).ct]; exact h.e y hy, by rw [List.length_set]; exact h.l, fun y x hy hxy => ?_, fun j hj => ?_⟩
  · rw [hl.s.nz] at hy
    have hxa := hl.s.inZ.1 hxy
    have hrx := h.rg hy hxa
    rw [hl.f, h.f y x hy hxa, getD_set' (by rw [h.l]; exact hi)]
    by_cases e : x.toNat = i
    · rw [if_pos e]
      have e2 : x = (i : Int) := by omega
      have e3 : y = z := h.v.zdis hy hz hxa (by rw [e2]; exact hx)
      exact ⟨fun _ => rfl, fun _ => .inr ⟨e3, e2⟩⟩
    · rw [if_neg e]
      refine ⟨fun q => ?_, .inl⟩
      rcases q with q | q
      · exact q
      · exact absurd (by omega) e
  · rw [getD_set' (by rw [h.l]; exact hi)] at hj
    by_cases e : j = i
    · rw [if_pos e] at hj; cases hj
    · rw [if_neg e] at hj
      obtain ⟨y, h1, h2⟩ := h.h j hj
      exact ⟨y, by rw [hl.s.nz]; exact h1, hl.s.inZ.2 h2⟩
/-- The steps of a script, that lie at a. -/
structure FOp where
  wh : Int
  cp : Int
  pk : Int
def Ops (w : World) (a : Option Addr) (l : List FOp) : Prop := 0 < l.length → ∃ b off, a = some ⟨b, off, none⟩ ∧ ∀ i x, l[i]? = some x →
  w.cell? ⟨b, off + i * 3, none⟩ = some (.int .u8 x.wh) ∧ w.cell? ⟨b, off + i * 3 + 1, none⟩ = some (.int .u8 x.cp) ∧ w.cell? ⟨b, off + i * 3 + 2, none⟩ = some (.int .u8 x.pk) ∧ (0 ≤ x.wh ∧ x.wh < 256) ∧ (0 ≤ x.cp ∧ x.cp < 256) ∧ (0 ≤ x.pk ∧ x.pk < 256)
theorem Ops.below {w w' : World} {a : Option Addr} {l : List FOp} (h : Ops w a l) (hb : Below w.heap.size w w') : Ops w' a l := fun h0 => by
  obtain ⟨b, off, ha, hc⟩ := h h0
  refine ⟨b, off, ha, fun i x hx => ?_⟩
  obtain ⟨c0, c1, c2, hr⟩ := hc i x hx
  exact ⟨cell_later hb c0, cell_later hb c1, cell_later hb c2, hr⟩
/-- The cells of the frames that are held. -/
def hvs (hs : List Bool) : List Value := hs.map Value.bool
theorem hvs_len {hs : List Bool} : (hvs hs).length = hs.length := by simp [hvs]
theorem hvs_one {hs : List Bool} : ∀ v ∈ hvs hs, v.oneCell' = true := by
  intro v hv
  simp only [hvs, List.mem_map] at hv
  obtain ⟨b, _, rfl⟩ := hv
  rfl
theorem hvs_set {hs : List Bool} {i : Nat} {b : Bool} : (hvs hs).set i (.bool b) = hvs (hs.set i b) := by simp [hvs]
theorem hvs_get {hs : List Bool} {i : Nat} (hi : i < hs.length) : (hvs hs)[i]? = some (.bool (hs.getD i false)) := by
  simp [hvs, List.getElem?_eq_getElem hi, List.getD_eq_getElem?_getD]
/-- A script under way. -/
structure FM (w : World) (g4 g5 g7 g8 : Nat) (s : Sh) (zc ccs : List Value) (a : A) (hs : List Bool) (W : World) : Prop where
  b : Below w.heap.size w W
  l4 : w.heap.size ≤ g4
  l5 : w.heap.size ≤ g5
  l7 : w.heap.size ≤ g7
  l8 : w.heap.size ≤ g8
  n48 : g4 ≠ g8
  n57 : g5 ≠ g7
  z4 : Blk W g4 32 nilA
  z5 : Blk W g5 33 (hvs (List.replicate 64 false))
  h7 : Blk W g7 33 (hvs hs)
  x8 : Blk W g8 32 (s.cells a.bt a.hi)
  v : AW W s zc ccs a
section
variable {w W W' : World} {g4 g5 g7 g8 : Nat} {s : Sh} {zc ccs : List Value} {a : A} {hs : List Bool}
theorem FM.below (h : FM w g4 g5 g7 g8 s zc ccs a hs W) (hb : Below W.heap.size W W') : FM w g4 g5 g7 g8 s zc ccs a hs W' :=
  ⟨below_then h.b hb, h.l4, h.l5, h.l7, h.l8, h.n48, h.n57, h.z4.later hb, h.z5.later hb, h.h7.later hb, h.x8.later hb, h.v.below hb⟩
theorem FM.aset {s' : Sh} {zc' ccs' : List Value} {a' : A} (h : FM w g4 g5 g7 g8 s zc ccs a hs W) (hB : Blk W' g8 32 (s'.cells a'.bt a'.hi)) (hg : W.grownBy W' (some g8)) (hv : AW W s' zc' ccs' a') : FM w g4 g5 g7 g8 s' zc' ccs' a' hs W' := by
  have kp : ∀ {q t : Nat} {bs : List Value}, t ≠ 32 → Blk W q t bs → Blk W' q t bs := fun ht hq => hq.grown hg (by simpa using h.x8.ne_type hq (Ne.symm ht))
  exact ⟨h.b.grown hg h.b.size (fun q hq => by cases hq; exact h.l8), h.l4, h.l5, h.l7, h.l8, h.n48, h.n57, h.z4.grown hg (by simpa using Ne.symm h.n48), kp (by decide) h.z5, kp (by decide) h.h7, hB, hv.past (kp (by decide) hv.q.x) (kp (by decide) hv.c.x) (fun _ _ => kp (by decide)) (fun _ _ => kp (by decide))⟩
theorem FM.hset {i : Nat} {b : Bool} (h : FM w g4 g5 g7 g8 s zc ccs a hs W) : FM w g4 g5 g7 g8 s zc ccs a (hs.set i b) (W.setCell ⟨g7, i, none⟩ (.bool b)) := by
  have kp : ∀ {q t : Nat} {bs : List Value}, t ≠ 33 → Blk W q t bs → Blk (W.setCell ⟨g7, i, none⟩ (.bool b)) q t bs := fun ht hq => hq.far (p := ⟨g7, i, none⟩) (hq.ne_type h.h7 ht) _
  exact ⟨h.b.setCell (p := ⟨g7, i, none⟩) h.l7 _, h.l4, h.l5, h.l7, h.l8, h.n48, h.n57, kp (by decide) h.z4, h.z5.far (p := ⟨g7, i, none⟩) h.n57 _, by rw [← hvs_set]; exact h.h7.set i _, kp (by decide) h.x8, h.v.past (kp (by decide) h.v.q.x) (kp (by decide) h.v.c.x) (fun _ _ => kp (by decide)) (fun _ _ => kp (by decide))⟩
theorem FM.held (h : FM w g4 g5 g7 g8 s zc ccs a hs W) {i : Nat} (hi : i < hs.length) : W.cell? ⟨g7, i, none⟩ = some (.bool (hs.getD i false)) := by rw [h.h7.cell]; exact hvs_get hi
end
theorem infoH : (Try.prog.info? 33).map (·.size) = some 64 := by kernel_rfl
section
variable {ops : Array Oper} {rest : List Oper} {d i j : Nat} {ty : TypeId} {pos : String} {af : Array Edge} {a : Act} {w : World} {Q : Exit → Act → World → Prop} {g : Nat} {S : World → Prop} {R : Act → Prop}
/-- The held frames are stored whole. -/
theorem stH {zs : List Value} {hs : List Bool} (hx : a.eval (.tmp i) = .pointer (some ⟨g, 0, none⟩)) (hy : a.eval (.tmp j) = .agg (hvs hs).toArray) (hB : Blk w g 33 zs) (hz : zs.length = 64) (hl : hs.length = 64)
    (h : ∀ W, Blk W g 33 (hvs hs) → w.grownBy W (some g) → wpList Try.prog ops Q rest (a.put none undef) W) :
    wpList Try.prog ops Q ({ dst := none, op := .store 33 (.tmp i) (.tmp j), type := ty, pos := pos, after := af, guard := none } :: rest) a w := by
  have e : lay zs 0 (hvs hs) = hvs hs := by
    unfold lay
    rw [hvs_len, hl, List.take_zero, List.nil_append, List.drop_eq_nil_of_le (by omega), List.append_nil]
  exact wpList_store_part (cs := hvs hs) (by rw [infoH, hvs_len, hl]) hx hy hB (by rw [hz, hvs_len, hl]; exact Nat.le_refl _) hvs_one fun W q1 q2 => h W (by rw [← e]; exact q1) q2
/-- A row is loaded whole, in a quiet piece. -/
theorem ldQA {cs : List Value} {n : Nat} (hn : (Try.prog.info? 32).map (·.size) = some n) (hl : cs.length = n) (hx : a.eval (.tmp i) = .pointer (some ⟨g, 0, none⟩)) (hB : ∀ w, S w → Blk w g 32 cs) (h : wpQuiet Try.prog ops S R rest (a.put (some d) (.agg cs.toArray))) :
    wpQuiet Try.prog ops S R ({ dst := some d, op := .load 32 (.tmp i), type := ty, pos := pos, after := af, guard := none } :: rest) a := by
  refine BigFrame.wpQuiet_want rfl fun K hK => ⟨_, fun w hS => ?_, hK _ h⟩
  unfold Oper.quietAt execOp
  simp only [hx, Instr.loadAt, Instr.sureAddr, Sem.run_bind, Sem.run_pure, Result.andThen_ok, run_loadVar_row w g 32 32 cs.toArray (0, 0) _ (hB w hS) Try.underlying32 rfl (by rw [hn]; simp [hl])]
  exact ⟨rfl, rfl⟩
/-- A row is loaded whole, in a quiet piece. -/
theorem ldQH {cs : List Value} {n : Nat} (hn : (Try.prog.info? 33).map (·.size) = some n) (hl : cs.length = n) (hx : a.eval (.tmp i) = .pointer (some ⟨g, 0, none⟩)) (hB : ∀ w, S w → Blk w g 33 cs) (h : wpQuiet Try.prog ops S R rest (a.put (some d) (.agg cs.toArray))) :
    wpQuiet Try.prog ops S R ({ dst := some d, op := .load 33 (.tmp i), type := ty, pos := pos, after := af, guard := none } :: rest) a := by
  refine BigFrame.wpQuiet_want rfl fun K hK => ⟨_, fun w hS => ?_, hK _ h⟩
  unfold Oper.quietAt execOp
  simp only [hx, Instr.loadAt, Instr.sureAddr, Sem.run_bind, Sem.run_pure, Result.andThen_ok, run_loadVar_row w g 33 33 cs.toArray (0, 0) _ (hB w hS) Try.underlying33 rfl (by rw [hn]; simp [hl])]
  exact ⟨rfl, rfl⟩
end
theorem resF {fn : Func} {p q r : Tmp} (h : fn.results = #[.cell p 32, .cell q 33, .tmp r]) (tmps : Array Value) (w : World) (g g' : Nat) (cs hs : List Value) (v : Value) (hp : tmps.getD p undef = .pointer (some ⟨g, 0, none⟩)) (hq : tmps.getD q undef = .pointer (some ⟨g', 0, none⟩)) (hg : Blk w g 32 cs) (hl : cs.length = 5) (hg' : Blk w g' 33 hs) (hl' : hs.length = 64) (hv : tmps.getD r undef = v) :
    (results fn tmps).run Try.prog w = .ok (.tuple #[.agg cs.toArray, .agg hs.toArray, v]) w := by
  have hp' : tmps[p]?.getD undef = .pointer (some ⟨g, 0, none⟩) := by simpa using hp
  have hq' : tmps[q]?.getD undef = .pointer (some ⟨g', 0, none⟩) := by simpa using hq
  have hv' : tmps[r]?.getD undef = v := by simpa using hv
  have h1 := run_loadVar_row (P := Try.prog) w g 32 32 cs.toArray (0, 0) _ hg Try.underlying32 rfl (by rw [infoA]; simp [hl])
  have h2 := run_loadVar_row (P := Try.prog) w g' 33 33 hs.toArray (0, 0) _ hg' Try.underlying33 rfl (by rw [infoH]; simp [hl'])
  simp [results, h, hp', hq', hv', asAddr, h1, h2]
end Go.Proofs.Ytdddkfpcbfgocaa
