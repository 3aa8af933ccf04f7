/- The arguments of the statement on the nearest zone opened. Walks: the statement on the nearest zone. -/
import Derived.Deep.CutBlock
import Derived.Test.YtdddkfpcbfgocaaGreatK7
import Derived.Test.YtdddkfpcbfgocaaGreatK9
namespace Go.Proofs.YtdddkfpcbfgocaaGreat
open Go.ChangeShapes Go.WideShapes Go.ChangeAt Go.RowKit Go.Lift Go.Grow Go.Over Go.Zn
section
variable {W : World} {v : Value}
set_option maxRecDepth 100000 in
theorem arg_bops (hv : ∃ base, Value.okWide Tryz.prog W .any base 54 v) (hr : Rd Tryz.prog W 54 v.cells.toList) : ∃ a l n c, v = .slice a n c ∧ BOps W a l ∧ l.length = n := by
  obtain ⟨_, hv⟩ := hv
  obtain ⟨a, n, c, rfl⟩ := okWide_slice Tryz.underlying54 hv
  obtain ⟨a', n', c', f, h, _, _, _, hc, _, hw⟩ := hr.ints Tryz.underlying54 Tryz.underlying5 cells5
  simp [Value.cells] at h
  obtain ⟨rfl, rfl, rfl⟩ := h
  refine ⟨a, (List.range n).map f, n, c, rfl, fun h0 => ?_, by simp⟩
  obtain ⟨b, off, ha, hcell⟩ := hc (by simpa using h0)
  refine ⟨b, off, ha, fun i x hx => ?_⟩
  rw [List.getElem?_map] at hx
  have hi : i < n := by
    rcases Nat.lt_or_ge i n with h | h
    · exact h
    · rw [List.getElem?_eq_none (by simpa using h)] at hx; cases hx
  rw [List.getElem?_range hi] at hx
  simp at hx
  subst hx
  exact ⟨hcell i hi, u8_wf (hw i hi)⟩
end
end Go.Proofs.YtdddkfpcbfgocaaGreat
namespace Go.Proofs.YtdddkfpcbfgocaaGreat
open Go.RowKit Go.Over Go.Zn Go.Can Go.Seg Go.Grow
set_option maxRecDepth 100000 in set_option maxHeartbeats 3200000 in
theorem nearest (oa : Option Addr) (os : List Int) (n c : Nat) (w : World) (hOS : BOps w oa os) (hn : os.length = n) : Calls Tryz.prog 5 #[.slice oa n c] w fun e w' => e = .returned (.bool true) ∧ Below w.heap.size w w' := by
  have HO := Lib.hid hOS; have HN := Lib.hid hn
  clear hOS hn
  have s1 : (w.alloc (.cells #[.int .i64 0, .int .i64 0, .int .i64 6, .int .i64 1, .int .i64 2, .int .i64 1, .int .i64 4, .int .i64 1, .int .i64 1, .int .i64 0, .int .i64 5, .int .i64 2] 56)).heap.size = w.heap.size + 1 := by simp
  have z2 := (Blk.new w 56 #[.int .i64 0, .int .i64 0, .int .i64 6, .int .i64 1, .int .i64 2, .int .i64 1, .int .i64 4, .int .i64 1, .int .i64 1, .int .i64 0, .int .i64 5, .int .i64 2] _ rfl).later (below_box (w.alloc (.cells #[.int .i64 0, .int .i64 0, .int .i64 6, .int .i64 1, .int .i64 2, .int .i64 1, .int .i64 4, .int .i64 1, .int .i64 1, .int .i64 0, .int .i64 5, .int .i64 2] 56)) (.cells #[.int .i64 0, .int .i64 2, .int .i64 1] 3))
  have n2 := Blk.new (w.alloc (.cells #[.int .i64 0, .int .i64 0, .int .i64 6, .int .i64 1, .int .i64 2, .int .i64 1, .int .i64 4, .int .i64 1, .int .i64 1, .int .i64 0, .int .i64 5, .int .i64 2] 56)) 3 #[.int .i64 0, .int .i64 2, .int .i64 1] _ rfl
  have b2 := below_then (below_box w (.cells #[.int .i64 0, .int .i64 0, .int .i64 6, .int .i64 1, .int .i64 2, .int .i64 1, .int .i64 4, .int .i64 1, .int .i64 1, .int .i64 0, .int .i64 5, .int .i64 2] 56)) (below_box (w.alloc (.cells #[.int .i64 0, .int .i64 0, .int .i64 6, .int .i64 1, .int .i64 2, .int .i64 1, .int .i64 4, .int .i64 1, .int .i64 1, .int .i64 0, .int .i64 5, .int .i64 2] 56)) (.cells #[.int .i64 0, .int .i64 2, .int .i64 1] 3))
  rw [s1] at n2
  clear s1
  go_enter Tryz.func5, Tryz.ntmps5
  go_upto_region 3 with fail
  obtain ⟨w2, hw2⟩ : ∃ W, W = (w.alloc (.cells #[.int .i64 0, .int .i64 0, .int .i64 6, .int .i64 1, .int .i64 2, .int .i64 1, .int .i64 4, .int .i64 1, .int .i64 1, .int .i64 0, .int .i64 5, .int .i64 2] 56)).alloc (.cells #[.int .i64 0, .int .i64 2, .int .i64 1] 3) := ⟨_, rfl⟩
  rw [← hw2] at z2 n2 b2 ⊢
  obtain ⟨bn, hbn⟩ : ∃ g, w.heap.size + 1 = g := ⟨_, rfl⟩
  rw [hbn] at n2 ⊢
  obtain ⟨bz, hbz⟩ : ∃ g, w.heap.size = g := ⟨_, rfl⟩
  have z2 : Blk w2 bz 56 [.int .i64 0, .int .i64 0, .int .i64 6, .int .i64 1, .int .i64 2, .int .i64 1, .int .i64 4, .int .i64 1, .int .i64 1, .int .i64 0, .int .i64 5, .int .i64 2] := by rw [← hbz]; exact z2
  rw [hbz]
  clear hw2 hbn hbz
  have HS := Lib.hid (show Sl w2 (.slice (some ⟨bn, 0, none⟩) 3 3) [0, 2, 1] from ⟨_, 3, rfl, Nat.le_refl _, by unfold maxLen; omega, fun h => (by cases h), fun _ => ⟨bn, 0, rfl, ⟨_, n2⟩, fun k hk => by
    rw [n2.cell]
    have hk : k < 3 := hk
    rcases (show k = 0 ∨ k = 1 ∨ k = 2 by omega) with rfl | rfl | rfl <;> rfl⟩⟩)
  have HSV := Lib.hid (show SV w2 bz _ [np0, np1, np2] from ⟨z2, fun i z hz => by
    match i, hz with
    | 0, hz => cases hz; exact ⟨rfl, rfl, rfl, rfl⟩
    | 1, hz => cases hz; exact ⟨rfl, rfl, rfl, rfl⟩
    | 2, hz => cases hz; exact ⟨rfl, rfl, rfl, rfl⟩
    | i + 3, hz => simp at hz⟩)
  go_wp2_with fail
  refine ((newA _ [0, 2, 1] 2 3 bz 3 3 _ [np0, np1, np2] w2 HS.out (by decide) (by decide) (by decide) (by decide) (by decide) (by decide) HSV.out rfl ps_N).mono fun e w' h => NewQ.n h).mono ?_
  rintro e w3 ⟨_, a, rfl, ⟨s, zc, ccs, rfl, hA⟩, hV, hsh, b3⟩
  have hz := Blk.new w3 28 #[.slice none 0 0, .int .i64 0, .int .i64 0, .slice none 0 0, .slice none 0 0] nilA rfl
  replace z2 := z2.later b3
  replace n2 := n2.later b3
  replace b2 := below_then b2 b3
  clear HS HSV b3
  go_upto_region 4 with ((with_reducible refine stA (s := s) (bt := a.bt) (hi := a.hi) ?_ ?_ hz rfl ?_); (focus rfl); (focus rfl); intro w4 hB4 hg4)
  have b4 : Below w3.heap.size w3 w4 := (below_box w3 (.cells #[.slice none 0 0, .int .i64 0, .int .i64 0, .slice none 0 0, .slice none 0 0] 28)).grown hg4 (below_box w3 _).size (fun k hk => by cases hk; exact Nat.le_refl _)
  have K4 : KN w w3.heap.size bz bn s zc ccs a w4 := ⟨below_then b2 b4, b2.size, hB4, z2.later b4, n2.later b4, hA.below b4, hV, hsh⟩
  obtain ⟨g5, hg5⟩ : ∃ g, w3.heap.size = g := ⟨_, rfl⟩
  rw [hg5] at K4 ⊢
  clear hz z2 n2 b2 hg4 b4 hA hV hsh hB4 hg5
  by_cases h40 : n ≤ 40
  · have t40 : decide ((40 : Int) < (n : Int)) = false := by simp; omega
    go_wp2
    clear t40
    go_loopg [7] n (fun gg v7 wr => ∃ (i : Nat) (s : Sh) (zc ccs : List Value) (a : A), i + gg = n ∧ v7 = .int .i64 i ∧ KN w g5 bz bn s zc ccs a wr)
    case atStart => exact ⟨0, s, zc, ccs, a, by omega, rfl, K4⟩
    case round =>
      clear K4
      obtain ⟨i, s, zc, ccs, a, hi, rfl, K1⟩ := hrel
      cases gk with
      | zero =>
        obtain rfl : i = n := by omega
        have hin : ¬ i < i := by omega
        clear hi
        go_wp2_with fail
        refine (dslabbed wr).mono ?_
        rintro e w5 ⟨rfl, b5⟩
        have B5 := below_then K1.b b5
        clear K1 b5
        go_wp2
        go_ret
        exact ⟨rfl, B5⟩
      | succ gg =>
        have hin : i < n := by omega
        have HI := Lib.hid hi
        obtain ⟨x, hx⟩ := get_some HN.out hin
        obtain ⟨bo, oo, rfl, hoc⟩ := HO.out (by rw [HN.out]; omega)
        obtain ⟨c0, r0⟩ := hoc i x hx
        replace c0 := cell_later K1.b c0
        obtain ⟨cn, hcn⟩ : ∃ m : Nat, x % 3 = (m : Int) := ⟨(x % 3).toNat, by omega⟩
        have hc3 : cn < 3 := by omega
        obtain ⟨x0, x1⟩ := r0
        clear hi hx hoc
        go_upto_region 9 with fail
        go_cut [8, 9] from 47 to 59 (fun v8 v9 W => ∃ kn : Bool, v8 = .int .i64 cn ∧ v9 = .bool kn ∧ KN w g5 bz bn s zc ccs a W)
        case first =>
          refine wp_region_plan (fun U => U.cell? ⟨bo, oo + i, none⟩ = some (.int .u8 x)) (.quiet [0, 1, 2, 3, 4, 5, 6, 7, 8, 9, 10, 11, 12, 13, 14] .done) 99 (by kernel_rfl) (by kernel_rfl) (cell_later (Below.refl _ _).drew c0) ?_
          intro W1 hWW hWe
          have X1 := K1.below (show Below wr.heap.size wr W1 by rw [hWe]; exact (Below.refl _ _).drew)
          clear hWe K1
          simp only [wpPlan, inOrder, List.filterMap_cons, List.filterMap_nil, List.getElem?_cons_zero, List.getElem?_cons_succ]
          have q1 := fun z => hold_ok (S0 := fun U => U.cell? ⟨bo, oo + i, none⟩ = some (.int .u8 x)) hWW z
          show wpQuiet _ _ _ _ (_ :: _ :: _ :: _ :: _ :: _ :: _ :: _ :: _ :: _ :: _ :: _ :: _ :: _ :: [_]) _
          repeat (go_big_quiet_step (fail))
          refine wpQuiet_nil ?_
          clear q1 hWW
          refine NoPanic.normal ?_
          go_wp2
          go_meet
          case rel => exact ⟨_, by rw [hcn], rfl, X1⟩
        case rest =>
          clear K1 hcn c0 x0 x1
          obtain ⟨kn, rfl, rfl, K2⟩ := hcut
          obtain ⟨dn, nd0, nd4⟩ := K2.nd hc3
          obtain ⟨nd, hnd⟩ : ∃ m, a.nodes.getD cn 0 = m := ⟨_, rfl⟩
          rw [hnd] at dn nd0 nd4
          have HG := Lib.hid (show ZG a.zs from ⟨K2.V.z1, K2.V.z6, fun y hy => by
            obtain ⟨i', hi'⟩ := List.getElem?_of_mem hy
            have := K2.V.vz i' (lt_of hi'); rw [zn_of hi'] at this; exact this.r⟩)
          obtain ⟨P, hP⟩ : ∃ P, ordP a.zs nd kn = P := ⟨_, rfl⟩
          have HZO := Lib.hid (fun W (q : QV W s.bz zc a.zs) => zorder s.bz s.nz s.cz zc a.zs nd kn W q K2.v.ez K2.v.zl HG.out nd0 nd4)
          rw [hP] at HZO
          have HPK := Lib.hid (show ∀ rsv, pickZ a cn kn rsv = P.find? fun q => elg a rsv q.toNat from fun rsv => by unfold pickZ; rw [hnd, hP])
          have HM := Lib.hid (show ∀ q, q ∈ P → ∃ i : Nat, i < 3 ∧ q = i from fun q hq => by
            rw [← hP] at hq
            obtain ⟨i, h1, h2, _⟩ := mem_ordP.1 hq
            rw [K2.S.nz] at h1
            exact ⟨i, h1, h2⟩)
          have hP6 : P.length ≤ 6 := by rw [← hP]; exact Nat.le_trans ordP_len K2.V.z6
          have c3 : wc.cell? ⟨g5, 3, none⟩ = some (.slice (some ⟨s.bz, 0, none⟩) s.nz s.cz) := by rw [K2.x.cell]; rfl
          clear hnd hP nd0 nd4
          go_upto_region 10 with fail
          go_cut [10, 11] from 60 to 70 (fun v10 v11 W => ∃ al cl, v10 = .slice al P.length cl ∧ v11 = .int .i64 0 ∧ Ints W al P ∧ KN w g5 bz bn s zc ccs a W)
          case first =>
            refine wp_region_plan (fun U => U.cell? ⟨g5, 3, none⟩ = some (.slice (some ⟨s.bz, 0, none⟩) s.nz s.cz) ∧ U.cell? ⟨bn, cn, none⟩ = some (.int .i64 nd)) (.quiet [0, 1, 2, 3, 4, 5, 6] (.only 7 (.quiet [8, 9, 10, 11, 12] .done))) 99 (by kernel_rfl) (by kernel_rfl) ⟨cell_later (Below.refl _ _).drew c3, cell_later (Below.refl _ _).drew dn⟩ ?_
            intro W1 hWW hWe
            have bW : Below wc.heap.size wc W1 := by rw [hWe]; exact (Below.refl _ _).drew
            have X1 := K2.below bW
            replace c3 := cell_later bW c3; replace dn := cell_later bW dn
            clear hWe K2 bW
            simp only [wpPlan, inOrder, List.filterMap_cons, List.filterMap_nil, List.getElem?_cons_zero, List.getElem?_cons_succ]
            have q1 := fun z => (hold_ok (S0 := fun U => U.cell? ⟨g5, 3, none⟩ = some (.slice (some ⟨s.bz, 0, none⟩) s.nz s.cz) ∧ U.cell? ⟨bn, cn, none⟩ = some (.int .i64 nd)) hWW z).1
            have q2 := fun z => (hold_ok (S0 := fun U => U.cell? ⟨g5, 3, none⟩ = some (.slice (some ⟨s.bz, 0, none⟩) s.nz s.cz) ∧ U.cell? ⟨bn, cn, none⟩ = some (.int .i64 nd)) hWW z).2
            show wpQuiet _ _ _ _ (_ :: _ :: _ :: _ :: _ :: _ :: [_]) _
            repeat (go_big_quiet_step (fail))
            refine wpQuiet_nil ?_
            clear q1 q2 hWW
            show wpList _ _ _ [_] _ _
            go_wp2_with fail
            refine (HZO.out W1 X1.v.q).mono ?_
            rintro e W2 ⟨vo, rfl, hO, bC⟩
            obtain ⟨al, cl, rfl, _, _, _, hI⟩ := hO
            have X2 := X1.below bC
            replace c3 := cell_later bC c3; replace dn := cell_later bC dn
            have HI9 := Lib.hid hI
            clear X1 bC hI
            go_wp2
            refine ⟨hold_of (S0 := fun U => U.cell? ⟨g5, 3, none⟩ = some (.slice (some ⟨s.bz, 0, none⟩) s.nz s.cz) ∧ U.cell? ⟨bn, cn, none⟩ = some (.int .i64 nd)) ⟨c3, dn⟩, ?_⟩
            show wpQuiet _ _ _ _ (_ :: _ :: _ :: _ :: [_]) _
            repeat (go_big_quiet_step (fail))
            refine wpQuiet_nil ?_
            refine NoPanic.normal ?_
            clear c3 dn
            go_wp2
            go_meet
            case rel => exact ⟨al, cl, rfl, rfl, HI9.out, X2⟩
          case rest =>
            clear K2 c3 dn HZO HG
            obtain ⟨al, cl, rfl, rfl, hI, K3⟩ := hcut
            obtain ⟨m, hm⟩ : ∃ m, P.length = m := ⟨_, rfl⟩
            rw [hm] at hP6 ⊢
            have HPL := Lib.hid hm; have HIN := Lib.hid hI
            clear hm hI
            go_upto_block 2 with fail
            go_cut [12, 13, 14] from 73 to 104 (fun v12 v13 v14 W => ∃ t12 : Int, v12 = .int .i64 t12 ∧ ((∃ z : Nat, z < 3 ∧ P.find? (fun q => elg a false q.toNat) = some (z : Int) ∧ t12 = z) ∨ (P.find? (fun q => elg a false q.toNat) = none ∧ t12 = -1)) ∧ KN w g5 bz bn s zc ccs a W)
            case first =>
              go_wp2_with fail
              go_loopg [12, 13] m (fun gj v12 v13 wj => ∃ (j : Nat) (t12 : Int), j + gj = m ∧ v13 = .int .i64 j ∧ v12 = .int .i64 t12 ∧ ((∃ z : Nat, z < 3 ∧ P.find? (fun q => elg a false q.toNat) = some (z : Int) ∧ t12 = z) ∨ (t12 = -1 ∧ P.find? (fun q => elg a false q.toNat) = (P.drop j).find? fun q => elg a false q.toNat)) ∧ Ints wj al P ∧ KN w g5 bz bn s zc ccs a wj)
              case atStart => exact ⟨0, -1, by omega, rfl, rfl, .inr ⟨rfl, rfl⟩, HIN.out, K3⟩
              case round =>
                clear K3 HIN
                obtain ⟨j, t12, hj, rfl, rfl, hT, hI, K4⟩ := hrel
                have HIN := Lib.hid hI
                clear hI
                rcases hT with ⟨z, hz, hf, rfl⟩ | ⟨rfl, hf⟩
                · have HF := Lib.hid hf
                  have tz : decide ((z : Int) < 0) = false := by simp
                  clear hf
                  cases gk with
                  | zero =>
                    have hjm : ¬ j < m := by omega
                    clear hj
                    go_wp2
                    go_meet
                    case rel => exact ⟨(z : Int), rfl, .inl ⟨z, hz, HF.out, rfl⟩, K4⟩
                  | succ gj =>
                    have hjm : j < m := by omega
                    clear hj
                    go_wp2
                    go_meet
                    case rel => exact ⟨(z : Int), rfl, .inl ⟨z, hz, HF.out, rfl⟩, K4⟩
                · cases gk with
                  | zero =>
                    have hjm : ¬ j < m := by omega
                    rw [List.drop_eq_nil_of_le (by rw [HPL.out]; omega)] at hf
                    have HF := Lib.hid hf
                    clear hj hf
                    go_wp2
                    go_meet
                    case rel => exact ⟨-1, rfl, .inr ⟨HF.out, rfl⟩, K4⟩
                  | succ gj =>
                    have hjm : j < m := by omega
                    have HJ := Lib.hid hj
                    obtain ⟨q, hq⟩ := get_some HPL.out hjm
                    obtain ⟨z, hz3, rfl⟩ := HM.out q (List.mem_of_getElem? hq)
                    obtain ⟨vb, vo, hal, _, hcell⟩ := HIN.out (by rw [HPL.out]; omega)
                    subst hal
                    have dq := hcell j (by rw [HPL.out]; exact hjm)
                    rw [getD_of hq] at dq
                    have HF := Lib.hid (show P.find? (fun q => elg a false q.toNat) = if elg a false z then some (z : Int) else (P.drop (j + 1)).find? fun q => elg a false q.toNat by
                      rw [hf, drop_get hq, List.find?_cons]
                      show (match elg a false z with | true => _ | false => _) = _
                      cases elg a false z <;> rfl)
                    obtain ⟨N, hN⟩ : ∃ N, cntA a z = N := ⟨_, rfl⟩
                    obtain ⟨MN, hMN⟩ : ∃ N, (zn a z).mn = N := ⟨_, rfl⟩
                    obtain ⟨bb, hbb⟩ : ∃ b, elg a false z = b := ⟨_, rfl⟩
                    have hd : decide (MN < (N : Int)) = bb := by rw [← hbb, ← hN, ← hMN]; unfold elg; rw [if_neg (by decide)]
                    have HCN := Lib.hid (fun W (K : KN w g5 bz bn s zc ccs a W) => countP (.agg (s.cells a.bt a.hi).toArray) a z W ⟨s, zc, ccs, rfl, K.v⟩ K.V (by rw [K.S.nz]; exact hz3))
                    rw [hN] at HCN
                    have HMNC := Lib.hid (fun W (K : KN w g5 bz bn s zc ccs a W) => K.mn hz3)
                    rw [hMN] at HMNC
                    rw [hbb] at HF
                    clear hj hf hq hcell hN hMN hbb
                    have tz0 : decide ((0 : Int) ≤ (z : Int)) = true := by simp
                    have tz3 : decide ((z : Int) < 3) = true := by simp; omega
                    go_upto_region 18 with fail
                    clear dq
                    go_cut [103] from 87 to 103 (fun v103 W => v103 = .bool bb ∧ Ints W (some ⟨vb, vo, none⟩) P ∧ KN w g5 bz bn s zc ccs a W)
                    case first =>
                      have c18 := HMNC.out wr K4
                      refine wp_region_plan (fun U => Blk U g5 28 (s.cells a.bt a.hi) ∧ U.cell? ⟨bz, z * 4 + 3, none⟩ = some (.int .i64 MN)) (.quiet [0, 1, 2, 3, 4, 5, 6, 7, 8, 10, 11, 12, 13, 14] (.only 9 (.quiet [15, 16] .done))) 99 (by kernel_rfl) (by kernel_rfl) ⟨K4.x.later (Below.refl _ _).drew, cell_later (Below.refl _ _).drew c18⟩ ?_
                      intro W1 hWW hWe
                      have bW : Below wr.heap.size wr W1 := by rw [hWe]; exact (Below.refl _ _).drew
                      have X1 := K4.below bW
                      have HI1 := Lib.hid (HIN.out.below bW)
                      clear hWe K4 bW c18 HIN
                      simp only [wpPlan, inOrder, List.filterMap_cons, List.filterMap_nil, List.getElem?_cons_zero, List.getElem?_cons_succ]
                      have q1 := fun z' => (hold_ok (S0 := fun U => Blk U g5 28 (s.cells a.bt a.hi) ∧ U.cell? ⟨bz, z * 4 + 3, none⟩ = some (.int .i64 MN)) hWW z').1
                      have q2 := fun z' => (hold_ok (S0 := fun U => Blk U g5 28 (s.cells a.bt a.hi) ∧ U.cell? ⟨bz, z * 4 + 3, none⟩ = some (.int .i64 MN)) hWW z').2
                      show wpQuiet _ _ _ _ (_ :: _ :: _ :: _ :: _ :: _ :: _ :: _ :: _ :: _ :: _ :: _ :: _ :: [_]) _
                      repeat (go_big_quiet_step (fail))
                      refine ldQAW rfl infoA rfl rfl (fun U ⟨z, hz⟩ => by rw [hz]; exact q1 z) ?_
                      simp only [Act.put, List.setIfInBounds_toArray, List.set_cons_succ, List.set_cons_zero]
                      repeat (go_big_quiet_step (fail))
                      refine wpQuiet_nil ?_
                      clear q1 q2 hWW
                      show wpList _ _ _ [_] _ _
                      go_wp2_with fail
                      refine (HCN.out W1 X1).mono ?_
                      rintro e W2 ⟨rfl, bC⟩
                      have X2 := X1.below bC
                      have HI2 := Lib.hid (HI1.out.below bC)
                      have c2 := HMNC.out W2 X2
                      clear X1 bC HI1
                      go_wp2
                      refine ⟨hold_of (S0 := fun U => Blk U g5 28 (s.cells a.bt a.hi) ∧ U.cell? ⟨bz, z * 4 + 3, none⟩ = some (.int .i64 MN)) ⟨X2.x, c2⟩, ?_⟩
                      clear c2
                      show wpQuiet _ _ _ _ (_ :: [_]) _
                      repeat (go_big_quiet_step (fail))
                      refine wpQuiet_nil ?_
                      refine NoPanic.normal ?_
                      go_wp2
                      go_meet
                      case rel => exact ⟨by first | rfl | rw [hd] | simp [hd], HI2.out, X2⟩
                    case rest =>
                      clear K4 HIN HCN HMNC hd
                      obtain ⟨rfl, hI5, K5⟩ := hcut
                      have HI5 := Lib.hid hI5
                      clear hI5
                      cases bb with
                      | true =>
                        go_wp2
                        go_roundg gj
                        case rel => exact ⟨j + 1, (z : Int), by have := HJ.out; omega, by go_num, rfl, .inl ⟨z, hz3, HF.out, rfl⟩, HI5.out, K5⟩
                        case measure => omega
                      | false =>
                        go_wp2
                        go_roundg gj
                        case rel => exact ⟨j + 1, -1, by have := HJ.out; omega, by go_num, rfl, .inr ⟨rfl, HF.out⟩, HI5.out, K5⟩
                        case measure => omega
            case rest =>
              clear K3 HIN HM
              obtain ⟨t12, rfl, hT, K4⟩ := hcut
              have HT := Lib.hid hT
              have HAL := Lib.hid (allocA (.agg (s.cells a.bt a.hi).toArray) a cn kn false wc ⟨s, zc, ccs, rfl, K4.v⟩ K4.V (by rw [K4.S.nc]; exact hc3))
              clear hT
              go_wp2_with ((with_reducible refine lda ?_ K4.x ?_); (focus rfl))
              refine HAL.out.mono ?_
              rintro e w7 (⟨z, _, x', d, hp, hz3, rfl, ⟨s7, zc7, ccs7, rfl, A7, F7⟩, hless, b7, _⟩ | ⟨hp, rfl, b7⟩)
              · have ht : t12 = (z : Int) := by
                  rw [HPK.out] at hp
                  rcases HT.out with ⟨z', _, hf, e⟩ | ⟨hf, _⟩
                  · rw [hp] at hf
                    cases hf
                    exact e
                  · rw [hp] at hf; cases hf
                subst ht
                have K7 := K4.below b7
                have hz := Blk.new w7 28 #[.slice none 0 0, .int .i64 0, .int .i64 0, .slice none 0 0, .slice none 0 0] nilA rfl
                have hin7 := K4.V.fr_in (by rw [K4.S.nz]; rw [K4.S.nz] at hz3; exact hz3) hless.m
                have hin7' : inZ (zn d z) x' := hless.s.inZ.2 hin7
                have hS7 := K4.S.of hless.s
                have HNF := Lib.hid (show ¬ Fr d z x' from fun h => ((hless.f z x').1 h).2 ⟨rfl, rfl⟩)
                have HFR := Lib.hid hless.m
                have HZN := Lib.hid (fun W (K : KN w g5 bz bn s zc ccs a W) => zoneP (.agg (s.cells a.bt a.hi).toArray) a z x' W ⟨s, zc, ccs, rfl, K.v⟩ K.V hz3 hin7)
                have HIA := Lib.hid (fun W (K : KN w g5 bz bn s zc ccs a W) => isfreeP (.agg (s.cells a.bt a.hi).toArray) a z x' W ⟨s, zc, ccs, rfl, K.v⟩ K.V hz3 hin7)
                have HID := Lib.hid (fun W (A : AW W s7 zc7 ccs7 d) => isfreeP (.agg (s7.cells d.bt d.hi).toArray) d z x' W ⟨s7, zc7, ccs7, rfl, A⟩ hless.v (by rw [hS7.nz]; rw [K4.S.nz] at hz3; exact hz3) hin7')
                have HVD := Lib.hid hless.v; have HSD := Lib.hid hS7
                have e7 : s7.nz = 3 := by rw [← A7.ez]; exact hS7.nz
                have n7 : s7.nn = 3 := by rw [← A7.en, hS7.nodes]; rfl
                clear K4 b7 hp HAL hless hin7 hin7' hS7 F7 hz3
                go_upto_region 21 with ((with_reducible refine stA (s := s7) (bt := d.bt) (hi := d.hi) ?_ ?_ hz rfl ?_); (focus rfl); (focus rfl); intro w8 hB8 hg8)
                have b8 : Below w7.heap.size w7 w8 := (below_box w7 (.cells #[.slice none 0 0, .int .i64 0, .int .i64 0, .slice none 0 0, .slice none 0 0] 28)).grown hg8 (below_box w7 _).size (fun k hk => by cases hk; exact Nat.le_refl _)
                have K8 := K7.below b8
                have A8 := A7.below b8
                have n15 : w7.heap.size ≠ g5 := by have := K7.x.lt; omega
                obtain ⟨g15, hg15⟩ : ∃ g, w7.heap.size = g := ⟨_, rfl⟩
                rw [hg15] at hB8 n15 ⊢
                clear K7 A7 hz hg8 b8 hg15
                have tz0 : decide ((0 : Int) ≤ (z : Int)) = true := by simp
                go_wp2_with ((with_reducible refine lda ?_ K8.x ?_); (focus rfl))
                refine (HZN.out w8 K8).mono ?_
                rintro e w9 ⟨rfl, b9⟩
                have K9 := K8.below b9
                have A9 := A8.below b9
                have hB9 := hB8.later b9
                have c9a : w9.cell? ⟨g15, 3, none⟩ = some (.slice (some ⟨s7.bz, 0, none⟩) 3 s7.cz) := by rw [hB9.cell]; show some (Value.slice (some ⟨s7.bz, 0, none⟩) s7.nz s7.cz) = _; rw [e7]
                have c9b : w9.cell? ⟨g15, 0, none⟩ = some (.slice s7.an 3 s7.cn) := by rw [hB9.cell]; show some (Value.slice s7.an s7.nn s7.cn) = _; rw [n7]
                clear K8 A8 hB8 b9 HZN tz0 e7 n7
                go_wp2_with ((with_reducible refine ldaW ?_ ?_ hB9 ?_); (focus rfl); (focus rfl))
                refine (HID.out w9 A9).mono ?_
                rintro e w10 ⟨⟨f1, rfl, hf1⟩, b10⟩
                have hbf : f1 = false := by
                  cases f1 with
                  | false => rfl
                  | true => exact absurd (hf1.1 rfl) HNF.out
                subst hbf
                have K10 := K9.below b10
                have A10 := A9.below b10
                have hB10 := hB9.later b10
                clear K9 A9 hB9 b10 HID hf1 c9a c9b
                go_wp2_with ((with_reducible refine ldaW ?_ ?_ K10.x ?_); (focus rfl); (focus rfl))
                refine (HIA.out w10 K10).mono ?_
                rintro e w11 ⟨⟨f2, rfl, hf2⟩, b11⟩
                have hbf : f2 = true := hf2.2 HFR.out
                subst hbf
                have K11 := K10.below b11
                have A11 := A10.below b11
                have hB11 := hB10.later b11
                clear K10 A10 hB10 b11 HIA hf2
                go_wp2_with first | ((with_reducible refine lda ?_ hB11 ?_); (focus rfl)) | ((with_reducible refine stA (s := s7) (bt := d.bt) (hi := d.hi) ?_ ?_ K11.x rfl ?_); (focus rfl); (focus rfl); intro w12 hB12 hg12)
                have K12 := K11.aput hB12 A11 hg12 HVD.out HSD.out
                clear K11 A11 hB11 hB12 hg12
                go_wp2
                go_roundg gg
                case rel => exact ⟨i + 1, s7, zc7, ccs7, d, by have := HI.out; omega, by go_num, K12⟩
                case measure => omega
              · have ht : t12 = -1 := by
                  rw [HPK.out] at hp
                  rcases HT.out with ⟨z', _, hf, e⟩ | ⟨_, e⟩
                  · rw [hp] at hf; cases hf
                  · exact e
                subst ht
                have K7 := K4.below b7
                have hz := Blk.new w7 28 #[.slice none 0 0, .int .i64 0, .int .i64 0, .slice none 0 0, .slice none 0 0] nilA rfl
                clear K4 b7 hp HAL
                go_upto_region 21 with ((with_reducible refine stN ?_ ?_ hz rfl ?_); (focus rfl); (focus rfl); intro w8 hB8 hg8)
                have b8 : Below w7.heap.size w7 w8 := (below_box w7 (.cells #[.slice none 0 0, .int .i64 0, .int .i64 0, .slice none 0 0, .slice none 0 0] 28)).grown hg8 (below_box w7 _).size (fun k hk => by cases hk; exact Nat.le_refl _)
                have K8 := K7.below b8
                clear K7 hz hB8 hg8 b8
                go_wp2
                go_roundg gg
                case rel => exact ⟨i + 1, s, zc, ccs, a, by have := HI.out; omega, by go_num, K8⟩
                case measure => omega
  · have t40 : decide ((40 : Int) < (n : Int)) = true := by simp; omega
    go_wp2_with fail
    refine (dslabbed w4).mono ?_
    rintro e w5 ⟨rfl, b5⟩
    have B5 := below_then K4.b b5
    clear K4 b5
    go_wp2
    go_ret
    exact ⟨rfl, B5⟩
end Go.Proofs.YtdddkfpcbfgocaaGreat
