/- Walks: mixed page blocks, of the document; the law. -/
import Derived.Test.YtkiiifmofmbniaaDoorN6
import Derived.Test.YtkiiifmofmbniaaDoorN5
import Derived.Test.YtkiiifmofmbniaaDoorM18
namespace Go.Mob
open Go.Can
theorem take_any {l : List Int} {q : Int → Bool} {i m : Nat} {x : Int} (h : l[i + m]? = some x) : ((l.drop i).take (m + 1)).any q = (((l.drop i).take m).any q || q x) := by
  have : (l.drop i)[m]? = some x := by rw [List.getElem?_drop]; exact h
  rw [List.take_add_one, this, List.any_append]
  simp
theorem mixR_le {ty l : List Int} : ∀ {n b : Nat}, mixR ty l n b ≤ n
  | 0, _ => Nat.le_refl _
  | n + 1, b => by
    have := mixR_le (ty := ty) (l := l) (n := n) (b := b + 1)
    unfold mixR
    split <;> omega
end Go.Mob
namespace Go.Proofs.YtkiiifmofmbniaaDoor
open Go.RowKit Go.Over Go.Mob Go.Can Go.Seg Go.Grow
set_option maxRecDepth 100000 in set_option maxHeartbeats 3200000 in
theorem refMixed_31 (v : Value) (p : P) (a : Option Addr) (l : List Int) (n c : Nat) (w : World) (H : Rpv w v p) (hm : lenB p) (HI : Ints w a l) (hn : l.length = n) (hn1 : n ≤ 1000) :
    Calls Tryd.prog 31 #[v, .slice a n c] w fun e w' => e = .returned (.tuple #[.int .i64 (mixedP p l).1, .int .i64 (mixedP p l).2]) ∧ Below w.heap.size w w' := by
  obtain ⟨R, hR⟩ : ∃ R, mixedP p l = R := ⟨_, rfl⟩
  rw [hR]
  rw [mixed_ref] at hR
  have HR := Lib.hid hR; have HN := Lib.hid hn
  clear hR hn
  obtain ⟨cs, rfl, hV⟩ := H
  have X0 := PX.new hV
  clear hV
  go_enter Tryd.func31, Tryd.ntmps31
  go_upto_region 1 with fail
  obtain ⟨w1, hw1⟩ : ∃ W, W = w.alloc (.cells cs.toArray 26) := ⟨_, rfl⟩
  have X1 : PX w w.heap.size cs p w1 := by rw [hw1]; exact X0
  rw [← hw1]
  obtain ⟨g, hg0⟩ : ∃ g, w.heap.size = g := ⟨_, rfl⟩
  rw [hg0] at X1 ⊢
  clear hw1 X0 hg0
  have HI1 := HI.below X1.b
  go_wp2_with ((with_reducible refine ld ?_ X1.x X1.v.len ?_); (focus rfl))
  refine (refCheck_15 _ p w1 X1.rpv hm).mono ?_
  rintro e w2 ⟨rfl, b2⟩
  have X2 := X1.below b2
  have HI2 := HI1.below b2
  clear X1 b2 HI1
  obtain ⟨k, hc⟩ : ∃ c, chk p = c := ⟨_, rfl⟩
  rw [hc]
  by_cases hc0 : k = 0
  · subst hc0
    have HR2 := Lib.hid (show R = if l.length ≠ 16 * p.ty.length then (0, 3) else if l.any (fun t => decide (t < -1) || decide (3 ≤ t)) = true then (0, 1) else (((mixR p.ty l p.ty.length 0 : Nat) : Int), 0) by rw [← HR.out, if_neg (by rw [hc]; simp)])
    have HV := Lib.hid (vd_of hc)
    clear HR hc
    obtain ⟨aT, nT, cT, hT, hnT, _, _, _, hIT⟩ := X2.v.types X2.x
    have hnT16 : nT ≤ 16 := by rw [← hnT]; exact (rng_of HV.out.l.rng).2.2.2.1
    have HNT := Lib.hid hnT
    clear hnT
    by_cases hln : n = 16 * nT
    · have t0 : ((n : Int) != 16 * (nT : Int)) = false := by simp; omega
      have HR3 := Lib.hid (show R = if l.any (fun t => decide (t < -1) || decide (3 ≤ t)) = true then (0, 1) else (((mixR p.ty l nT 0 : Nat) : Int), 0) by rw [HR2.out, if_neg (by rw [HN.out, HNT.out]; simpa using hln), HNT.out])
      obtain ⟨q, hq⟩ : ∃ q : Int → Bool, (fun t : Int => decide (t < -1) || decide (3 ≤ t)) = q := ⟨_, rfl⟩
      rw [hq] at HR3
      have HQ := Lib.hid hq
      have HLN := Lib.hid hln
      clear hq HR2 hln
      go_wp2
      go_loopg [7] n (fun gg v7 wr => ∃ i : Nat, i + gg = n ∧ v7 = .int .i64 i ∧ l.any q = (l.drop i).any q ∧ w2 = wr)
      case atStart => exact ⟨0, by omega, rfl, by rw [List.drop_zero], rfl⟩
      case round =>
        obtain ⟨i, hg, rfl, hA, rfl⟩ := hrel
        cases gk with
        | zero =>
          obtain rfl : i = n := by omega
          have HR4 := Lib.hid (show R = (((mixR p.ty l nT 0 : Nat) : Int), 0) by rw [HR3.out, if_neg]; rw [hA, List.drop_eq_nil_of_le (by rw [HN.out]; omega)]; simp)
          have hin : ¬ i < i := by omega
          clear hg hA HR3
          go_wp2
          go_loopg [8, 9] nT (fun gg v8 v9 wr => ∃ (b S : Nat), b + gg = nT ∧ v9 = .int .i64 b ∧ v8 = .int .i64 S ∧ S ≤ b ∧ mixR p.ty l nT 0 = S + mixR p.ty l gg b ∧ PX w g cs p wr ∧ Ints wr a l)
          case atStart => exact ⟨0, 0, by omega, rfl, rfl, Nat.le_refl _, by omega, X2, HI2⟩
          case round =>
            clear X2 HI2 hT hIT
            obtain ⟨b, S, hg, rfl, rfl, hSb, hM, X3, HI3⟩ := hrel
            obtain ⟨aT, nT', cT, hT, hnT, _, _, _, hIT⟩ := X3.v.types X3.x
            obtain rfl : nT' = nT := by rw [← hnT]; exact HNT.out
            clear hnT
            have HM := Lib.hid hM
            clear hM
            cases gk with
            | zero =>
              have hb : ¬ b < nT' := by omega
              have HF := Lib.hid (show R = ((S : Int), 0) by rw [HR4.out, HM.out]; rfl)
              clear hg
              go_wp2
              go_ret2
              exact ⟨ret_ii (by rw [HF.out]) (by rw [HF.out]), X3.b⟩
            | succ gg =>
              have hb : b < nT' := by omega
              have HG := Lib.hid hg
              have HM2 := Lib.hid (show mixR p.ty l nT' 0 = S + ((if mix1 p.ty l b = true then 1 else 0) + mixR p.ty l gg (b + 1)) from HM.out)
              obtain ⟨y, hy⟩ := get_some HNT.out hb
              have hyd : p.ty.getD b 0 = y := by rw [List.getD_eq_getElem?_getD, hy]; rfl
              have HYD := Lib.hid hyd; have HY := Lib.hid hy
              clear hg hyd hy
              go_wp2
              clear hT hIT
              go_loopg [10, 11] 16 (fun g2 v10 v11 wr => ∃ (m : Nat) (D : Bool), m + g2 = 16 ∧ v11 = .int .i64 ((16 * b + m : Nat) : Int) ∧ v10 = .int .i64 (if D = true then 1 else 0) ∧ D = ((l.drop (16 * b)).take m).any (oth p.ty b) ∧ PX w g cs p wr ∧ Ints wr a l)
              case atStart => exact ⟨0, false, by omega, by first | rfl | go_num, by rfl, by simp, X3, HI3⟩
              case round =>
                clear X3 HI3
                obtain ⟨m, D, hm2, rfl, rfl, hD, X4, HI4⟩ := hrel
                obtain ⟨xq, hxq⟩ : ∃ x, 16 * b + m = x := ⟨_, rfl⟩
                have HD := Lib.hid hD
                clear hD
                cases gk with
                | zero =>
                  have tq : decide ((xq : Int) < 16 * (b : Int) + 16) = false := by simp; omega
                  have hDD : mix1 p.ty l b = D := by unfold mix1; rw [HD.out, show m = 16 by omega]
                  have HMD := Lib.hid hDD
                  rw [hxq]
                  clear hm2 hxq hDD
                  have hS1 : S ≤ 16 := by omega
                  cases D with
                  | true =>
                    have HM3 := Lib.hid (show mixR p.ty l nT' 0 = (S + 1) + mixR p.ty l gg (b + 1) by rw [HM2.out, HMD.out, if_pos rfl]; omega)
                    go_wp2
                    go_roundg gg
                    case rel => exact ⟨b + 1, S + 1, by have := HG.out; omega, by go_num, by go_num, by omega, HM3.out, X4, HI4⟩
                    case measure => omega
                  | false =>
                    have HM3 := Lib.hid (show mixR p.ty l nT' 0 = S + mixR p.ty l gg (b + 1) by rw [HM2.out, HMD.out, if_neg (by decide)]; omega)
                    go_wp2
                    go_roundg gg
                    case rel => exact ⟨b + 1, S, by have := HG.out; omega, by go_num, by first | rfl | go_num, by omega, HM3.out, X4, HI4⟩
                    case measure => omega
                | succ g2 =>
                  have hm16 : m < 16 := by omega
                  have tq : decide ((xq : Int) < 16 * (b : Int) + 16) = true := by simp; omega
                  have hxn : xq < i := by have := HLN.out; omega
                  obtain ⟨x, hx⟩ := get_some HN.out hxn
                  obtain ⟨bo, off, rfl, cx⟩ := HI4.at hx
                  have HDN := Lib.hid (show ((l.drop (16 * b)).take (m + 1)).any (oth p.ty b) = (D || oth p.ty b x) by rw [HD.out]; exact take_any (by rw [hxq]; exact hx))
                  obtain ⟨aT, nT2, cT, hT, hnT, _, _, _, hIT⟩ := X4.v.types X4.x
                  obtain rfl : nT2 = nT' := by rw [← hnT]; exact HNT.out
                  obtain ⟨bT, oT, rfl, cy⟩ := hIT.at HY.out
                  have HMM := Lib.hid hm2; have HXQ := Lib.hid hxq
                  have hD01 : (0 : Int) ≤ (if D = true then 1 else 0) := by split <;> decide
                  rw [hxq]
                  clear hm2 hxq hx hnT hIT
                  obtain ⟨dv, hdv⟩ : ∃ v : Int, (if D = true then (1 : Int) else 0) = v := ⟨_, rfl⟩
                  rw [hdv]
                  have HDV := Lib.hid hdv
                  clear hdv hD01
                  by_cases hx0 : 0 ≤ x
                  · have tx0 : decide ((0 : Int) ≤ x) = true := by simpa using hx0
                    by_cases hxy : x = y
                    · have txy : (x != y) = false := by simp [hxy]
                      have HDD := Lib.hid (show D = ((l.drop (16 * b)).take (m + 1)).any (oth p.ty b) by
                        rw [HDN.out]; unfold oth; rw [HYD.out, hxy]; simp)
                      clear hx0 hxy
                      go_wp2_with fail
                      refine wp_region_over (by kernel_rfl) (by kernel_rfl) ?_
                      have z0 := fun u => over_cell cx u
                      have z1 := fun u => over_cell hT u
                      have z2 := fun u => over_cell cy u
                      repeat (go_big_quiet_step (fail))
                      refine wpQuiet_nil ?_
                      rintro _ ⟨u, rfl⟩
                      have X5 := X4.below (below_over wr u)
                      have HI5 := HI4.below (below_over wr u)
                      clear z0 z1 z2 X4 HI4 cx hT cy
                      go_wp2
                      go_roundg g2
                      case rel => exact ⟨m + 1, D, by have := HMM.out; omega, by have := HXQ.out; rw [show 16 * b + (m + 1) = xq + 1 by omega]; go_num, by rw [HDV.out], HDD.out, X5, HI5⟩
                      case measure => omega
                    · have txy : (x != y) = true := by simpa using hxy
                      have HDD := Lib.hid (show true = ((l.drop (16 * b)).take (m + 1)).any (oth p.ty b) by
                        rw [HDN.out]; unfold oth; rw [HYD.out, decide_eq_true ⟨hx0, hxy⟩]; simp)
                      clear hx0 hxy
                      go_wp2_with fail
                      refine wp_region_over (by kernel_rfl) (by kernel_rfl) ?_
                      have z0 := fun u => over_cell cx u
                      have z1 := fun u => over_cell hT u
                      have z2 := fun u => over_cell cy u
                      repeat (go_big_quiet_step (fail))
                      refine wpQuiet_nil ?_
                      rintro _ ⟨u, rfl⟩
                      have X5 := X4.below (below_over wr u)
                      have HI5 := HI4.below (below_over wr u)
                      clear z0 z1 z2 X4 HI4 cx hT cy
                      go_wp2
                      go_roundg g2
                      case rel => exact ⟨m + 1, true, by have := HMM.out; omega, by have := HXQ.out; rw [show 16 * b + (m + 1) = xq + 1 by omega]; go_num, by rfl, HDD.out, X5, HI5⟩
                      case measure => omega
                  · have tx0 : decide ((0 : Int) ≤ x) = false := by simpa using hx0
                    have HDD := Lib.hid (show D = ((l.drop (16 * b)).take (m + 1)).any (oth p.ty b) by
                      rw [HDN.out]; unfold oth; rw [decide_eq_false (fun h => hx0 h.1)]; simp)
                    clear hx0
                    go_wp2_with fail
                    refine wp_region_over (by kernel_rfl) (by kernel_rfl) ?_
                    have z0 := fun u => over_cell cx u
                    have z1 := fun u => over_cell hT u
                    have z2 := fun u => over_cell cy u
                    repeat (go_big_quiet_step (fail))
                    refine wpQuiet_nil ?_
                    rintro _ ⟨u, rfl⟩
                    have X5 := X4.below (below_over wr u)
                    have HI5 := HI4.below (below_over wr u)
                    clear z0 z1 z2 X4 HI4 cx hT cy
                    go_wp2
                    go_roundg g2
                    case rel => exact ⟨m + 1, D, by have := HMM.out; omega, by have := HXQ.out; rw [show 16 * b + (m + 1) = xq + 1 by omega]; go_num, by rw [HDV.out], HDD.out, X5, HI5⟩
                    case measure => omega
        | succ gg =>
          have hin : i < n := by omega
          obtain ⟨x, hx⟩ := get_some HN.out hin
          obtain ⟨b, off, rfl, cx⟩ := HI2.at hx
          have HA := Lib.hid (show l.any q = (q x || (l.drop (i + 1)).any q) by rw [hA, any_step hx])
          have HG := Lib.hid hg
          clear hg hA hx
          by_cases hx1 : x < -1
          · have t1 : decide (x < -1) = true := by simpa using hx1
            have HF := Lib.hid (show R = (0, 1) by rw [HR3.out, if_pos]; rw [HA.out, ← HQ.out]; simp [hx1])
            clear hx1
            go_wp2
            go_ret2
            exact ⟨ret_ii (by rw [HF.out]) (by rw [HF.out]), X2.b⟩
          · have t1 : decide (x < -1) = false := by simpa using hx1
            by_cases hx3 : 3 ≤ x
            · have t3 : decide (3 ≤ x) = true := by simpa using hx3
              have HF := Lib.hid (show R = (0, 1) by rw [HR3.out, if_pos]; rw [HA.out, ← HQ.out]; simp [hx3])
              clear hx1 hx3
              go_wp2
              go_ret2
              exact ⟨ret_ii (by rw [HF.out]) (by rw [HF.out]), X2.b⟩
            · have t3 : decide (3 ≤ x) = false := by simpa using hx3
              have hqx : q x = false := by rw [← HQ.out]; show (decide (x < -1) || decide (3 ≤ x)) = false; rw [t1, t3]; rfl
              have HA2 := Lib.hid (show l.any q = (l.drop (i + 1)).any q by rw [HA.out, hqx]; rfl)
              clear hqx
              clear hx1 hx3
              go_wp2
              go_roundg gg
              case rel => exact ⟨i + 1, by have := HG.out; omega, by go_num, HA2.out, rfl⟩
              case measure => omega
    · have t0 : ((n : Int) != 16 * (nT : Int)) = true := by simp; omega
      have HF := Lib.hid (show R = (0, 3) by rw [HR2.out, if_pos (by rw [HN.out, HNT.out]; exact hln)])
      clear hln
      go_wp2
      go_ret2
      exact ⟨ret_ii (by rw [HF.out]) (by rw [HF.out]), X2.b⟩
  · have HF := Lib.hid (show R = (0, k) by rw [← HR.out, if_pos (by rw [hc]; exact hc0), hc])
    have t0 : (k != 0) = true := by simpa using hc0
    go_wp2
    go_ret2
    exact ⟨ret_ii (by rw [HF.out]) (by rw [HF.out]), X2.b⟩
end Go.Proofs.YtkiiifmofmbniaaDoor
