/- Walks: the check of a zone, of the reference. -/
import Derived.Test.YtneibbefkjjlnaaZone5
namespace Go.Proofs.Ytneibbefkjjlnaa
open Go.RowKit Go.Over Go.Bud Go.Grow
theorem mem_cov {x : Int} : ∀ {n : Nat} {f : Int}, x ∈ cov f n ↔ f ≤ x ∧ x < f + (n : Int)
  | 0, f => by simp [cov]
  | n + 1, f => by
    show x ∈ f :: cov (f + 1) n ↔ _
    rw [List.mem_cons, mem_cov]
    omega
theorem covL_in {st ct x : Int} {k : Nat} {l : List Int} (h : Val st ct k false 0 l) (r1 : 0 ≤ st) (r4 : ct ≤ 256 - st) (hx : x ∈ covL k l) : 0 ≤ x ∧ x < 256 := by
  obtain ⟨f, hf, hm⟩ := List.mem_flatMap.1 hx
  have h1 := mem_cov.1 hm
  have h2 := ins_range (h.ins f hf) r1 r4
  have h3 : pw k = ((2 ^ k : Nat) : Int) := rfl
  omega
theorem adj_step {st ct : Int} {k : Nat} {l : List Int} {j : Nat} {a b : Int} (ha : l[j]? = some a) (hb : l[j + 1]? = some b) : adj st ct k (l.drop j) = ((decide (b = a + pw k) && insideB st ct a (k + 1)) || adj st ct k (l.drop (j + 1))) := by
  rw [drop_get ha, drop_get hb]; rfl
theorem adj_end {st ct : Int} {k : Nat} {l : List Int} {j : Nat} (h : l.length ≤ j + 1) : adj st ct k (l.drop j) = false := by
  match hd : l.drop j with
  | [] => rfl
  | [_] => rfl
  | _ :: _ :: _ => have := congrArg List.length hd; simp at this; omega
theorem chk_range {nd kd st ct mn : Int} {L : List (List Int)} (h : rangesB nd kd st ct mn = false) : chk nd kd st ct mn L = 2 := by unfold chk; rw [if_pos h]
theorem chk_le {nd kd st ct mn : Int} {L : List (List Int)} (h : rangesB nd kd st ct mn = true) (h2 : le st ct 0 L ≠ 0) : chk nd kd st ct mn L = le st ct 0 L := by unfold chk; rw [if_neg (by simp [h]), if_pos h2]
theorem chk_dup {nd kd st ct mn : Int} {L : List (List Int)} (h : rangesB nd kd st ct mn = true) (h2 : le st ct 0 L = 0) (h3 : dup (covA 0 L) = true) : chk nd kd st ct mn L = 7 := by unfold chk; rw [if_neg (by simp [h]), if_neg (by simp [h2]), if_pos h3]
theorem chk_st {nd kd st ct mn : Int} {L : List (List Int)} (h : rangesB nd kd st ct mn = true) (h2 : le st ct 0 L = 0) (h3 : dup (covA 0 L) = false) : chk nd kd st ct mn L = if stA st ct 4 0 L = true then 11 else 0 := by unfold chk; rw [if_neg (by simp [h]), if_neg (by simp [h2]), if_neg (by simp [h3])]
theorem ranges_r {nd kd st ct mn : Int} (h : rangesB nd kd st ct mn = true) : 0 ≤ st ∧ st < 256 ∧ 1 ≤ ct ∧ ct ≤ 256 - st := by
  unfold rangesB at h
  rw [decide_eq_true_eq] at h
  exact ⟨h.2.2.2.1, h.2.2.2.2.1, h.2.2.2.2.2.1, h.2.2.2.2.2.2.1⟩

set_option maxRecDepth 100000 in set_option maxHeartbeats 3200000 in
theorem check_32 (nd kd st ct mn : Int) (a0 a1 a2 a3 a4 : Option Addr) (l0 l1 l2 l3 l4 : List Int) (n0 n1 n2 n3 n4 c0 c1 c2 c3 c4 : Nat) (w : World) (i0 : -9223372036854775808 ≤ ct) (i1 : ct ≤ 9223372036854775807) (i2 : -9223372036854775808 ≤ st) (i3 : st ≤ 9223372036854775807) (H0 : Ints w a0 l0) (H1 : Ints w a1 l1) (H2 : Ints w a2 l2) (H3 : Ints w a3 l3) (H4 : Ints w a4 l4) (h0 : l0.length = n0) (h1 : l1.length = n1) (h2 : l2.length = n2) (h3 : l3.length = n3) (h4 : l4.length = n4) (m0 : n0 ≤ maxLen) (m1 : n1 ≤ maxLen) (m2 : n2 ≤ maxLen) (m3 : n3 ≤ maxLen) (m4 : n4 ≤ maxLen) :
    Calls Try.prog 32 #[.agg #[.int .i64 nd, .int .i64 kd, .int .i64 st, .int .i64 ct, .int .i64 mn, .slice a0 n0 c0, .slice a1 n1 c1, .slice a2 n2 c2, .slice a3 n3 c3, .slice a4 n4 c4]] w fun e w' => e = .returned (.int .i64 (chk nd kd st ct mn [l0, l1, l2, l3, l4])) ∧ Below w.heap.size w w' := by
  have B1 := below_box w (.cells #[.int .i64 nd, .int .i64 kd, .int .i64 st, .int .i64 ct, .int .i64 mn, .slice a0 n0 c0, .slice a1 n1 c1, .slice a2 n2 c2, .slice a3 n3 c3, .slice a4 n4 c4] 44)
  have z0 : (w.alloc (.cells #[.int .i64 nd, .int .i64 kd, .int .i64 st, .int .i64 ct, .int .i64 mn, .slice a0 n0 c0, .slice a1 n1 c1, .slice a2 n2 c2, .slice a3 n3 c3, .slice a4 n4 c4] 44)).cell? ⟨w.heap.size, 0, none⟩ = some (.int .i64 nd) := zcell w _ _ 0
  have z1 : (w.alloc (.cells #[.int .i64 nd, .int .i64 kd, .int .i64 st, .int .i64 ct, .int .i64 mn, .slice a0 n0 c0, .slice a1 n1 c1, .slice a2 n2 c2, .slice a3 n3 c3, .slice a4 n4 c4] 44)).cell? ⟨w.heap.size, 1, none⟩ = some (.int .i64 kd) := zcell w _ _ 1
  have z2 : (w.alloc (.cells #[.int .i64 nd, .int .i64 kd, .int .i64 st, .int .i64 ct, .int .i64 mn, .slice a0 n0 c0, .slice a1 n1 c1, .slice a2 n2 c2, .slice a3 n3 c3, .slice a4 n4 c4] 44)).cell? ⟨w.heap.size, 2, none⟩ = some (.int .i64 st) := zcell w _ _ 2
  have z3 : (w.alloc (.cells #[.int .i64 nd, .int .i64 kd, .int .i64 st, .int .i64 ct, .int .i64 mn, .slice a0 n0 c0, .slice a1 n1 c1, .slice a2 n2 c2, .slice a3 n3 c3, .slice a4 n4 c4] 44)).cell? ⟨w.heap.size, 3, none⟩ = some (.int .i64 ct) := zcell w _ _ 3
  have z4 : (w.alloc (.cells #[.int .i64 nd, .int .i64 kd, .int .i64 st, .int .i64 ct, .int .i64 mn, .slice a0 n0 c0, .slice a1 n1 c1, .slice a2 n2 c2, .slice a3 n3 c3, .slice a4 n4 c4] 44)).cell? ⟨w.heap.size, 4, none⟩ = some (.int .i64 mn) := zcell w _ _ 4
  have z5 : (w.alloc (.cells #[.int .i64 nd, .int .i64 kd, .int .i64 st, .int .i64 ct, .int .i64 mn, .slice a0 n0 c0, .slice a1 n1 c1, .slice a2 n2 c2, .slice a3 n3 c3, .slice a4 n4 c4] 44)).cell? ⟨w.heap.size, 5, none⟩ = some (.slice a0 n0 c0) := zcell w _ _ 5
  have z6 : (w.alloc (.cells #[.int .i64 nd, .int .i64 kd, .int .i64 st, .int .i64 ct, .int .i64 mn, .slice a0 n0 c0, .slice a1 n1 c1, .slice a2 n2 c2, .slice a3 n3 c3, .slice a4 n4 c4] 44)).cell? ⟨w.heap.size, 6, none⟩ = some (.slice a1 n1 c1) := zcell w _ _ 6
  have z7 : (w.alloc (.cells #[.int .i64 nd, .int .i64 kd, .int .i64 st, .int .i64 ct, .int .i64 mn, .slice a0 n0 c0, .slice a1 n1 c1, .slice a2 n2 c2, .slice a3 n3 c3, .slice a4 n4 c4] 44)).cell? ⟨w.heap.size, 7, none⟩ = some (.slice a2 n2 c2) := zcell w _ _ 7
  have z8 : (w.alloc (.cells #[.int .i64 nd, .int .i64 kd, .int .i64 st, .int .i64 ct, .int .i64 mn, .slice a0 n0 c0, .slice a1 n1 c1, .slice a2 n2 c2, .slice a3 n3 c3, .slice a4 n4 c4] 44)).cell? ⟨w.heap.size, 8, none⟩ = some (.slice a3 n3 c3) := zcell w _ _ 8
  have z9 : (w.alloc (.cells #[.int .i64 nd, .int .i64 kd, .int .i64 st, .int .i64 ct, .int .i64 mn, .slice a0 n0 c0, .slice a1 n1 c1, .slice a2 n2 c2, .slice a3 n3 c3, .slice a4 n4 c4] 44)).cell? ⟨w.heap.size, 9, none⟩ = some (.slice a4 n4 c4) := zcell w _ _ 9
  obtain ⟨w1, hw1⟩ : ∃ W, W = w.alloc (.cells #[.int .i64 nd, .int .i64 kd, .int .i64 st, .int .i64 ct, .int .i64 mn, .slice a0 n0 c0, .slice a1 n1 c1, .slice a2 n2 c2, .slice a3 n3 c3, .slice a4 n4 c4] 44) := ⟨_, rfl⟩
  rw [← hw1] at B1 z0 z1 z2 z3 z4 z5 z6 z7 z8 z9
  have Z0 := Lib.hid z0
  have Z1 := Lib.hid z1
  have Z2 := Lib.hid z2
  have Z3 := Lib.hid z3
  have Z4 := Lib.hid z4
  have Z5 := Lib.hid z5
  have Z6 := Lib.hid z6
  have Z7 := Lib.hid z7
  have Z8 := Lib.hid z8
  have Z9 := Lib.hid z9
  have G0 := H0.below B1
  have G1 := H1.below B1
  have G2 := H2.below B1
  have G3 := H3.below B1
  have G4 := H4.below B1
  have N0 := Lib.hid h0
  have N1 := Lib.hid h1
  have N2 := Lib.hid h2
  have N3 := Lib.hid h3
  have N4 := Lib.hid h4
  have HW := Lib.hid hw1
  have M0 := Lib.hid m0
  have M1 := Lib.hid m1
  have M2 := Lib.hid m2
  have M3 := Lib.hid m3
  have M4 := Lib.hid m4
  unfold maxLen at m0 m1 m2 m3 m4
  clear hw1 h0 h1 h2 h3 h4
  obtain ⟨rb, hrb⟩ : ∃ b, rangesB nd kd st ct mn = b := ⟨_, rfl⟩
  have hra := ranges_37 nd kd st ct mn (.slice a0 n0 c0) (.slice a1 n1 c1) (.slice a2 n2 c2) (.slice a3 n3 c3) (.slice a4 n4 c4) w1 i0 i1 i2 i3
  rw [hrb] at hra
  have HRA := Lib.hid hra; have HRB := Lib.hid hrb
  clear hra hrb z0 z1 z2 z3 z4 z5 z6 z7 z8 z9
  go_enter Try.func32, Try.ntmps32
  go_wp2_with fail
  rw [← HW.out]
  clear HW
  refine (HRA.out).mono ?_
  rintro e w2 ⟨rfl, hb⟩
  have z0 := cell_later hb Z0.out
  have z1 := cell_later hb Z1.out
  have z2 := cell_later hb Z2.out
  have z3 := cell_later hb Z3.out
  have z4 := cell_later hb Z4.out
  have z5 := cell_later hb Z5.out
  have z6 := cell_later hb Z6.out
  have z7 := cell_later hb Z7.out
  have z8 := cell_later hb Z8.out
  have z9 := cell_later hb Z9.out
  clear HRA
  cases rb with
  | false =>
    go_wp2
    go_ret
    exact ⟨ret_int (chk_range HRB.out).symm, below_then B1 hb⟩
  | true =>
    obtain ⟨r1, r2, r3, r4⟩ := ranges_r HRB.out
    obtain ⟨E, hE⟩ : ∃ E, le st ct 0 [l0, l1, l2, l3, l4] = E := ⟨_, rfl⟩
    have hli := lists_38 nd kd st ct mn a0 a1 a2 a3 a4 l0 l1 l2 l3 l4 n0 n1 n2 n3 n4 c0 c1 c2 c3 c4 w2 r1 r2 r3 r4 (G0.below hb) (G1.below hb) (G2.below hb) (G3.below hb) (G4.below hb) N0.out N1.out N2.out N3.out N4.out M0.out M1.out M2.out M3.out M4.out
    rw [hE] at hli
    have HLI := Lib.hid hli; have HE := Lib.hid hE
    clear hli hE
    go_wp2_with fail
    refine (HLI.out).mono ?_
    rintro e w3 ⟨rfl, hb3⟩
    replace hb := below_then hb hb3
    clear HLI hb3 z0 z1 z2 z3 z4 z5 z6 z7 z8 z9
    have z0 := cell_later hb Z0.out
    have z1 := cell_later hb Z1.out
    have z2 := cell_later hb Z2.out
    have z3 := cell_later hb Z3.out
    have z4 := cell_later hb Z4.out
    have z5 := cell_later hb Z5.out
    have z6 := cell_later hb Z6.out
    have z7 := cell_later hb Z7.out
    have z8 := cell_later hb Z8.out
    have z9 := cell_later hb Z9.out
    by_cases hE0 : E = 0
    · subst hE0
      have hse := set_39 nd kd st ct mn a0 a1 a2 a3 a4 l0 l1 l2 l3 l4 n0 n1 n2 n3 n4 c0 c1 c2 c3 c4 w3 r1 r2 r3 r4 (G0.below hb) (G1.below hb) (G2.below hb) (G3.below hb) (G4.below hb) N0.out N1.out N2.out N3.out N4.out M0.out M1.out M2.out M3.out M4.out HE.out
      have HSE := Lib.hid hse
      have hle := HE.out
      have e0 : le1 st ct 0 false 0 l0 = 0 := by
        rcases Decidable.em (le1 st ct 0 false 0 l0 = 0) with h | h
        · exact h
        · rw [le_bad h] at hle; exact absurd hle h
      rw [le_ok e0] at hle
      have V0 := Lib.hid (le1_val e0)
      clear e0
      have e1 : le1 st ct 1 false 0 l1 = 0 := by
        rcases Decidable.em (le1 st ct 1 false 0 l1 = 0) with h | h
        · exact h
        · rw [le_bad h] at hle; exact absurd hle h
      rw [le_ok e1] at hle
      have V1 := Lib.hid (le1_val e1)
      clear e1
      have e2 : le1 st ct 2 false 0 l2 = 0 := by
        rcases Decidable.em (le1 st ct 2 false 0 l2 = 0) with h | h
        · exact h
        · rw [le_bad h] at hle; exact absurd hle h
      rw [le_ok e2] at hle
      have V2 := Lib.hid (le1_val e2)
      clear e2
      have e3 : le1 st ct 3 false 0 l3 = 0 := by
        rcases Decidable.em (le1 st ct 3 false 0 l3 = 0) with h | h
        · exact h
        · rw [le_bad h] at hle; exact absurd hle h
      rw [le_ok e3] at hle
      have V3 := Lib.hid (le1_val e3)
      clear e3
      have e4 : le1 st ct 4 false 0 l4 = 0 := by
        rcases Decidable.em (le1 st ct 4 false 0 l4 = 0) with h | h
        · exact h
        · rw [le_bad h] at hle; exact absurd hle h
      rw [le_ok e4] at hle
      have V4 := Lib.hid (le1_val e4)
      clear e4
      have hin : ∀ x ∈ covA 0 [l0, l1, l2, l3, l4], 0 ≤ x ∧ x < 256 := by
        intro x hx
        simp only [covA, List.mem_append, List.not_mem_nil, or_false] at hx
        rcases hx with hx | hx | hx | hx | hx
        · exact covL_in V0.out r1 r4 hx
        · exact covL_in V1.out r1 r4 hx
        · exact covL_in V2.out r1 r4 hx
        · exact covL_in V3.out r1 r4 hx
        · exact covL_in V4.out r1 r4 hx
      have hv0 := st1_adj V0.out
      have hv1 := st1_adj V1.out
      have hv2 := st1_adj V2.out
      have hv3 := st1_adj V3.out
      have hstA : stA st ct 4 0 [l0, l1, l2, l3, l4] = (adj st ct 0 l0 || (adj st ct 1 l1 || (adj st ct 2 l2 || (adj st ct 3 l3 || false)))) := by
        show (st1 st ct 0 l0 || (st1 st ct 1 l1 || (st1 st ct 2 l2 || (st1 st ct 3 l3 || false)))) = _
        rw [hv0, hv1, hv2, hv3]
      obtain ⟨T, hT⟩ : ∃ T, covA 0 [l0, l1, l2, l3, l4] = T := ⟨_, rfl⟩
      rw [hT] at hin
      have HIN := Lib.hid hin; have HT := Lib.hid hT; have HSA := Lib.hid hstA
      clear hle hin hT hv0 hv1 hv2 hv3 hstA hse
      go_wp2_with fail
      refine (HSE.out).mono ?_
      rintro e w4 ⟨gB, rfl, hC, hb4⟩
      rw [HT.out] at hC
      replace hb := below_then hb hb4
      clear HSE hb4 z0 z1 z2 z3 z4 z5 z6 z7 z8 z9
      have HC := Lib.hid hC
      clear hC
      go_wp2
      go_loopg [5] 256 (fun g i0 wr => ∃ (i : Nat), i + g = 256 ∧ i0 = .int .i64 i ∧ (∀ j : Nat, j < i → T.count (j : Int) ≤ 1) ∧ w4 = wr)
      case atStart => exact ⟨0, by omega, rfl, fun j hj => absurd hj (by omega), rfl⟩
      case round =>
        obtain ⟨i, hg, rfl, hcn, rfl⟩ := hrel
        cases gk with
        | succ g =>
          have hi : i < 256 := by omega
          obtain ⟨q0, _⟩ := (HC.out).cell hi
          obtain ⟨cc, hcc⟩ : ∃ cc : Nat, T.count (i : Int) = cc := ⟨_, rfl⟩
          rw [hcc] at q0
          have HCC := Lib.hid hcc; have HCN := Lib.hid hcn; have HG := Lib.hid hg
          clear hcc hcn hg
          by_cases h1 : 1 < cc
          · have h1' : (1 : Int) < (cc : Int) := by omega
            go_wp2
            go_ret
            exact ⟨ret_int (chk_dup HRB.out HE.out (by rw [HT.out]; exact dup_count.2 ⟨_, by rw [HCC.out]; exact h1⟩)).symm, below_then B1 hb⟩
          · have h1' : (cc : Int) ≤ 1 := by omega
            go_wp2
            go_roundg g
            case rel =>
              refine ⟨i + 1, by have := HG.out; omega, by go_num, fun j hj => ?_, rfl⟩
              rcases Nat.lt_or_ge j i with h | h
              · exact HCN.out j h
              · obtain rfl : j = i := by omega
                rw [HCC.out]; omega
            case measure => omega
        | zero =>
          obtain rfl : i = 256 := by omega
          have hnd : dup T = false := by
            cases hd : dup T with
            | false => rfl
            | true =>
              obtain ⟨x, hx⟩ := dup_count.1 hd
              have hm : x ∈ T := List.count_pos_iff.1 (by omega)
              have hr := HIN.out x hm
              have := hcn x.toNat (by omega)
              rw [show ((x.toNat : Nat) : Int) = x by omega] at this
              omega
          have HCK := Lib.hid (chk_st HRB.out HE.out (by rw [HT.out]; exact hnd))
          clear hg hcn hnd HC
          go_wp2
          go_loopg [6] 4 (fun g i0 wr => ∃ (i : Nat), i + g = 4 ∧ i0 = .int .i64 i ∧ stA st ct 4 0 [l0, l1, l2, l3, l4] = (match i with | 0 => (adj st ct 0 l0 || (adj st ct 1 l1 || (adj st ct 2 l2 || (adj st ct 3 l3 || false)))) | 1 => (adj st ct 1 l1 || (adj st ct 2 l2 || (adj st ct 3 l3 || false))) | 2 => (adj st ct 2 l2 || (adj st ct 3 l3 || false)) | 3 => (adj st ct 3 l3 || false) | _ => false) ∧ Below w1.heap.size w1 wr)
          case atStart => exact ⟨0, by omega, rfl, HSA.out, hb⟩
          case round =>
            clear hb
            obtain ⟨i, hg, rfl, hs, hb⟩ := hrel
            have HS := Lib.hid hs
            clear hs
            rcases (show i = 0 ∨ i = 1 ∨ i = 2 ∨ i = 3 ∨ i = 4 by omega) with rfl | rfl | rfl | rfl | rfl
            · obtain ⟨g, rfl⟩ : ∃ g, gk = g + 1 := ⟨gk - 1, by omega⟩
              have HSK : Hid (stA st ct 4 0 [l0, l1, l2, l3, l4] = (adj st ct 0 l0 || (adj st ct 1 l1 || (adj st ct 2 l2 || (adj st ct 3 l3 || false))))) := Lib.hid HS.out
              clear HS
              go_wp2
              go_loopg [7] n0 (fun g2 j0 wi => ∃ (j : Nat), j + g2 = n0 ∧ j0 = .int .i64 ((j : Int) + 1) ∧ adj st ct 0 l0 = adj st ct 0 (l0.drop j) ∧ Below w1.heap.size w1 wi)
              case atStart => exact ⟨0, by omega, rfl, by rw [List.drop_zero], hb⟩
              case round =>
                clear hb
                obtain ⟨j, hj, rfl, ha, hb⟩ := hrel
                have z0 := cell_later hb Z0.out
                have z1 := cell_later hb Z1.out
                have z2 := cell_later hb Z2.out
                have z3 := cell_later hb Z3.out
                have z4 := cell_later hb Z4.out
                have z5 := cell_later hb Z5.out
                have z6 := cell_later hb Z6.out
                have z7 := cell_later hb Z7.out
                have z8 := cell_later hb Z8.out
                have z9 := cell_later hb Z9.out
                by_cases hjn : j + 1 < n0
                · obtain ⟨g2, rfl⟩ : ∃ g2, gk = g2 + 1 := ⟨gk - 1, by omega⟩
                  obtain ⟨x, hx⟩ := get_some N0.out (show j < n0 by omega)
                  obtain ⟨y, hy⟩ := get_some N0.out hjn
                  have hxi := ins_range (V0.out.ins x (List.mem_of_getElem? hx)) r1 r4
                  have hyi := ins_range (V0.out.ins y (List.mem_of_getElem? hy)) r1 r4
                  rw [pw_0] at hxi hyi
                  obtain ⟨hx0, hx1⟩ := hxi
                  obtain ⟨hy0, hy1⟩ := hyi
                  have hstp := ha.trans (adj_step hx hy)
                  rw [pw_0] at hstp
                  have hbk := fun u => block_40_1 nd kd st ct mn (.slice a0 n0 c0) (.slice a1 n1 c1) (.slice a2 n2 c2) (.slice a3 n3 c3) (.slice a4 n4 c4) x (over wr u) r1 r2 r3 (by omega)
                  obtain ⟨t, ht⟩ : ∃ t, insideB st ct x (0 + 1) = t := ⟨_, rfl⟩
                  rw [ht] at hstp
                  rw [show insideB st ct x 1 = t from ht] at hbk
                  obtain ⟨b, off, rfl, cx⟩ := (G0.below hb).at hx
                  obtain ⟨_, _, hV, cy⟩ := (G0.below hb).at hy
                  cases hV
                  have HSTP := Lib.hid hstp; have HJ := Lib.hid hj
                  have ej : ((j : Int) + 1) - 1 = (j : Int) := by omega
                  have cy : wr.cell? ⟨b, off + (j + 1), none⟩ = some (.int .i64 y) := cy
                  clear hx hy hstp ha hj ht
                  by_cases hxy : y = x + 1
                  · have t1 : (y == x + 1) = true := by simpa using hxy
                    go_wp2
                    refine wp_region_over (by kernel_rfl) (by kernel_rfl) ?_

                    have q0 := fun u => over_cell z0 u
                    have q1 := fun u => over_cell z1 u
                    have q2 := fun u => over_cell z2 u
                    have q3 := fun u => over_cell z3 u
                    have q4 := fun u => over_cell z4 u
                    have q5 := fun u => over_cell z5 u
                    have q6 := fun u => over_cell z6 u
                    have q7 := fun u => over_cell z7 u
                    have q8 := fun u => over_cell z8 u
                    have q9 := fun u => over_cell z9 u
                    have qx := fun u => over_cell cx u
                    have qy := fun u => over_cell cy u
                    repeat (go_big_quiet_step ((go_at_call 40; with_reducible exact calls_over (hbk _))))
                    refine wpQuiet_nil ?_
                    rintro _ ⟨u, rfl⟩
                    have hb2 := below_then hb (below_over wr u)
                    clear q0 q1 q2 q3 q4 q5 q6 q7 q8 q9 qx qy hbk z0 z1 z2 z3 z4 z5 z6 z7 z8 z9 cx cy
                    cases t with
                    | true =>
                      go_wp2
                      go_ret
                      refine ⟨ret_int ?_, below_then B1 hb2⟩
                      have h := HSTP.out
                      rw [decide_eq_true hxy] at h
                      rw [HCK.out, HSK.out, h]; rfl
                    | false =>
                      go_wp2
                      go_roundg g2
                      case rel => exact ⟨j + 1, by have := HJ.out; omega, by go_num, by have h := HSTP.out; rw [Bool.and_false, Bool.false_or] at h; exact h, hb2⟩
                      case measure => omega
                  · have t1 : (y == x + 1) = false := by simpa using hxy
                    go_wp2
                    refine wp_region_over (by kernel_rfl) (by kernel_rfl) ?_

                    have q0 := fun u => over_cell z0 u
                    have q1 := fun u => over_cell z1 u
                    have q2 := fun u => over_cell z2 u
                    have q3 := fun u => over_cell z3 u
                    have q4 := fun u => over_cell z4 u
                    have q5 := fun u => over_cell z5 u
                    have q6 := fun u => over_cell z6 u
                    have q7 := fun u => over_cell z7 u
                    have q8 := fun u => over_cell z8 u
                    have q9 := fun u => over_cell z9 u
                    have qx := fun u => over_cell cx u
                    have qy := fun u => over_cell cy u
                    repeat (go_big_quiet_step (fail))
                    refine wpQuiet_nil ?_
                    rintro _ ⟨u, rfl⟩
                    have hb2 := below_then hb (below_over wr u)
                    clear q0 q1 q2 q3 q4 q5 q6 q7 q8 q9 qx qy hbk z0 z1 z2 z3 z4 z5 z6 z7 z8 z9 cx cy
                    go_wp2
                    go_roundg g2
                    case rel => exact ⟨j + 1, by have := HJ.out; omega, by go_num, by have h := HSTP.out; rw [decide_eq_false hxy, Bool.false_and, Bool.false_or] at h; exact h, hb2⟩
                    case measure => omega
                · have hjn' : (n0 : Int) ≤ (j : Int) + 1 := by omega
                  have HAE := Lib.hid (ha.trans (adj_end (by rw [N0.out]; omega)))
                  clear ha hj
                  go_wp2
                  go_roundg g
                  case rel => exact ⟨0 + 1, by omega, by go_num, by show stA st ct 4 0 [l0, l1, l2, l3, l4] = (adj st ct 1 l1 || (adj st ct 2 l2 || (adj st ct 3 l3 || false))); rw [HSK.out, HAE.out, Bool.false_or], hb⟩
                  case measure => omega
            · obtain ⟨g, rfl⟩ : ∃ g, gk = g + 1 := ⟨gk - 1, by omega⟩
              have HSK : Hid (stA st ct 4 0 [l0, l1, l2, l3, l4] = (adj st ct 1 l1 || (adj st ct 2 l2 || (adj st ct 3 l3 || false)))) := Lib.hid HS.out
              clear HS
              go_wp2
              go_loopg [7] n1 (fun g2 j0 wi => ∃ (j : Nat), j + g2 = n1 ∧ j0 = .int .i64 ((j : Int) + 1) ∧ adj st ct 1 l1 = adj st ct 1 (l1.drop j) ∧ Below w1.heap.size w1 wi)
              case atStart => exact ⟨0, by omega, rfl, by rw [List.drop_zero], hb⟩
              case round =>
                clear hb
                obtain ⟨j, hj, rfl, ha, hb⟩ := hrel
                have z0 := cell_later hb Z0.out
                have z1 := cell_later hb Z1.out
                have z2 := cell_later hb Z2.out
                have z3 := cell_later hb Z3.out
                have z4 := cell_later hb Z4.out
                have z5 := cell_later hb Z5.out
                have z6 := cell_later hb Z6.out
                have z7 := cell_later hb Z7.out
                have z8 := cell_later hb Z8.out
                have z9 := cell_later hb Z9.out
                by_cases hjn : j + 1 < n1
                · obtain ⟨g2, rfl⟩ : ∃ g2, gk = g2 + 1 := ⟨gk - 1, by omega⟩
                  obtain ⟨x, hx⟩ := get_some N1.out (show j < n1 by omega)
                  obtain ⟨y, hy⟩ := get_some N1.out hjn
                  have hxi := ins_range (V1.out.ins x (List.mem_of_getElem? hx)) r1 r4
                  have hyi := ins_range (V1.out.ins y (List.mem_of_getElem? hy)) r1 r4
                  rw [pw_1] at hxi hyi
                  obtain ⟨hx0, hx1⟩ := hxi
                  obtain ⟨hy0, hy1⟩ := hyi
                  have hstp := ha.trans (adj_step hx hy)
                  rw [pw_1] at hstp
                  have hbk := fun u => block_40_2 nd kd st ct mn (.slice a0 n0 c0) (.slice a1 n1 c1) (.slice a2 n2 c2) (.slice a3 n3 c3) (.slice a4 n4 c4) x (over wr u) r1 r2 r3 (by omega)
                  obtain ⟨t, ht⟩ : ∃ t, insideB st ct x (1 + 1) = t := ⟨_, rfl⟩
                  rw [ht] at hstp
                  rw [show insideB st ct x 2 = t from ht] at hbk
                  obtain ⟨b, off, rfl, cx⟩ := (G1.below hb).at hx
                  obtain ⟨_, _, hV, cy⟩ := (G1.below hb).at hy
                  cases hV
                  have HSTP := Lib.hid hstp; have HJ := Lib.hid hj
                  have ej : ((j : Int) + 1) - 1 = (j : Int) := by omega
                  have cy : wr.cell? ⟨b, off + (j + 1), none⟩ = some (.int .i64 y) := cy
                  clear hx hy hstp ha hj ht
                  by_cases hxy : y = x + 2
                  · have t1 : (y == x + 2) = true := by simpa using hxy
                    go_wp2
                    refine wp_region_over (by kernel_rfl) (by kernel_rfl) ?_

                    have q0 := fun u => over_cell z0 u
                    have q1 := fun u => over_cell z1 u
                    have q2 := fun u => over_cell z2 u
                    have q3 := fun u => over_cell z3 u
                    have q4 := fun u => over_cell z4 u
                    have q5 := fun u => over_cell z5 u
                    have q6 := fun u => over_cell z6 u
                    have q7 := fun u => over_cell z7 u
                    have q8 := fun u => over_cell z8 u
                    have q9 := fun u => over_cell z9 u
                    have qx := fun u => over_cell cx u
                    have qy := fun u => over_cell cy u
                    repeat (go_big_quiet_step ((go_at_call 40; with_reducible exact calls_over (hbk _))))
                    refine wpQuiet_nil ?_
                    rintro _ ⟨u, rfl⟩
                    have hb2 := below_then hb (below_over wr u)
                    clear q0 q1 q2 q3 q4 q5 q6 q7 q8 q9 qx qy hbk z0 z1 z2 z3 z4 z5 z6 z7 z8 z9 cx cy
                    cases t with
                    | true =>
                      go_wp2
                      go_ret
                      refine ⟨ret_int ?_, below_then B1 hb2⟩
                      have h := HSTP.out
                      rw [decide_eq_true hxy] at h
                      rw [HCK.out, HSK.out, h]; rfl
                    | false =>
                      go_wp2
                      go_roundg g2
                      case rel => exact ⟨j + 1, by have := HJ.out; omega, by go_num, by have h := HSTP.out; rw [Bool.and_false, Bool.false_or] at h; exact h, hb2⟩
                      case measure => omega
                  · have t1 : (y == x + 2) = false := by simpa using hxy
                    go_wp2
                    refine wp_region_over (by kernel_rfl) (by kernel_rfl) ?_

                    have q0 := fun u => over_cell z0 u
                    have q1 := fun u => over_cell z1 u
                    have q2 := fun u => over_cell z2 u
                    have q3 := fun u => over_cell z3 u
                    have q4 := fun u => over_cell z4 u
                    have q5 := fun u => over_cell z5 u
                    have q6 := fun u => over_cell z6 u
                    have q7 := fun u => over_cell z7 u
                    have q8 := fun u => over_cell z8 u
                    have q9 := fun u => over_cell z9 u
                    have qx := fun u => over_cell cx u
                    have qy := fun u => over_cell cy u
                    repeat (go_big_quiet_step (fail))
                    refine wpQuiet_nil ?_
                    rintro _ ⟨u, rfl⟩
                    have hb2 := below_then hb (below_over wr u)
                    clear q0 q1 q2 q3 q4 q5 q6 q7 q8 q9 qx qy hbk z0 z1 z2 z3 z4 z5 z6 z7 z8 z9 cx cy
                    go_wp2
                    go_roundg g2
                    case rel => exact ⟨j + 1, by have := HJ.out; omega, by go_num, by have h := HSTP.out; rw [decide_eq_false hxy, Bool.false_and, Bool.false_or] at h; exact h, hb2⟩
                    case measure => omega
                · have hjn' : (n1 : Int) ≤ (j : Int) + 1 := by omega
                  have HAE := Lib.hid (ha.trans (adj_end (by rw [N1.out]; omega)))
                  clear ha hj
                  go_wp2
                  go_roundg g
                  case rel => exact ⟨1 + 1, by omega, by go_num, by show stA st ct 4 0 [l0, l1, l2, l3, l4] = (adj st ct 2 l2 || (adj st ct 3 l3 || false)); rw [HSK.out, HAE.out, Bool.false_or], hb⟩
                  case measure => omega
            · obtain ⟨g, rfl⟩ : ∃ g, gk = g + 1 := ⟨gk - 1, by omega⟩
              have HSK : Hid (stA st ct 4 0 [l0, l1, l2, l3, l4] = (adj st ct 2 l2 || (adj st ct 3 l3 || false))) := Lib.hid HS.out
              clear HS
              go_wp2
              go_loopg [7] n2 (fun g2 j0 wi => ∃ (j : Nat), j + g2 = n2 ∧ j0 = .int .i64 ((j : Int) + 1) ∧ adj st ct 2 l2 = adj st ct 2 (l2.drop j) ∧ Below w1.heap.size w1 wi)
              case atStart => exact ⟨0, by omega, rfl, by rw [List.drop_zero], hb⟩
              case round =>
                clear hb
                obtain ⟨j, hj, rfl, ha, hb⟩ := hrel
                have z0 := cell_later hb Z0.out
                have z1 := cell_later hb Z1.out
                have z2 := cell_later hb Z2.out
                have z3 := cell_later hb Z3.out
                have z4 := cell_later hb Z4.out
                have z5 := cell_later hb Z5.out
                have z6 := cell_later hb Z6.out
                have z7 := cell_later hb Z7.out
                have z8 := cell_later hb Z8.out
                have z9 := cell_later hb Z9.out
                by_cases hjn : j + 1 < n2
                · obtain ⟨g2, rfl⟩ : ∃ g2, gk = g2 + 1 := ⟨gk - 1, by omega⟩
                  obtain ⟨x, hx⟩ := get_some N2.out (show j < n2 by omega)
                  obtain ⟨y, hy⟩ := get_some N2.out hjn
                  have hxi := ins_range (V2.out.ins x (List.mem_of_getElem? hx)) r1 r4
                  have hyi := ins_range (V2.out.ins y (List.mem_of_getElem? hy)) r1 r4
                  rw [pw_2] at hxi hyi
                  obtain ⟨hx0, hx1⟩ := hxi
                  obtain ⟨hy0, hy1⟩ := hyi
                  have hstp := ha.trans (adj_step hx hy)
                  rw [pw_2] at hstp
                  have hbk := fun u => block_40_3 nd kd st ct mn (.slice a0 n0 c0) (.slice a1 n1 c1) (.slice a2 n2 c2) (.slice a3 n3 c3) (.slice a4 n4 c4) x (over wr u) r1 r2 r3 (by omega)
                  obtain ⟨t, ht⟩ : ∃ t, insideB st ct x (2 + 1) = t := ⟨_, rfl⟩
                  rw [ht] at hstp
                  rw [show insideB st ct x 3 = t from ht] at hbk
                  obtain ⟨b, off, rfl, cx⟩ := (G2.below hb).at hx
                  obtain ⟨_, _, hV, cy⟩ := (G2.below hb).at hy
                  cases hV
                  have HSTP := Lib.hid hstp; have HJ := Lib.hid hj
                  have ej : ((j : Int) + 1) - 1 = (j : Int) := by omega
                  have cy : wr.cell? ⟨b, off + (j + 1), none⟩ = some (.int .i64 y) := cy
                  clear hx hy hstp ha hj ht
                  by_cases hxy : y = x + 4
                  · have t1 : (y == x + 4) = true := by simpa using hxy
                    go_wp2
                    refine wp_region_over (by kernel_rfl) (by kernel_rfl) ?_

                    have q0 := fun u => over_cell z0 u
                    have q1 := fun u => over_cell z1 u
                    have q2 := fun u => over_cell z2 u
                    have q3 := fun u => over_cell z3 u
                    have q4 := fun u => over_cell z4 u
                    have q5 := fun u => over_cell z5 u
                    have q6 := fun u => over_cell z6 u
                    have q7 := fun u => over_cell z7 u
                    have q8 := fun u => over_cell z8 u
                    have q9 := fun u => over_cell z9 u
                    have qx := fun u => over_cell cx u
                    have qy := fun u => over_cell cy u
                    repeat (go_big_quiet_step ((go_at_call 40; with_reducible exact calls_over (hbk _))))
                    refine wpQuiet_nil ?_
                    rintro _ ⟨u, rfl⟩
                    have hb2 := below_then hb (below_over wr u)
                    clear q0 q1 q2 q3 q4 q5 q6 q7 q8 q9 qx qy hbk z0 z1 z2 z3 z4 z5 z6 z7 z8 z9 cx cy
                    cases t with
                    | true =>
                      go_wp2
                      go_ret
                      refine ⟨ret_int ?_, below_then B1 hb2⟩
                      have h := HSTP.out
                      rw [decide_eq_true hxy] at h
                      rw [HCK.out, HSK.out, h]; rfl
                    | false =>
                      go_wp2
                      go_roundg g2
                      case rel => exact ⟨j + 1, by have := HJ.out; omega, by go_num, by have h := HSTP.out; rw [Bool.and_false, Bool.false_or] at h; exact h, hb2⟩
                      case measure => omega
                  · have t1 : (y == x + 4) = false := by simpa using hxy
                    go_wp2
                    refine wp_region_over (by kernel_rfl) (by kernel_rfl) ?_

                    have q0 := fun u => over_cell z0 u
                    have q1 := fun u => over_cell z1 u
                    have q2 := fun u => over_cell z2 u
                    have q3 := fun u => over_cell z3 u
                    have q4 := fun u => over_cell z4 u
                    have q5 := fun u => over_cell z5 u
                    have q6 := fun u => over_cell z6 u
                    have q7 := fun u => over_cell z7 u
                    have q8 := fun u => over_cell z8 u
                    have q9 := fun u => over_cell z9 u
                    have qx := fun u => over_cell cx u
                    have qy := fun u => over_cell cy u
                    repeat (go_big_quiet_step (fail))
                    refine wpQuiet_nil ?_
                    rintro _ ⟨u, rfl⟩
                    have hb2 := below_then hb (below_over wr u)
                    clear q0 q1 q2 q3 q4 q5 q6 q7 q8 q9 qx qy hbk z0 z1 z2 z3 z4 z5 z6 z7 z8 z9 cx cy
                    go_wp2
                    go_roundg g2
                    case rel => exact ⟨j + 1, by have := HJ.out; omega, by go_num, by have h := HSTP.out; rw [decide_eq_false hxy, Bool.false_and, Bool.false_or] at h; exact h, hb2⟩
                    case measure => omega
                · have hjn' : (n2 : Int) ≤ (j : Int) + 1 := by omega
                  have HAE := Lib.hid (ha.trans (adj_end (by rw [N2.out]; omega)))
                  clear ha hj
                  go_wp2
                  go_roundg g
                  case rel => exact ⟨2 + 1, by omega, by go_num, by show stA st ct 4 0 [l0, l1, l2, l3, l4] = (adj st ct 3 l3 || false); rw [HSK.out, HAE.out, Bool.false_or], hb⟩
                  case measure => omega
            · obtain ⟨g, rfl⟩ : ∃ g, gk = g + 1 := ⟨gk - 1, by omega⟩
              have HSK : Hid (stA st ct 4 0 [l0, l1, l2, l3, l4] = (adj st ct 3 l3 || false)) := Lib.hid HS.out
              clear HS
              go_wp2
              go_loopg [7] n3 (fun g2 j0 wi => ∃ (j : Nat), j + g2 = n3 ∧ j0 = .int .i64 ((j : Int) + 1) ∧ adj st ct 3 l3 = adj st ct 3 (l3.drop j) ∧ Below w1.heap.size w1 wi)
              case atStart => exact ⟨0, by omega, rfl, by rw [List.drop_zero], hb⟩
              case round =>
                clear hb
                obtain ⟨j, hj, rfl, ha, hb⟩ := hrel
                have z0 := cell_later hb Z0.out
                have z1 := cell_later hb Z1.out
                have z2 := cell_later hb Z2.out
                have z3 := cell_later hb Z3.out
                have z4 := cell_later hb Z4.out
                have z5 := cell_later hb Z5.out
                have z6 := cell_later hb Z6.out
                have z7 := cell_later hb Z7.out
                have z8 := cell_later hb Z8.out
                have z9 := cell_later hb Z9.out
                by_cases hjn : j + 1 < n3
                · obtain ⟨g2, rfl⟩ : ∃ g2, gk = g2 + 1 := ⟨gk - 1, by omega⟩
                  obtain ⟨x, hx⟩ := get_some N3.out (show j < n3 by omega)
                  obtain ⟨y, hy⟩ := get_some N3.out hjn
                  have hxi := ins_range (V3.out.ins x (List.mem_of_getElem? hx)) r1 r4
                  have hyi := ins_range (V3.out.ins y (List.mem_of_getElem? hy)) r1 r4
                  rw [pw_3] at hxi hyi
                  obtain ⟨hx0, hx1⟩ := hxi
                  obtain ⟨hy0, hy1⟩ := hyi
                  have hstp := ha.trans (adj_step hx hy)
                  rw [pw_3] at hstp
                  have hbk := fun u => block_40_4 nd kd st ct mn (.slice a0 n0 c0) (.slice a1 n1 c1) (.slice a2 n2 c2) (.slice a3 n3 c3) (.slice a4 n4 c4) x (over wr u) r1 r2 r3 (by omega)
                  obtain ⟨t, ht⟩ : ∃ t, insideB st ct x (3 + 1) = t := ⟨_, rfl⟩
                  rw [ht] at hstp
                  rw [show insideB st ct x 4 = t from ht] at hbk
                  obtain ⟨b, off, rfl, cx⟩ := (G3.below hb).at hx
                  obtain ⟨_, _, hV, cy⟩ := (G3.below hb).at hy
                  cases hV
                  have HSTP := Lib.hid hstp; have HJ := Lib.hid hj
                  have ej : ((j : Int) + 1) - 1 = (j : Int) := by omega
                  have cy : wr.cell? ⟨b, off + (j + 1), none⟩ = some (.int .i64 y) := cy
                  clear hx hy hstp ha hj ht
                  by_cases hxy : y = x + 8
                  · have t1 : (y == x + 8) = true := by simpa using hxy
                    go_wp2
                    refine wp_region_over (by kernel_rfl) (by kernel_rfl) ?_

                    have q0 := fun u => over_cell z0 u
                    have q1 := fun u => over_cell z1 u
                    have q2 := fun u => over_cell z2 u
                    have q3 := fun u => over_cell z3 u
                    have q4 := fun u => over_cell z4 u
                    have q5 := fun u => over_cell z5 u
                    have q6 := fun u => over_cell z6 u
                    have q7 := fun u => over_cell z7 u
                    have q8 := fun u => over_cell z8 u
                    have q9 := fun u => over_cell z9 u
                    have qx := fun u => over_cell cx u
                    have qy := fun u => over_cell cy u
                    repeat (go_big_quiet_step ((go_at_call 40; with_reducible exact calls_over (hbk _))))
                    refine wpQuiet_nil ?_
                    rintro _ ⟨u, rfl⟩
                    have hb2 := below_then hb (below_over wr u)
                    clear q0 q1 q2 q3 q4 q5 q6 q7 q8 q9 qx qy hbk z0 z1 z2 z3 z4 z5 z6 z7 z8 z9 cx cy
                    cases t with
                    | true =>
                      go_wp2
                      go_ret
                      refine ⟨ret_int ?_, below_then B1 hb2⟩
                      have h := HSTP.out
                      rw [decide_eq_true hxy] at h
                      rw [HCK.out, HSK.out, h]; rfl
                    | false =>
                      go_wp2
                      go_roundg g2
                      case rel => exact ⟨j + 1, by have := HJ.out; omega, by go_num, by have h := HSTP.out; rw [Bool.and_false, Bool.false_or] at h; exact h, hb2⟩
                      case measure => omega
                  · have t1 : (y == x + 8) = false := by simpa using hxy
                    go_wp2
                    refine wp_region_over (by kernel_rfl) (by kernel_rfl) ?_

                    have q0 := fun u => over_cell z0 u
                    have q1 := fun u => over_cell z1 u
                    have q2 := fun u => over_cell z2 u
                    have q3 := fun u => over_cell z3 u
                    have q4 := fun u => over_cell z4 u
                    have q5 := fun u => over_cell z5 u
                    have q6 := fun u => over_cell z6 u
                    have q7 := fun u => over_cell z7 u
                    have q8 := fun u => over_cell z8 u
                    have q9 := fun u => over_cell z9 u
                    have qx := fun u => over_cell cx u
                    have qy := fun u => over_cell cy u
                    repeat (go_big_quiet_step (fail))
                    refine wpQuiet_nil ?_
                    rintro _ ⟨u, rfl⟩
                    have hb2 := below_then hb (below_over wr u)
                    clear q0 q1 q2 q3 q4 q5 q6 q7 q8 q9 qx qy hbk z0 z1 z2 z3 z4 z5 z6 z7 z8 z9 cx cy
                    go_wp2
                    go_roundg g2
                    case rel => exact ⟨j + 1, by have := HJ.out; omega, by go_num, by have h := HSTP.out; rw [decide_eq_false hxy, Bool.false_and, Bool.false_or] at h; exact h, hb2⟩
                    case measure => omega
                · have hjn' : (n3 : Int) ≤ (j : Int) + 1 := by omega
                  have HAE := Lib.hid (ha.trans (adj_end (by rw [N3.out]; omega)))
                  clear ha hj
                  go_wp2
                  go_roundg g
                  case rel => exact ⟨3 + 1, by omega, by go_num, by show stA st ct 4 0 [l0, l1, l2, l3, l4] = false; rw [HSK.out, HAE.out, Bool.false_or], hb⟩
                  case measure => omega
            · have HS0 := Lib.hid (show stA st ct 4 0 [l0, l1, l2, l3, l4] = false from HS.out)
              clear HS
              go_wp2
              go_ret
              refine ⟨ret_int ?_, below_then B1 hb⟩
              rw [HCK.out, HS0.out]; rfl
    · have t1 : (E != 0) = true := by simpa using hE0
      go_wp2
      go_ret
      exact ⟨ret_int (by rw [chk_le HRB.out (by rw [HE.out]; exact hE0), HE.out]), below_then B1 hb⟩
end Go.Proofs.Ytneibbefkjjlnaa
