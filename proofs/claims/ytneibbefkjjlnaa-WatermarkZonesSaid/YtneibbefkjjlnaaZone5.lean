/- Walks: the counts of the reference. -/
import Derived.Test.YtneibbefkjjlnaaZone4
import Derived.Test.YtneibbefkjjlnaaBlk
import Derived.Lib.MakeNoZero
namespace Go.Proofs.Ytneibbefkjjlnaa
open Go.RowKit Go.Over Go.Bud Go.Grow
def cntL (C : List Int) : List Int := (List.range 256).map fun (i : Nat) => ((C.count (i : Int) : Nat) : Int)
theorem cntL_len (C : List Int) : (cntL C).length = 256 := by simp [cntL]
theorem cntL_get (C : List Int) {i : Nat} (h : i < 256) : (cntL C)[i]? = some ((C.count (i : Int) : Nat) : Int) := by simp [cntL, h]
theorem cntL_put (C : List Int) {i : Nat} : (cntL C).set i (((C.count (i : Int) : Nat) : Int) + 1) = cntL (C ++ [(i : Int)]) := by
  apply List.ext_getElem?
  intro k
  rcases Nat.lt_or_ge k 256 with hk | hk
  · rw [cntL_get _ hk]
    by_cases hik : i = k
    · subst hik
      rw [List.getElem?_set_self (by rw [cntL_len]; exact hk), List.count_append]
      simp
    · rw [List.getElem?_set_ne hik, cntL_get _ hk, List.count_append, List.count_singleton]
      have : ¬ ((i : Int) == (k : Int)) = true := by simp; omega
      rw [if_neg this]; simp
  · rw [List.getElem?_eq_none (by rw [List.length_set, cntL_len]; exact hk), List.getElem?_eq_none (by rw [cntL_len]; exact hk)]
theorem cov_step (f : Int) {i n : Nat} (h : i < n) : cov (f + i) (n - i) = (f + i) :: cov (f + (i + 1 : Nat)) (n - (i + 1)) := by
  obtain ⟨m, hm⟩ : ∃ m, n - i = m + 1 := ⟨n - i - 1, by omega⟩
  rw [hm, show n - (i + 1) = m by omega]
  show (f + i) :: cov (f + i + 1) m = _
  rw [show f + (i : Int) + 1 = f + ((i + 1 : Nat) : Int) by omega]
theorem covL_step {k : Nat} {l : List Int} {j : Nat} {x : Int} (h : l[j]? = some x) : covL k (l.drop j) = cov x (2 ^ k) ++ covL k (l.drop (j + 1)) := by
  rw [drop_get h]; rfl
theorem add_row (g o j : Nat) : (⟨g, o, none⟩ : Addr).add j = ⟨g, o + j, none⟩ := by unfold Addr.add; split <;> simp_all
theorem own_blk {w : World} {base e size n g c : Nat} {xs : List Value} (h : w.ownsRow base e size (.slice (some ⟨g, 0, none⟩) n c) n xs) : ∃ cur, Blk w g e cur ∧ cur.take (n * size) = xs := by
  rcases h.2 with ⟨h1, _⟩ | ⟨g', cap, cur, h1, _, h2, _, _, _, h3⟩
  · cases h1
  · cases h1
    exact ⟨cur.toList, by unfold Blk; simpa using h2, h3⟩
theorem grown_none {W W' : World} (hg : W.grownBy W' none) : Below W.heap.size W W' := (Below.refl W.heap.size W).grown hg (Nat.le_refl _) (fun k hk => by cases hk)
/-- The counts that lie in block g. -/
def Cnt (w : World) (base g : Nat) (C : List Int) : Prop := w.ownsRow base 3 1 (.slice (some ⟨g, 0, none⟩) 256 256) 256 ((cntL C).map (Value.int .i64))
theorem Cnt.cell {w : World} {base g : Nat} {C : List Int} (h : Cnt w base g C) {i : Nat} (hi : i < 256) : w.cell? ⟨g, i, none⟩ = some (.int .i64 ((C.count (i : Int) : Nat) : Int)) ∧ w.frozen? ⟨g, i, none⟩ = false := by
  obtain ⟨cur, hb, _⟩ := own_blk h
  have q0 := World.ownsRow.cells h (g := g) rfl i (.int .i64 ((C.count (i : Int) : Nat) : Int)) (by rw [List.getElem?_map, cntL_get _ hi]; rfl)
  rw [add_row, Nat.zero_add] at q0
  exact ⟨q0, hb.frozen i⟩
theorem Cnt.put {w : World} {base g : Nat} {C : List Int} (h : Cnt w base g C) (i : Nat) : Cnt (w.setCell ⟨g, i, none⟩ (.int .i64 (((C.count (i : Int) : Nat) : Int) + 1))) base g (C ++ [(i : Int)]) := by
  obtain ⟨s1, _⟩ := World.ownsRow.stored (w := w) (base := base) (e := 3) (size := 1) (g := g) (cap := 256) (n := 256) (xs := (cntL C).map (Value.int .i64)) h i (.int .i64 (((C.count (i : Int) : Nat) : Int) + 1))
  unfold Cnt
  rw [← cntL_put, List.map_set]
  exact s1
theorem made_ints (n : Nat) : (madeCells (Value.int .i64 0).cells (n * 1)).toList = List.replicate n (Value.int .i64 0) := by
  simp only [madeCells, Nat.mul_one, Value.cells, Array.toList_map, Array.toList_range]
  apply List.ext_getElem
  · simp
  · intro i h1 h2
    simp [Nat.mod_one]
theorem cnt_nil : (cntL []).map (Value.int .i64) = List.replicate 256 (Value.int .i64 0) := by
  have : cntL [] = List.replicate 256 0 := by decide +kernel
  rw [this, List.map_replicate]
theorem count_le {C R : List Int} {x : Int} : ((C.count x : Nat) : Int) ≤ ((C ++ R).length : Int) := by
  have h1 := List.count_le_length (a := x) (l := C)
  rw [List.length_append]; omega
theorem asc_len : ∀ {l : List Int} {p : Int}, List.Pairwise (· < ·) l → (∀ x ∈ l, p ≤ x ∧ x < 256) → p ≤ 256 → (l.length : Int) ≤ 256 - p
  | [], p, _, _, hp => by simp; omega
  | x :: r, p, h, hx, _ => by
    rw [List.pairwise_cons] at h
    have h1 := hx x (by simp)
    have := asc_len (p := x + 1) h.2 (fun y hy => ⟨by have := h.1 y hy; omega, (hx y (by simp [hy])).2⟩) (by omega)
    simp only [List.length_cons, Int.natCast_add, Int.natCast_one]
    omega
theorem cov_len : ∀ (n : Nat) (f : Int), (cov f n).length = n
  | 0, _ => rfl
  | n + 1, f => by show (cov (f + 1) n).length + 1 = _; rw [cov_len n]
theorem covL_len (k : Nat) : ∀ l : List Int, (covL k l).length = 2 ^ k * l.length
  | [] => by simp [covL]
  | x :: r => by
    have e : covL k (x :: r) = cov x (2 ^ k) ++ covL k r := rfl
    rw [e, List.length_append, cov_len, covL_len k r, List.length_cons, Nat.mul_add, Nat.mul_one]; omega
theorem ins_range {st ct x : Int} {k : Nat} (h : insideB st ct x k = true) (r1 : 0 ≤ st) (r4 : ct ≤ 256 - st) : 0 ≤ x ∧ x + pw k ≤ 256 := by
  unfold insideB at h
  rw [decide_eq_true_eq] at h
  omega
theorem val_len {st ct : Int} {k : Nat} {l : List Int} (h : Val st ct k false 0 l) (r1 : 0 ≤ st) (r4 : ct ≤ 256 - st) : l.length ≤ 256 := by
  have := asc_len (p := 0) h.asc (fun x hx => by have := ins_range (h.ins x hx) r1 r4; have := pw_pos k; omega) (by omega)
  omega
theorem make_ints (w : World) {ops : Array Oper} {rest : List Oper} {x : Oper} {a : Act} {Q : Exit → Act → World → Prop} (hg : x.guard = none) (l c : Operand) (hop : x.op = Op.makeSlice 33 l c) (kl kc : IntKind)
    (hl : a.eval l = .int kl 256) (hc : a.eval c = .int kc 256)
    (hK : ∀ w', Cnt w' w.heap.size w.heap.size [] → w.grownBy w' none → wpList Try.prog ops Q rest (a.put x.dst (.slice (some ⟨w.heap.size, 0, none⟩) 256 256)) w') :
    wpList Try.prog ops Q (x :: rest) a w := by
  obtain ⟨i, hi, hz0, hz1, hz2⟩ := info_parts (show (Try.prog.info? 3).map (fun i => (i.zero, i.size, i.bytes)) = some (some (.int .i64 0), 1, 8) by kernel_rfl)
  refine wpList_make_full w hg l c 33 hop w.heap.size 3 i (.int .i64 0) 1 Try.underlying33 hi hz0 hz1 kl kc 256 256 256 hl hc rfl rfl (by rw [hz2]; decide) (by unfold maxLen; omega) (Nat.le_refl _) ?_
  rw [made_ints, ← cnt_nil]
  exact hK

set_option maxRecDepth 100000 in set_option maxHeartbeats 3200000 in
theorem set_39 (nd kd st ct mn : Int) (a0 a1 a2 a3 a4 : Option Addr) (l0 l1 l2 l3 l4 : List Int) (n0 n1 n2 n3 n4 c0 c1 c2 c3 c4 : Nat) (w : World) (r1 : 0 ≤ st) (_r2 : st < 256) (_r3 : 1 ≤ ct) (r4 : ct ≤ 256 - st) (H0 : Ints w a0 l0) (H1 : Ints w a1 l1) (H2 : Ints w a2 l2) (H3 : Ints w a3 l3) (H4 : Ints w a4 l4) (h0 : l0.length = n0) (h1 : l1.length = n1) (h2 : l2.length = n2) (h3 : l3.length = n3) (h4 : l4.length = n4) (m0 : n0 ≤ maxLen) (m1 : n1 ≤ maxLen) (m2 : n2 ≤ maxLen) (m3 : n3 ≤ maxLen) (m4 : n4 ≤ maxLen) (hle : le st ct 0 [l0, l1, l2, l3, l4] = 0) :
    Calls Try.prog 39 #[.agg #[.int .i64 nd, .int .i64 kd, .int .i64 st, .int .i64 ct, .int .i64 mn, .slice a0 n0 c0, .slice a1 n1 c1, .slice a2 n2 c2, .slice a3 n3 c3, .slice a4 n4 c4]] w fun e w' => ∃ g, e = .returned (.slice (some ⟨g, 0, none⟩) 256 256) ∧ Cnt w' w.heap.size g (covA 0 [l0, l1, l2, l3, l4]) ∧ Below w.heap.size w w' := by
  have B1 := below_box w (.cells #[.int .i64 nd, .int .i64 kd, .int .i64 st, .int .i64 ct, .int .i64 mn, .slice a0 n0 c0, .slice a1 n1 c1, .slice a2 n2 c2, .slice a3 n3 c3, .slice a4 n4 c4] 44)
  have z0 : (w.alloc (.cells #[.int .i64 nd, .int .i64 kd, .int .i64 st, .int .i64 ct, .int .i64 mn, .slice a0 n0 c0, .slice a1 n1 c1, .slice a2 n2 c2, .slice a3 n3 c3, .slice a4 n4 c4] 44)).cell? ⟨w.heap.size, 0, none⟩ = some (.int .i64 nd) := zcell w _ _ 0
  have z1 : (w.alloc (.cells #[.int .i64 nd, .int .i64 kd, .int .i64 st, .int .i64 ct, .int .i64 mn, .slice a0 n0 c0, .slice a1 n1 c1, .slice a2 n2 c2, .slice a3 n3 c3, .slice a4 n4 c4] 44)).cell? ⟨w.heap.size, 1, none⟩ = some (.int .i64 kd) := zcell w _ _ 1
  have z2 : (w.alloc (.cells #[.int .i64 nd, .int .i64 kd, .int .i64 st, .int .i64 ct, .int .i64 mn, .slice a0 n0 c0, .slice a1 n1 c1, .slice a2 n2 c2, .slice a3 n3 c3, .slice a4 n4 c4] 44)).cell? ⟨w.heap.size, 2, none⟩ = some (.int .i64 st) := zcell w _ _ 2
  have z3 : (w.alloc (.cells #[.int .i64 nd, .int .i64 kd, .int .i64 st, .int .i64 ct, .int .i64 mn, .slice a0 n0 c0, .slice a1 n1 c1, .slice a2 n2 c2, .slice a3 n3 c3, .slice a4 n4 c4] 44)).cell? ⟨w.heap.size, 3, none⟩ = some (.int .i64 ct) := zcell w _ _ 3
  have z4 : (w.alloc (.cells #[.int .i64 nd, .int .i64 kd, .int .i64 st, .int .i64 ct, .int .i64 mn, .slice a0 n0 c0, .slice a1 n1 c1, .slice a2 n2 c2, .slice a3 n3 c3, .slice a4 n4 c4] 44)).cell? ⟨w.heap.size, 4, none⟩ = some (.int .i64 mn) := zcell w _ _ 4
  have z5 : (w.alloc (.cells #[.int .i64 nd, .int .i64 kd, .int .i64 st, .int .i64 ct, .int .i64 mn, .slice a0 n0 c0, .slice a1 n1 c1, .slice a2 n2 c2, .slice a3 n3 c3, .slice a4 n4 c4] 44)).cell? ⟨w.heap.size, 5, none⟩ = some (.slice a0 n0 c0) := zcell w _ _ 5
  have z6 : (w.alloc (.cells #[.int .i64 nd, .int .i64 kd, .int .i64 st, .int .i64 ct, .int .i64 mn, .slice a0 n0 c0, .slice a1 n1 c1, .slice a2 n2 c2, .slice a3 n3 c3, .slice a4 n4 c4] 44)).cell? ⟨w.heap.size, 6, none⟩ = some (.slice a1 n1 c1) := zcell w _ _ 6
  have z7 : (w.alloc (.cells #[.int .i64 nd, .int .i64 kd, .int .i64 st, .int .i64 ct, .int .i64 mn, .slice a0 n0 c0, .slice a1 n1 c1, .slice a2 n2 c2, .slice a3 n3 c3, .slice a4 n4 c4] 44)).cell? ⟨w.heap.size, 7, none⟩ = some (.slice a2 n2 c2) := zcell w _ _ 7
  have z8 : (w.alloc (.cells #[.int .i64 nd, .int .i64 kd, .int .i64 st, .int .i64 ct, .int .i64 mn, .slice a0 n0 c0, .slice a1 n1 c1, .slice a2 n2 c2, .slice a3 n3 c3, .slice a4 n4 c4] 44)).cell? ⟨w.heap.size, 8, none⟩ = some (.slice a3 n3 c3) := zcell w _ _ 8
  have z9 : (w.alloc (.cells #[.int .i64 nd, .int .i64 kd, .int .i64 st, .int .i64 ct, .int .i64 mn, .slice a0 n0 c0, .slice a1 n1 c1, .slice a2 n2 c2, .slice a3 n3 c3, .slice a4 n4 c4] 44)).cell? ⟨w.heap.size, 9, none⟩ = some (.slice a4 n4 c4) := zcell w _ _ 9
  obtain ⟨w1, hw1⟩ : ∃ W, W = w.alloc (.cells #[.int .i64 nd, .int .i64 kd, .int .i64 st, .int .i64 ct, .int .i64 mn, .slice a0 n0 c0, .slice a1 n1 c1, .slice a2 n2 c2, .slice a3 n3 c3, .slice a4 n4 c4] 44) := ⟨_, rfl⟩
  rw [← hw1] at B1 z0 z1 z2 z3 z4 z5 z6 z7 z8 z9
  have Z0 := Lib.hid z0
  have Z1 := Lib.hid z1
  have Z2 := Lib.hid z2
  have Z3 := Lib.hid z3
  have Z4 := Lib.hid z4
  have Z5 := Lib.hid z5
  have Z6 := Lib.hid z6
  have Z7 := Lib.hid z7
  have Z8 := Lib.hid z8
  have Z9 := Lib.hid z9
  have G0 := H0.below B1
  have G1 := H1.below B1
  have G2 := H2.below B1
  have G3 := H3.below B1
  have G4 := H4.below B1
  have N0 := Lib.hid h0
  have N1 := Lib.hid h1
  have N2 := Lib.hid h2
  have N3 := Lib.hid h3
  have N4 := Lib.hid h4
  have HW := Lib.hid hw1
  unfold maxLen at m0 m1 m2 m3 m4
  clear hw1 h0 h1 h2 h3 h4
  have e0 : le1 st ct 0 false 0 l0 = 0 := by
    rcases Decidable.em (le1 st ct 0 false 0 l0 = 0) with h | h
    · exact h
    · rw [le_bad h] at hle; exact absurd hle h
  rw [le_ok e0] at hle
  have V0 := Lib.hid (le1_val e0)
  clear e0
  have e1 : le1 st ct 1 false 0 l1 = 0 := by
    rcases Decidable.em (le1 st ct 1 false 0 l1 = 0) with h | h
    · exact h
    · rw [le_bad h] at hle; exact absurd hle h
  rw [le_ok e1] at hle
  have V1 := Lib.hid (le1_val e1)
  clear e1
  have e2 : le1 st ct 2 false 0 l2 = 0 := by
    rcases Decidable.em (le1 st ct 2 false 0 l2 = 0) with h | h
    · exact h
    · rw [le_bad h] at hle; exact absurd hle h
  rw [le_ok e2] at hle
  have V2 := Lib.hid (le1_val e2)
  clear e2
  have e3 : le1 st ct 3 false 0 l3 = 0 := by
    rcases Decidable.em (le1 st ct 3 false 0 l3 = 0) with h | h
    · exact h
    · rw [le_bad h] at hle; exact absurd hle h
  rw [le_ok e3] at hle
  have V3 := Lib.hid (le1_val e3)
  clear e3
  have e4 : le1 st ct 4 false 0 l4 = 0 := by
    rcases Decidable.em (le1 st ct 4 false 0 l4 = 0) with h | h
    · exact h
    · rw [le_bad h] at hle; exact absurd hle h
  rw [le_ok e4] at hle
  have V4 := Lib.hid (le1_val e4)
  clear e4
  have hTl : (covA 0 [l0, l1, l2, l3, l4]).length ≤ 8000 := by
    have q0 := val_len V0.out r1 r4
    have q1 := val_len V1.out r1 r4
    have q2 := val_len V2.out r1 r4
    have q3 := val_len V3.out r1 r4
    have q4 := val_len V4.out r1 r4
    simp only [covA, List.length_append, covL_len, List.length_nil]
    omega
  obtain ⟨T, hT⟩ : ∃ T, covA 0 [l0, l1, l2, l3, l4] = T := ⟨_, rfl⟩
  rw [hT] at hTl ⊢
  have HTL := Lib.hid hTl
  have HT := Lib.hid hT
  clear hT hTl hle z0 z1 z2 z3 z4 z5 z6 z7 z8 z9
  go_enter Try.func39, Try.ntmps39
  go_wp2_with (at_make; rw [← HW.out]; refine make_ints w1 rfl _ _ rfl .i64 .i64 rfl rfl ?_)
  intro w2 hC2 hg2
  have b2 := grown_none hg2
  obtain ⟨gB, hgB⟩ : ∃ z, z = w1.heap.size := ⟨_, rfl⟩
  rw [← hgB] at hC2 ⊢
  have hgb : w1.heap.size ≤ gB := by omega
  have hC2 : Cnt w2 w.heap.size gB [] := ⟨hC2.1, by rcases hC2.2 with h | ⟨g', cap, cur, h1, h2, h3⟩; exact .inl h; exact .inr ⟨g', cap, cur, h1, Nat.le_trans (Nat.le_trans B1.size hgb) h2, h3⟩⟩
  clear hgB HW hg2
  go_wp2
  go_loopg [4] 5 (fun g i0 wr => ∃ (i : Nat) (C : List Int), i + g = 5 ∧ i0 = .int .i64 i ∧ T = C ++ covA i ([l0, l1, l2, l3, l4].drop i) ∧ Cnt wr w.heap.size gB C ∧ Below w1.heap.size w1 wr)
  case atStart => exact ⟨0, [], by omega, rfl, HT.out.symm, hC2, b2⟩
  case round =>
    clear hC2 b2
    obtain ⟨i, C, hg, rfl, hEi, hC, hb⟩ := hrel
    have HEI := Lib.hid hEi
    clear hEi
    rcases (show i = 0 ∨ i = 1 ∨ i = 2 ∨ i = 3 ∨ i = 4 ∨ i = 5 by omega) with rfl | rfl | rfl | rfl | rfl | rfl
    · obtain ⟨g, rfl⟩ : ∃ g, gk = g + 1 := ⟨gk - 1, by omega⟩
      have HEL : Hid (T = C ++ (covL 0 l0 ++ covA (0 + 1) [l1, l2, l3, l4])) := Lib.hid HEI.out
      clear HEI
      go_wp2
      go_loopg [5] n0 (fun g2 j0 wi => ∃ (j : Nat) (C : List Int), j + g2 = n0 ∧ j0 = .int .i64 j ∧ T = C ++ (covL 0 (l0.drop j) ++ covA (0 + 1) [l1, l2, l3, l4]) ∧ Cnt wi w.heap.size gB C ∧ Below w1.heap.size w1 wi)
      case atStart => exact ⟨0, C, by omega, rfl, HEL.out, hC, hb⟩
      case round =>
        clear hb hC HEL
        obtain ⟨j, C, hj, rfl, hl, hC, hb⟩ := hrel
        have z0 := cell_later hb Z0.out
        have z1 := cell_later hb Z1.out
        have z2 := cell_later hb Z2.out
        have z3 := cell_later hb Z3.out
        have z4 := cell_later hb Z4.out
        have z5 := cell_later hb Z5.out
        have z6 := cell_later hb Z6.out
        have z7 := cell_later hb Z7.out
        have z8 := cell_later hb Z8.out
        have z9 := cell_later hb Z9.out
        cases gk with
        | zero =>
          obtain rfl : j = n0 := by omega
          have HOK := Lib.hid (show T = C ++ covA (0 + 1) [l1, l2, l3, l4] by rw [hl, List.drop_eq_nil_of_le (by rw [N0.out]; exact Nat.le_refl _)]; rfl)
          clear hj hl
          go_wp2
          go_roundg g
          case rel => exact ⟨0 + 1, C, by omega, by go_num, HOK.out, hC, hb⟩
          case measure => omega
        | succ g2 =>
          have hjn : j < n0 := by omega
          obtain ⟨x, hx⟩ := get_some N0.out hjn
          have hxi := ins_range (V0.out.ins x (List.mem_of_getElem? hx)) r1 r4
          rw [pw_0] at hxi
          obtain ⟨hx0, hx1⟩ := hxi
          have HST := Lib.hid (show T = C ++ (cov (x + (0 : Nat)) (1 - 0) ++ (covL 0 (l0.drop (j + 1)) ++ covA (0 + 1) [l1, l2, l3, l4])) by rw [hl, covL_step hx, Int.natCast_zero, Int.add_zero, List.append_assoc])
          have HJ := Lib.hid hj; have HX := Lib.hid hx
          obtain ⟨b, off, rfl, cx⟩ := (G0.below hb).at hx
          clear hl hj hx
          go_wp2
          go_loopg [6] 1 (fun g3 f0 wj => ∃ (i : Nat) (C : List Int), i + g3 = 1 ∧ f0 = .int .i64 (x + (i : Int)) ∧ T = C ++ (cov (x + (i : Nat)) (1 - i) ++ (covL 0 (l0.drop (j + 1)) ++ covA (0 + 1) [l1, l2, l3, l4])) ∧ Cnt wj w.heap.size gB C ∧ Below w1.heap.size w1 wj)
          case atStart => exact ⟨0, C, by omega, by rw [Int.natCast_zero, Int.add_zero], HST.out, hC, hb⟩
          case round =>
            clear hb hC HST cx z0 z1 z2 z3 z4 z5 z6 z7 z8 z9
            obtain ⟨i, C, hi, rfl, hl, hC, hb⟩ := hrel
            obtain ⟨_, _, hV, cx⟩ := (G0.below hb).at HX.out
            cases hV
            have z5 := cell_later hb Z5.out
            cases gk with
            | zero =>
              obtain rfl : i = 1 := by omega
              have HOK := Lib.hid (show T = C ++ (covL 0 (l0.drop (j + 1)) ++ covA (0 + 1) [l1, l2, l3, l4]) by rw [hl]; rfl)
              clear hi hl
              go_wp2
              go_roundg g2
              case rel => exact ⟨j + 1, C, by have := HJ.out; omega, by go_num, HOK.out, hC, hb⟩
              case measure => omega
            | succ g3 =>
              have hip : i < 1 := by omega
              rw [cov_step x hip] at hl
              obtain ⟨y, hy⟩ : ∃ y : Nat, x + (i : Int) = (y : Int) := ⟨(x + i).toNat, by omega⟩
              have hy256 : y < 256 := by omega
              rw [hy] at hl
              obtain ⟨q0, q1⟩ := hC.cell hy256
              have hcl := count_le (C := C) (R := ((y : Int) :: cov (x + ((i + 1 : Nat) : Int)) (1 - (i + 1))) ++ (covL 0 (l0.drop (j + 1)) ++ covA (0 + 1) [l1, l2, l3, l4])) (x := (y : Int))
              have hput := hC.put y
              obtain ⟨cc, hcc⟩ : ∃ cc : Nat, C.count (y : Int) = cc := ⟨_, rfl⟩
              rw [hcc] at q0 hput hcl
              have hcs : (cc : Int) ≤ 1000000 := by
                rw [← hl] at hcl
                have := HTL.out
                omega
              have HI := Lib.hid hi
              have HNX := Lib.hid (show T = (C ++ [(y : Int)]) ++ (cov (x + ((i + 1 : Nat) : Int)) (1 - (i + 1)) ++ (covL 0 (l0.drop (j + 1)) ++ covA (0 + 1) [l1, l2, l3, l4])) by rw [hl]; simp)
              clear hi hl hcl hC
              go_wp2
              go_roundg g3
              case rel => exact ⟨i + 1, C ++ [(y : Int)], by have := HI.out; omega, by go_num, HNX.out, hput, hb.setCell (by exact hgb) _⟩
              case measure => omega
    · obtain ⟨g, rfl⟩ : ∃ g, gk = g + 1 := ⟨gk - 1, by omega⟩
      have HEL : Hid (T = C ++ (covL 1 l1 ++ covA (1 + 1) [l2, l3, l4])) := Lib.hid HEI.out
      clear HEI
      go_wp2
      go_loopg [5] n1 (fun g2 j0 wi => ∃ (j : Nat) (C : List Int), j + g2 = n1 ∧ j0 = .int .i64 j ∧ T = C ++ (covL 1 (l1.drop j) ++ covA (1 + 1) [l2, l3, l4]) ∧ Cnt wi w.heap.size gB C ∧ Below w1.heap.size w1 wi)
      case atStart => exact ⟨0, C, by omega, rfl, HEL.out, hC, hb⟩
      case round =>
        clear hb hC HEL
        obtain ⟨j, C, hj, rfl, hl, hC, hb⟩ := hrel
        have z0 := cell_later hb Z0.out
        have z1 := cell_later hb Z1.out
        have z2 := cell_later hb Z2.out
        have z3 := cell_later hb Z3.out
        have z4 := cell_later hb Z4.out
        have z5 := cell_later hb Z5.out
        have z6 := cell_later hb Z6.out
        have z7 := cell_later hb Z7.out
        have z8 := cell_later hb Z8.out
        have z9 := cell_later hb Z9.out
        cases gk with
        | zero =>
          obtain rfl : j = n1 := by omega
          have HOK := Lib.hid (show T = C ++ covA (1 + 1) [l2, l3, l4] by rw [hl, List.drop_eq_nil_of_le (by rw [N1.out]; exact Nat.le_refl _)]; rfl)
          clear hj hl
          go_wp2
          go_roundg g
          case rel => exact ⟨1 + 1, C, by omega, by go_num, HOK.out, hC, hb⟩
          case measure => omega
        | succ g2 =>
          have hjn : j < n1 := by omega
          obtain ⟨x, hx⟩ := get_some N1.out hjn
          have hxi := ins_range (V1.out.ins x (List.mem_of_getElem? hx)) r1 r4
          rw [pw_1] at hxi
          obtain ⟨hx0, hx1⟩ := hxi
          have HST := Lib.hid (show T = C ++ (cov (x + (0 : Nat)) (2 - 0) ++ (covL 1 (l1.drop (j + 1)) ++ covA (1 + 1) [l2, l3, l4])) by rw [hl, covL_step hx, Int.natCast_zero, Int.add_zero, List.append_assoc])
          have HJ := Lib.hid hj; have HX := Lib.hid hx
          obtain ⟨b, off, rfl, cx⟩ := (G1.below hb).at hx
          clear hl hj hx
          go_wp2
          go_loopg [6] 2 (fun g3 f0 wj => ∃ (i : Nat) (C : List Int), i + g3 = 2 ∧ f0 = .int .i64 (x + (i : Int)) ∧ T = C ++ (cov (x + (i : Nat)) (2 - i) ++ (covL 1 (l1.drop (j + 1)) ++ covA (1 + 1) [l2, l3, l4])) ∧ Cnt wj w.heap.size gB C ∧ Below w1.heap.size w1 wj)
          case atStart => exact ⟨0, C, by omega, by rw [Int.natCast_zero, Int.add_zero], HST.out, hC, hb⟩
          case round =>
            clear hb hC HST cx z0 z1 z2 z3 z4 z5 z6 z7 z8 z9
            obtain ⟨i, C, hi, rfl, hl, hC, hb⟩ := hrel
            obtain ⟨_, _, hV, cx⟩ := (G1.below hb).at HX.out
            cases hV
            have z6 := cell_later hb Z6.out
            cases gk with
            | zero =>
              obtain rfl : i = 2 := by omega
              have HOK := Lib.hid (show T = C ++ (covL 1 (l1.drop (j + 1)) ++ covA (1 + 1) [l2, l3, l4]) by rw [hl]; rfl)
              clear hi hl
              go_wp2
              go_roundg g2
              case rel => exact ⟨j + 1, C, by have := HJ.out; omega, by go_num, HOK.out, hC, hb⟩
              case measure => omega
            | succ g3 =>
              have hip : i < 2 := by omega
              rw [cov_step x hip] at hl
              obtain ⟨y, hy⟩ : ∃ y : Nat, x + (i : Int) = (y : Int) := ⟨(x + i).toNat, by omega⟩
              have hy256 : y < 256 := by omega
              rw [hy] at hl
              obtain ⟨q0, q1⟩ := hC.cell hy256
              have hcl := count_le (C := C) (R := ((y : Int) :: cov (x + ((i + 1 : Nat) : Int)) (2 - (i + 1))) ++ (covL 1 (l1.drop (j + 1)) ++ covA (1 + 1) [l2, l3, l4])) (x := (y : Int))
              have hput := hC.put y
              obtain ⟨cc, hcc⟩ : ∃ cc : Nat, C.count (y : Int) = cc := ⟨_, rfl⟩
              rw [hcc] at q0 hput hcl
              have hcs : (cc : Int) ≤ 1000000 := by
                rw [← hl] at hcl
                have := HTL.out
                omega
              have HI := Lib.hid hi
              have HNX := Lib.hid (show T = (C ++ [(y : Int)]) ++ (cov (x + ((i + 1 : Nat) : Int)) (2 - (i + 1)) ++ (covL 1 (l1.drop (j + 1)) ++ covA (1 + 1) [l2, l3, l4])) by rw [hl]; simp)
              clear hi hl hcl hC
              go_wp2
              go_roundg g3
              case rel => exact ⟨i + 1, C ++ [(y : Int)], by have := HI.out; omega, by go_num, HNX.out, hput, hb.setCell (by exact hgb) _⟩
              case measure => omega
    · obtain ⟨g, rfl⟩ : ∃ g, gk = g + 1 := ⟨gk - 1, by omega⟩
      have HEL : Hid (T = C ++ (covL 2 l2 ++ covA (2 + 1) [l3, l4])) := Lib.hid HEI.out
      clear HEI
      go_wp2
      go_loopg [5] n2 (fun g2 j0 wi => ∃ (j : Nat) (C : List Int), j + g2 = n2 ∧ j0 = .int .i64 j ∧ T = C ++ (covL 2 (l2.drop j) ++ covA (2 + 1) [l3, l4]) ∧ Cnt wi w.heap.size gB C ∧ Below w1.heap.size w1 wi)
      case atStart => exact ⟨0, C, by omega, rfl, HEL.out, hC, hb⟩
      case round =>
        clear hb hC HEL
        obtain ⟨j, C, hj, rfl, hl, hC, hb⟩ := hrel
        have z0 := cell_later hb Z0.out
        have z1 := cell_later hb Z1.out
        have z2 := cell_later hb Z2.out
        have z3 := cell_later hb Z3.out
        have z4 := cell_later hb Z4.out
        have z5 := cell_later hb Z5.out
        have z6 := cell_later hb Z6.out
        have z7 := cell_later hb Z7.out
        have z8 := cell_later hb Z8.out
        have z9 := cell_later hb Z9.out
        cases gk with
        | zero =>
          obtain rfl : j = n2 := by omega
          have HOK := Lib.hid (show T = C ++ covA (2 + 1) [l3, l4] by rw [hl, List.drop_eq_nil_of_le (by rw [N2.out]; exact Nat.le_refl _)]; rfl)
          clear hj hl
          go_wp2
          go_roundg g
          case rel => exact ⟨2 + 1, C, by omega, by go_num, HOK.out, hC, hb⟩
          case measure => omega
        | succ g2 =>
          have hjn : j < n2 := by omega
          obtain ⟨x, hx⟩ := get_some N2.out hjn
          have hxi := ins_range (V2.out.ins x (List.mem_of_getElem? hx)) r1 r4
          rw [pw_2] at hxi
          obtain ⟨hx0, hx1⟩ := hxi
          have HST := Lib.hid (show T = C ++ (cov (x + (0 : Nat)) (4 - 0) ++ (covL 2 (l2.drop (j + 1)) ++ covA (2 + 1) [l3, l4])) by rw [hl, covL_step hx, Int.natCast_zero, Int.add_zero, List.append_assoc])
          have HJ := Lib.hid hj; have HX := Lib.hid hx
          obtain ⟨b, off, rfl, cx⟩ := (G2.below hb).at hx
          clear hl hj hx
          go_wp2
          go_loopg [6] 4 (fun g3 f0 wj => ∃ (i : Nat) (C : List Int), i + g3 = 4 ∧ f0 = .int .i64 (x + (i : Int)) ∧ T = C ++ (cov (x + (i : Nat)) (4 - i) ++ (covL 2 (l2.drop (j + 1)) ++ covA (2 + 1) [l3, l4])) ∧ Cnt wj w.heap.size gB C ∧ Below w1.heap.size w1 wj)
          case atStart => exact ⟨0, C, by omega, by rw [Int.natCast_zero, Int.add_zero], HST.out, hC, hb⟩
          case round =>
            clear hb hC HST cx z0 z1 z2 z3 z4 z5 z6 z7 z8 z9
            obtain ⟨i, C, hi, rfl, hl, hC, hb⟩ := hrel
            obtain ⟨_, _, hV, cx⟩ := (G2.below hb).at HX.out
            cases hV
            have z7 := cell_later hb Z7.out
            cases gk with
            | zero =>
              obtain rfl : i = 4 := by omega
              have HOK := Lib.hid (show T = C ++ (covL 2 (l2.drop (j + 1)) ++ covA (2 + 1) [l3, l4]) by rw [hl]; rfl)
              clear hi hl
              go_wp2
              go_roundg g2
              case rel => exact ⟨j + 1, C, by have := HJ.out; omega, by go_num, HOK.out, hC, hb⟩
              case measure => omega
            | succ g3 =>
              have hip : i < 4 := by omega
              rw [cov_step x hip] at hl
              obtain ⟨y, hy⟩ : ∃ y : Nat, x + (i : Int) = (y : Int) := ⟨(x + i).toNat, by omega⟩
              have hy256 : y < 256 := by omega
              rw [hy] at hl
              obtain ⟨q0, q1⟩ := hC.cell hy256
              have hcl := count_le (C := C) (R := ((y : Int) :: cov (x + ((i + 1 : Nat) : Int)) (4 - (i + 1))) ++ (covL 2 (l2.drop (j + 1)) ++ covA (2 + 1) [l3, l4])) (x := (y : Int))
              have hput := hC.put y
              obtain ⟨cc, hcc⟩ : ∃ cc : Nat, C.count (y : Int) = cc := ⟨_, rfl⟩
              rw [hcc] at q0 hput hcl
              have hcs : (cc : Int) ≤ 1000000 := by
                rw [← hl] at hcl
                have := HTL.out
                omega
              have HI := Lib.hid hi
              have HNX := Lib.hid (show T = (C ++ [(y : Int)]) ++ (cov (x + ((i + 1 : Nat) : Int)) (4 - (i + 1)) ++ (covL 2 (l2.drop (j + 1)) ++ covA (2 + 1) [l3, l4])) by rw [hl]; simp)
              clear hi hl hcl hC
              go_wp2
              go_roundg g3
              case rel => exact ⟨i + 1, C ++ [(y : Int)], by have := HI.out; omega, by go_num, HNX.out, hput, hb.setCell (by exact hgb) _⟩
              case measure => omega
    · obtain ⟨g, rfl⟩ : ∃ g, gk = g + 1 := ⟨gk - 1, by omega⟩
      have HEL : Hid (T = C ++ (covL 3 l3 ++ covA (3 + 1) [l4])) := Lib.hid HEI.out
      clear HEI
      go_wp2
      go_loopg [5] n3 (fun g2 j0 wi => ∃ (j : Nat) (C : List Int), j + g2 = n3 ∧ j0 = .int .i64 j ∧ T = C ++ (covL 3 (l3.drop j) ++ covA (3 + 1) [l4]) ∧ Cnt wi w.heap.size gB C ∧ Below w1.heap.size w1 wi)
      case atStart => exact ⟨0, C, by omega, rfl, HEL.out, hC, hb⟩
      case round =>
        clear hb hC HEL
        obtain ⟨j, C, hj, rfl, hl, hC, hb⟩ := hrel
        have z0 := cell_later hb Z0.out
        have z1 := cell_later hb Z1.out
        have z2 := cell_later hb Z2.out
        have z3 := cell_later hb Z3.out
        have z4 := cell_later hb Z4.out
        have z5 := cell_later hb Z5.out
        have z6 := cell_later hb Z6.out
        have z7 := cell_later hb Z7.out
        have z8 := cell_later hb Z8.out
        have z9 := cell_later hb Z9.out
        cases gk with
        | zero =>
          obtain rfl : j = n3 := by omega
          have HOK := Lib.hid (show T = C ++ covA (3 + 1) [l4] by rw [hl, List.drop_eq_nil_of_le (by rw [N3.out]; exact Nat.le_refl _)]; rfl)
          clear hj hl
          go_wp2
          go_roundg g
          case rel => exact ⟨3 + 1, C, by omega, by go_num, HOK.out, hC, hb⟩
          case measure => omega
        | succ g2 =>
          have hjn : j < n3 := by omega
          obtain ⟨x, hx⟩ := get_some N3.out hjn
          have hxi := ins_range (V3.out.ins x (List.mem_of_getElem? hx)) r1 r4
          rw [pw_3] at hxi
          obtain ⟨hx0, hx1⟩ := hxi
          have HST := Lib.hid (show T = C ++ (cov (x + (0 : Nat)) (8 - 0) ++ (covL 3 (l3.drop (j + 1)) ++ covA (3 + 1) [l4])) by rw [hl, covL_step hx, Int.natCast_zero, Int.add_zero, List.append_assoc])
          have HJ := Lib.hid hj; have HX := Lib.hid hx
          obtain ⟨b, off, rfl, cx⟩ := (G3.below hb).at hx
          clear hl hj hx
          go_wp2
          go_loopg [6] 8 (fun g3 f0 wj => ∃ (i : Nat) (C : List Int), i + g3 = 8 ∧ f0 = .int .i64 (x + (i : Int)) ∧ T = C ++ (cov (x + (i : Nat)) (8 - i) ++ (covL 3 (l3.drop (j + 1)) ++ covA (3 + 1) [l4])) ∧ Cnt wj w.heap.size gB C ∧ Below w1.heap.size w1 wj)
          case atStart => exact ⟨0, C, by omega, by rw [Int.natCast_zero, Int.add_zero], HST.out, hC, hb⟩
          case round =>
            clear hb hC HST cx z0 z1 z2 z3 z4 z5 z6 z7 z8 z9
            obtain ⟨i, C, hi, rfl, hl, hC, hb⟩ := hrel
            obtain ⟨_, _, hV, cx⟩ := (G3.below hb).at HX.out
            cases hV
            have z8 := cell_later hb Z8.out
            cases gk with
            | zero =>
              obtain rfl : i = 8 := by omega
              have HOK := Lib.hid (show T = C ++ (covL 3 (l3.drop (j + 1)) ++ covA (3 + 1) [l4]) by rw [hl]; rfl)
              clear hi hl
              go_wp2
              go_roundg g2
              case rel => exact ⟨j + 1, C, by have := HJ.out; omega, by go_num, HOK.out, hC, hb⟩
              case measure => omega
            | succ g3 =>
              have hip : i < 8 := by omega
              rw [cov_step x hip] at hl
              obtain ⟨y, hy⟩ : ∃ y : Nat, x + (i : Int) = (y : Int) := ⟨(x + i).toNat, by omega⟩
              have hy256 : y < 256 := by omega
              rw [hy] at hl
              obtain ⟨q0, q1⟩ := hC.cell hy256
              have hcl := count_le (C := C) (R := ((y : Int) :: cov (x + ((i + 1 : Nat) : Int)) (8 - (i + 1))) ++ (covL 3 (l3.drop (j + 1)) ++ covA (3 + 1) [l4])) (x := (y : Int))
              have hput := hC.put y
              obtain ⟨cc, hcc⟩ : ∃ cc : Nat, C.count (y : Int) = cc := ⟨_, rfl⟩
              rw [hcc] at q0 hput hcl
              have hcs : (cc : Int) ≤ 1000000 := by
                rw [← hl] at hcl
                have := HTL.out
                omega
              have HI := Lib.hid hi
              have HNX := Lib.hid (show T = (C ++ [(y : Int)]) ++ (cov (x + ((i + 1 : Nat) : Int)) (8 - (i + 1)) ++ (covL 3 (l3.drop (j + 1)) ++ covA (3 + 1) [l4])) by rw [hl]; simp)
              clear hi hl hcl hC
              go_wp2
              go_roundg g3
              case rel => exact ⟨i + 1, C ++ [(y : Int)], by have := HI.out; omega, by go_num, HNX.out, hput, hb.setCell (by exact hgb) _⟩
              case measure => omega
    · obtain ⟨g, rfl⟩ : ∃ g, gk = g + 1 := ⟨gk - 1, by omega⟩
      have HEL : Hid (T = C ++ (covL 4 l4 ++ covA (4 + 1) [])) := Lib.hid HEI.out
      clear HEI
      go_wp2
      go_loopg [5] n4 (fun g2 j0 wi => ∃ (j : Nat) (C : List Int), j + g2 = n4 ∧ j0 = .int .i64 j ∧ T = C ++ (covL 4 (l4.drop j) ++ covA (4 + 1) []) ∧ Cnt wi w.heap.size gB C ∧ Below w1.heap.size w1 wi)
      case atStart => exact ⟨0, C, by omega, rfl, HEL.out, hC, hb⟩
      case round =>
        clear hb hC HEL
        obtain ⟨j, C, hj, rfl, hl, hC, hb⟩ := hrel
        have z0 := cell_later hb Z0.out
        have z1 := cell_later hb Z1.out
        have z2 := cell_later hb Z2.out
        have z3 := cell_later hb Z3.out
        have z4 := cell_later hb Z4.out
        have z5 := cell_later hb Z5.out
        have z6 := cell_later hb Z6.out
        have z7 := cell_later hb Z7.out
        have z8 := cell_later hb Z8.out
        have z9 := cell_later hb Z9.out
        cases gk with
        | zero =>
          obtain rfl : j = n4 := by omega
          have HOK := Lib.hid (show T = C ++ covA (4 + 1) [] by rw [hl, List.drop_eq_nil_of_le (by rw [N4.out]; exact Nat.le_refl _)]; rfl)
          clear hj hl
          go_wp2
          go_roundg g
          case rel => exact ⟨4 + 1, C, by omega, by go_num, HOK.out, hC, hb⟩
          case measure => omega
        | succ g2 =>
          have hjn : j < n4 := by omega
          obtain ⟨x, hx⟩ := get_some N4.out hjn
          have hxi := ins_range (V4.out.ins x (List.mem_of_getElem? hx)) r1 r4
          rw [pw_4] at hxi
          obtain ⟨hx0, hx1⟩ := hxi
          have HST := Lib.hid (show T = C ++ (cov (x + (0 : Nat)) (16 - 0) ++ (covL 4 (l4.drop (j + 1)) ++ covA (4 + 1) [])) by rw [hl, covL_step hx, Int.natCast_zero, Int.add_zero, List.append_assoc])
          have HJ := Lib.hid hj; have HX := Lib.hid hx
          obtain ⟨b, off, rfl, cx⟩ := (G4.below hb).at hx
          clear hl hj hx
          go_wp2
          go_loopg [6] 16 (fun g3 f0 wj => ∃ (i : Nat) (C : List Int), i + g3 = 16 ∧ f0 = .int .i64 (x + (i : Int)) ∧ T = C ++ (cov (x + (i : Nat)) (16 - i) ++ (covL 4 (l4.drop (j + 1)) ++ covA (4 + 1) [])) ∧ Cnt wj w.heap.size gB C ∧ Below w1.heap.size w1 wj)
          case atStart => exact ⟨0, C, by omega, by rw [Int.natCast_zero, Int.add_zero], HST.out, hC, hb⟩
          case round =>
            clear hb hC HST cx z0 z1 z2 z3 z4 z5 z6 z7 z8 z9
            obtain ⟨i, C, hi, rfl, hl, hC, hb⟩ := hrel
            obtain ⟨_, _, hV, cx⟩ := (G4.below hb).at HX.out
            cases hV
            have z9 := cell_later hb Z9.out
            cases gk with
            | zero =>
              obtain rfl : i = 16 := by omega
              have HOK := Lib.hid (show T = C ++ (covL 4 (l4.drop (j + 1)) ++ covA (4 + 1) []) by rw [hl]; rfl)
              clear hi hl
              go_wp2
              go_roundg g2
              case rel => exact ⟨j + 1, C, by have := HJ.out; omega, by go_num, HOK.out, hC, hb⟩
              case measure => omega
            | succ g3 =>
              have hip : i < 16 := by omega
              rw [cov_step x hip] at hl
              obtain ⟨y, hy⟩ : ∃ y : Nat, x + (i : Int) = (y : Int) := ⟨(x + i).toNat, by omega⟩
              have hy256 : y < 256 := by omega
              rw [hy] at hl
              obtain ⟨q0, q1⟩ := hC.cell hy256
              have hcl := count_le (C := C) (R := ((y : Int) :: cov (x + ((i + 1 : Nat) : Int)) (16 - (i + 1))) ++ (covL 4 (l4.drop (j + 1)) ++ covA (4 + 1) [])) (x := (y : Int))
              have hput := hC.put y
              obtain ⟨cc, hcc⟩ : ∃ cc : Nat, C.count (y : Int) = cc := ⟨_, rfl⟩
              rw [hcc] at q0 hput hcl
              have hcs : (cc : Int) ≤ 1000000 := by
                rw [← hl] at hcl
                have := HTL.out
                omega
              have HI := Lib.hid hi
              have HNX := Lib.hid (show T = (C ++ [(y : Int)]) ++ (cov (x + ((i + 1 : Nat) : Int)) (16 - (i + 1)) ++ (covL 4 (l4.drop (j + 1)) ++ covA (4 + 1) [])) by rw [hl]; simp)
              clear hi hl hcl hC
              go_wp2
              go_roundg g3
              case rel => exact ⟨i + 1, C ++ [(y : Int)], by have := HI.out; omega, by go_num, HNX.out, hput, hb.setCell (by exact hgb) _⟩
              case measure => omega
    · have HE0 := Lib.hid (show T = C by rw [HEI.out]; exact List.append_nil _)
      clear HEI
      go_wp2
      go_ret
      exact ⟨gB, rfl, by rw [HE0.out]; exact hC, below_then B1 hb⟩
end Go.Proofs.Ytneibbefkjjlnaa
