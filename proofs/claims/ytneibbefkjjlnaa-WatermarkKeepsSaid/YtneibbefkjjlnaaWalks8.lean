/- The walk of the law that an allocation leaves its floor. -/
import Derived.Test.YtneibbefkjjlnaaWalks6
namespace Go.Proofs.Ytneibbefkjjlnaa
open Go.RowKit Go.Over
/-- Is there a block of an order from k to below j? -/
def blk (f : Nat → Int) (k j : Nat) : Bool := (List.range j).any fun i => decide (k ≤ i) && decide (0 < f i)
theorem blk_start (f : Nat → Int) (k : Nat) : blk f k k = false := by
  unfold blk
  rw [List.any_eq_false]
  intro i hi
  have := List.mem_range.1 hi
  simp; omega
theorem blk_step (f : Nat → Int) (k j : Nat) (h : k ≤ j) : blk f k (j + 1) = (blk f k j || decide (0 < f j)) := by
  unfold blk
  rw [List.range_succ, List.any_append]
  simp [h]
theorem blk_of {f : Nat → Int} {k j i : Nat} (h1 : k ≤ i) (h2 : i < j) (h3 : 0 < f i) : blk f k j = true := by
  unfold blk
  rw [List.any_eq_true]
  exact ⟨i, List.mem_range.2 h2, by simp [h1, h3]⟩
/-- What an allocation that is allowed knows. -/
theorem allowB_spec {f : Nat → Int} {fl k : Int} (h : allowB f fl k = true) : 0 ≤ fl ∧ validB f = true ∧ (0 ≤ k ∧ k ≤ 4) ∧ fl ≤ aboveI f 0 - pw k ∧ aboveI f k ≠ 0 := by
  unfold allowB at h
  split at h
  · rename_i hc
    simp only [allow4, Bool.and_eq_true, decide_eq_true_eq, Bool.not_eq_true', decide_eq_false_iff_not] at h
    exact ⟨hc.1, hc.2.1, hc.2.2, h.1.1.1.1.1, h.1.1.1.1.2⟩
  · cases h
theorem blk_true {f : Nat → Int} {n j : Nat} {k : Nat} (hv : validB f = true) (hz : ∀ i, n ≤ i → f i = 0) (hA : aboveI f k ≠ 0) (hk : k ≤ 4) (hj : n ≤ j ∨ 4 < j) : blk f k j = true := by
  have hb := (validB_iff f).1 hv
  have key : ∃ i, k ≤ i ∧ i ≤ 4 ∧ 0 < f i := by
    rcases (by omega : k = 0 ∨ k = 1 ∨ k = 2 ∨ k = 3 ∨ k = 4) with rfl | rfl | rfl | rfl | rfl
    all_goals
      simp [aboveI] at hA
      by_cases h4 : 0 < f 4
      · exact ⟨4, by omega, by omega, h4⟩
      try (by_cases h3 : 0 < f 3; exact ⟨3, by omega, by omega, h3⟩)
      try (by_cases h2 : 0 < f 2; exact ⟨2, by omega, by omega, h2⟩)
      try (by_cases h1 : 0 < f 1; exact ⟨1, by omega, by omega, h1⟩)
      try (by_cases h0 : 0 < f 0; exact ⟨0, by omega, by omega, h0⟩)
      exfalso; omega
  obtain ⟨i, h1, h2, h3⟩ := key
  refine blk_of h1 ?_ h3
  rcases hj with hj | hj
  · by_cases h : n ≤ i
    · have := hz i h; omega
    · omega
  · omega
theorem floorI_at {a b c x : Int} (h : 0 ≤ floorI a b c x) : (x = 0 ∧ floorI a b c x = a) ∨ (x = 1 ∧ floorI a b c x = a / 2) ∨ (x = 2 ∧ floorI a b c x = 0) := by
  unfold floorI at h ⊢
  split at h
  · rename_i hc
    rw [if_pos hc]
    split
    · exact .inl ⟨‹_›, rfl⟩
    · split
      · exact .inr (.inl ⟨‹_›, rfl⟩)
      · split
        · exact .inr (.inr ⟨‹_›, rfl⟩)
        · simp_all
  · omega
/-- What stays of the world behind the examples: the two boxed arguments. -/
def Two (w : World) (a b c : Int) (k x : Value) (W : World) : Prop :=
  Below w.heap.size w W ∧ w.heap.size + 2 ≤ W.heap.size ∧ W.cell? ⟨w.heap.size, 0, none⟩ = some (.int .i64 a) ∧ W.cell? ⟨w.heap.size, 1, none⟩ = some (.int .i64 b) ∧ W.cell? ⟨w.heap.size, 2, none⟩ = some (.int .i64 c) ∧ W.cell? ⟨w.heap.size + 1, 0, none⟩ = some k ∧ W.cell? ⟨w.heap.size + 1, 1, none⟩ = some x
theorem Two.next {w W W1 : World} {a b c : Int} {k x : Value} (h : Two w a b c k x W) (hb : Below W.heap.size W W1) : Two w a b c k x W1 :=
  ⟨below_then h.1 hb, Nat.le_trans h.2.1 hb.size, cell_later hb h.2.2.1, cell_later hb h.2.2.2.1, cell_later hb h.2.2.2.2.1, cell_later hb h.2.2.2.2.2.1, cell_later hb h.2.2.2.2.2.2⟩
theorem Two.drawn {w W : World} {a b c : Int} {k x : Value} (h : Two w a b c k x W) (m : Nat) : ∃ W2, W2 = W.drewN m ∧ Two w a b c k x W2 := ⟨_, rfl, h.next (below_drewN (Below.refl _ _) m)⟩
set_option maxHeartbeats 1600000 in
theorem law_keeps_long (a : Option Addr) (n c : Nat) (f : Nat → Int) (ma mb mc k x : Int) (w : World) (hn : 20 < n) (H : SliceInts w a n f) :
    Calls Try.prog 6 #[.slice a n c, .agg #[.int .i64 ma, .int .i64 mb, .int .i64 mc], .agg #[.int .i64 k, .int .i64 x]] w fun e w' => e = .returned (.bool true) ∧ Below w.heap.size w w' := by
  have hm := H.1
  have hn' : (20 : Int) < (n : Int) := by omega
  clear hn
  go_enter Try.func6, Try.ntmps6
  go_wp2_with (go_at_call 10; refine (awake_any _).mono ?_; rintro e w1 ⟨rfl, hb⟩; obtain ⟨hc, hf, hz⟩ := bcell2 hb; try simp only [World.size_alloc] at hc hf hz)
  go_ret
  exact ⟨rfl, (by repeat (first | with_reducible exact Below.refl _ _ | with_reducible assumption | with_reducible refine below_alloc ?_ _ | with_reducible refine Below.setCell ?_ (by first | exact Nat.le_refl _ | (simp; done) | (simp; omega)) _ | with_reducible refine Below.drew ?_ | with_reducible refine below_drewN ?_ _ | with_reducible refine below_then ?_ (by with_reducible assumption)))⟩
set_option maxHeartbeats 1600000 in
theorem law_keeps_no (a : Option Addr) (n c : Nat) (f : Nat → Int) (ma mb mc k x : Int) (w : World) (hn : n ≤ 20) (H : SliceInts w a n f) (hA : allowB f (floorI ma mb mc x) k = false) :
    Calls Try.prog 6 #[.slice a n c, .agg #[.int .i64 ma, .int .i64 mb, .int .i64 mc], .agg #[.int .i64 k, .int .i64 x]] w fun e w' => e = .returned (.bool true) ∧ Below w.heap.size w w' := by
  have hn' : (n : Int) ≤ 20 := by omega
  clear hn
  go_enter Try.func6, Try.ntmps6
  (go_wp2_with (go_at_call 10; refine (awake_any _).mono ?_; rintro e w1 ⟨rfl, hb⟩; obtain ⟨hc, hf, hz⟩ := bcell2 hb; try simp only [World.size_alloc] at hc hf hz))
  refine wp_forget (Two w ma mb mc (.int .i64 k) (.int .i64 x)) ?_ ?_
  · refine ⟨(by repeat (first | with_reducible exact Below.refl _ _ | with_reducible assumption | with_reducible refine below_alloc ?_ _ | with_reducible refine Below.setCell ?_ (by first | exact Nat.le_refl _ | (simp; done) | (simp; omega)) _ | with_reducible refine Below.drew ?_ | with_reducible refine below_drewN ?_ _ | with_reducible refine below_then ?_ (by with_reducible assumption))), by omega, ?_, ?_, ?_, ?_, ?_⟩ <;> (first | (simp [go_sem, *]; done) | (simp [go_sem, ↓IntWalk.iteOmega, *]; done))
  intro W0 hT0
  clear hb hc hf hz
  have hT1 := hT0
  obtain ⟨_, _, h1, h2, h3, h4, h5⟩ := hT1
  go_quiet (fail)
  obtain ⟨W, hW, hT⟩ := hT0.drawn nq
  rw [← hW]
  clear hW hT0 h1 h2 h3 h4 h5
  have hT2 := hT
  obtain ⟨hB, hZ, h1, h2, h3, h4, h5⟩ := hT2
  have HW := H.below hB
  go_wp2_with (first | (go_at_call 21; refine (valid_law _ _ _ f _ HW).mono ?_; rintro e w' ⟨rfl, rfl⟩) | (go_at_call 19; refine (allowed_any _ _ _ f _ _ _ _ _ _ HW).mono ?_; rintro e w1 ⟨rfl, hb⟩; rw [hA]))
  go_ret
  exact ⟨rfl, (by repeat (first | with_reducible exact Below.refl _ _ | with_reducible assumption | with_reducible refine below_alloc ?_ _ | with_reducible refine Below.setCell ?_ (by first | exact Nat.le_refl _ | (simp; done) | (simp; omega)) _ | with_reducible refine Below.drew ?_ | with_reducible refine below_drewN ?_ _ | with_reducible refine below_then ?_ (by with_reducible assumption)))⟩
set_option maxHeartbeats 1600000 in
theorem law_keeps_0_0 (a : Option Addr) (n c : Nat) (f : Nat → Int) (ma mb mc : Int) (w : World) (hn : n ≤ 20) (H : SliceInts w a n f) (hA : allowB f (floorI ma mb mc 0) 0 = true) (_hma : 0 ≤ ma) (hfl : floorI ma mb mc 0 = ma) :
    Calls Try.prog 6 #[.slice a n c, .agg #[.int .i64 ma, .int .i64 mb, .int .i64 mc], .agg #[.int .i64 0, .int .i64 0]] w fun e w' => e = .returned (.bool true) ∧ Below w.heap.size w w' := by
  have hn' : (n : Int) ≤ 20 := by omega
  obtain ⟨_, hv, _, hle, hne⟩ := allowB_spec hA
  have hbd := aboveI_bd hv 0
  have hT : totI f = aboveI f 0 := by unfold totI; rw [if_pos hv]
  rw [show pw 0 = 1 by decide, hfl] at hle
  have hF : ∀ j, (0 ≤ j) → (n ≤ j ∨ 4 < j) → blk f 0 j = true := fun j _ hj => blk_true hv H.2.2 hne (by decide) hj
  have HF := Lib.hid hF
  have HFL := Lib.hid hfl
  clear hne hF hfl
  go_enter Try.func6, Try.ntmps6
  (go_wp2_with (go_at_call 10; refine (awake_any _).mono ?_; rintro e w1 ⟨rfl, hb⟩; obtain ⟨hc, hf, hz⟩ := bcell2 hb; try simp only [World.size_alloc] at hc hf hz))
  refine wp_forget (Two w ma mb mc (.int .i64 0) (.int .i64 0)) ?_ ?_
  · refine ⟨(by repeat (first | with_reducible exact Below.refl _ _ | with_reducible assumption | with_reducible refine below_alloc ?_ _ | with_reducible refine Below.setCell ?_ (by first | exact Nat.le_refl _ | (simp; done) | (simp; omega)) _ | with_reducible refine Below.drew ?_ | with_reducible refine below_drewN ?_ _ | with_reducible refine below_then ?_ (by with_reducible assumption))), by omega, ?_, ?_, ?_, ?_, ?_⟩ <;> (first | (simp [go_sem, *]; done) | (simp [go_sem, ↓IntWalk.iteOmega, *]; done))
  intro W0 hT0
  clear hb hc hf hz
  have hT1 := hT0
  obtain ⟨_, _, h1, h2, h3, h4, h5⟩ := hT1
  go_quiet (fail)
  obtain ⟨W, hW, hTw⟩ := hT0.drawn nq
  rw [← hW]
  clear hW hT0 h1 h2 h3 h4 h5
  have hT2 := hTw
  obtain ⟨hB, hZ, h1, h2, h3, h4, h5⟩ := hT2
  have HW := H.below hB
  go_wp2_with (first | (go_at_call 21; refine (valid_law _ _ _ f _ HW).mono ?_; rintro e w' ⟨rfl, rfl⟩; rw [hv]) | (go_at_call 19; refine (allowed_any _ _ _ f _ _ _ _ _ _ HW).mono ?_; rintro e w1 ⟨rfl, hb⟩; rw [hA]; obtain ⟨hc, hf, hz⟩ := bcell2 hb; have HW1 := HW.below hb; have hb1 := below_then hB hb))
  have hm := H.1
  clear hc hf
  go_loop [12, 13] (fun b i => ∃ j : Nat, 0 ≤ j ∧ j ≤ 5 ∧ i = .int .i64 j ∧ b = .bool (blk f 0 j)) (fun _ i => 5 - (intOf i).toNat)
  case atStart => exact ⟨0, Nat.le_refl _, by decide, rfl, by rw [blk_start]⟩
  case round =>
    obtain ⟨j, hj1, hj2, rfl, rfl⟩ := hrel
    have HS := Lib.hid (blk_step f 0 j hj1)
    by_cases hx : n ≤ j ∨ 4 < j
    · have hE := HF.out j hj1 hx
      rcases hx with hx | hx
      · have hx' : ¬ (j : Int) < (n : Int) := by omega
        go_wp2
        go_ret
        exact ⟨by simp_all, (by repeat (first | with_reducible exact Below.refl _ _ | with_reducible assumption | with_reducible refine below_alloc ?_ _ | with_reducible refine Below.setCell ?_ (by first | exact Nat.le_refl _ | (simp; done) | (simp; omega)) _ | with_reducible refine Below.drew ?_ | with_reducible refine below_drewN ?_ _ | with_reducible refine below_then ?_ (by with_reducible assumption)))⟩
      · by_cases hx2 : j < n
        · go_wp2
          go_ret
          exact ⟨by simp_all, (by repeat (first | with_reducible exact Below.refl _ _ | with_reducible assumption | with_reducible refine below_alloc ?_ _ | with_reducible refine Below.setCell ?_ (by first | exact Nat.le_refl _ | (simp; done) | (simp; omega)) _ | with_reducible refine Below.drew ?_ | with_reducible refine below_drewN ?_ _ | with_reducible refine below_then ?_ (by with_reducible assumption)))⟩
        · go_wp2
          go_ret
          exact ⟨by simp_all, (by repeat (first | with_reducible exact Below.refl _ _ | with_reducible assumption | with_reducible refine below_alloc ?_ _ | with_reducible refine Below.setCell ?_ (by first | exact Nat.le_refl _ | (simp; done) | (simp; omega)) _ | with_reducible refine Below.drew ?_ | with_reducible refine below_drewN ?_ _ | with_reducible refine below_then ?_ (by with_reducible assumption)))⟩
    · have hx1 : j < n := by omega
      have hx2 : j ≤ 4 := by omega
      clear hx
      obtain ⟨b, off, rfl, hcc⟩ := HW1.2.1 (by omega)
      have hck := hcc j hx1
      clear hcc
      cases hbl : blk f 0 j
      all_goals
        rw [hbl] at HS
        go_wp2
        go_round
        case rel => exact ⟨j + 1, by omega, by omega, by go_num, by rw [HS.out]; simp⟩
        case measure => simp [intOf]; omega
set_option maxHeartbeats 1600000 in
theorem law_keeps_1_0 (a : Option Addr) (n c : Nat) (f : Nat → Int) (ma mb mc : Int) (w : World) (hn : n ≤ 20) (H : SliceInts w a n f) (hA : allowB f (floorI ma mb mc 0) 1 = true) (_hma : 0 ≤ ma) (hfl : floorI ma mb mc 0 = ma) :
    Calls Try.prog 6 #[.slice a n c, .agg #[.int .i64 ma, .int .i64 mb, .int .i64 mc], .agg #[.int .i64 1, .int .i64 0]] w fun e w' => e = .returned (.bool true) ∧ Below w.heap.size w w' := by
  have hn' : (n : Int) ≤ 20 := by omega
  obtain ⟨_, hv, _, hle, hne⟩ := allowB_spec hA
  have hbd := aboveI_bd hv 0
  have hT : totI f = aboveI f 0 := by unfold totI; rw [if_pos hv]
  rw [show pw 1 = 2 by decide, hfl] at hle
  have hF : ∀ j, (1 ≤ j) → (n ≤ j ∨ 4 < j) → blk f 1 j = true := fun j _ hj => blk_true hv H.2.2 hne (by decide) hj
  have HF := Lib.hid hF
  have HFL := Lib.hid hfl
  clear hne hF hfl
  go_enter Try.func6, Try.ntmps6
  (go_wp2_with (go_at_call 10; refine (awake_any _).mono ?_; rintro e w1 ⟨rfl, hb⟩; obtain ⟨hc, hf, hz⟩ := bcell2 hb; try simp only [World.size_alloc] at hc hf hz))
  refine wp_forget (Two w ma mb mc (.int .i64 1) (.int .i64 0)) ?_ ?_
  · refine ⟨(by repeat (first | with_reducible exact Below.refl _ _ | with_reducible assumption | with_reducible refine below_alloc ?_ _ | with_reducible refine Below.setCell ?_ (by first | exact Nat.le_refl _ | (simp; done) | (simp; omega)) _ | with_reducible refine Below.drew ?_ | with_reducible refine below_drewN ?_ _ | with_reducible refine below_then ?_ (by with_reducible assumption))), by omega, ?_, ?_, ?_, ?_, ?_⟩ <;> (first | (simp [go_sem, *]; done) | (simp [go_sem, ↓IntWalk.iteOmega, *]; done))
  intro W0 hT0
  clear hb hc hf hz
  have hT1 := hT0
  obtain ⟨_, _, h1, h2, h3, h4, h5⟩ := hT1
  go_quiet (fail)
  obtain ⟨W, hW, hTw⟩ := hT0.drawn nq
  rw [← hW]
  clear hW hT0 h1 h2 h3 h4 h5
  have hT2 := hTw
  obtain ⟨hB, hZ, h1, h2, h3, h4, h5⟩ := hT2
  have HW := H.below hB
  go_wp2_with (first | (go_at_call 21; refine (valid_law _ _ _ f _ HW).mono ?_; rintro e w' ⟨rfl, rfl⟩; rw [hv]) | (go_at_call 19; refine (allowed_any _ _ _ f _ _ _ _ _ _ HW).mono ?_; rintro e w1 ⟨rfl, hb⟩; rw [hA]; obtain ⟨hc, hf, hz⟩ := bcell2 hb; have HW1 := HW.below hb; have hb1 := below_then hB hb))
  have hm := H.1
  clear hc hf
  go_loop [12, 13] (fun b i => ∃ j : Nat, 1 ≤ j ∧ j ≤ 5 ∧ i = .int .i64 j ∧ b = .bool (blk f 1 j)) (fun _ i => 5 - (intOf i).toNat)
  case atStart => exact ⟨1, Nat.le_refl _, by decide, rfl, by rw [blk_start]⟩
  case round =>
    obtain ⟨j, hj1, hj2, rfl, rfl⟩ := hrel
    have HS := Lib.hid (blk_step f 1 j hj1)
    by_cases hx : n ≤ j ∨ 4 < j
    · have hE := HF.out j hj1 hx
      rcases hx with hx | hx
      · have hx' : ¬ (j : Int) < (n : Int) := by omega
        go_wp2
        go_ret
        exact ⟨by simp_all, (by repeat (first | with_reducible exact Below.refl _ _ | with_reducible assumption | with_reducible refine below_alloc ?_ _ | with_reducible refine Below.setCell ?_ (by first | exact Nat.le_refl _ | (simp; done) | (simp; omega)) _ | with_reducible refine Below.drew ?_ | with_reducible refine below_drewN ?_ _ | with_reducible refine below_then ?_ (by with_reducible assumption)))⟩
      · by_cases hx2 : j < n
        · go_wp2
          go_ret
          exact ⟨by simp_all, (by repeat (first | with_reducible exact Below.refl _ _ | with_reducible assumption | with_reducible refine below_alloc ?_ _ | with_reducible refine Below.setCell ?_ (by first | exact Nat.le_refl _ | (simp; done) | (simp; omega)) _ | with_reducible refine Below.drew ?_ | with_reducible refine below_drewN ?_ _ | with_reducible refine below_then ?_ (by with_reducible assumption)))⟩
        · go_wp2
          go_ret
          exact ⟨by simp_all, (by repeat (first | with_reducible exact Below.refl _ _ | with_reducible assumption | with_reducible refine below_alloc ?_ _ | with_reducible refine Below.setCell ?_ (by first | exact Nat.le_refl _ | (simp; done) | (simp; omega)) _ | with_reducible refine Below.drew ?_ | with_reducible refine below_drewN ?_ _ | with_reducible refine below_then ?_ (by with_reducible assumption)))⟩
    · have hx1 : j < n := by omega
      have hx2 : j ≤ 4 := by omega
      clear hx
      obtain ⟨b, off, rfl, hcc⟩ := HW1.2.1 (by omega)
      have hck := hcc j hx1
      clear hcc
      cases hbl : blk f 1 j
      all_goals
        rw [hbl] at HS
        go_wp2
        go_round
        case rel => exact ⟨j + 1, by omega, by omega, by go_num, by rw [HS.out]; simp⟩
        case measure => simp [intOf]; omega
set_option maxHeartbeats 1600000 in
theorem law_keeps_2_0 (a : Option Addr) (n c : Nat) (f : Nat → Int) (ma mb mc : Int) (w : World) (hn : n ≤ 20) (H : SliceInts w a n f) (hA : allowB f (floorI ma mb mc 0) 2 = true) (_hma : 0 ≤ ma) (hfl : floorI ma mb mc 0 = ma) :
    Calls Try.prog 6 #[.slice a n c, .agg #[.int .i64 ma, .int .i64 mb, .int .i64 mc], .agg #[.int .i64 2, .int .i64 0]] w fun e w' => e = .returned (.bool true) ∧ Below w.heap.size w w' := by
  have hn' : (n : Int) ≤ 20 := by omega
  obtain ⟨_, hv, _, hle, hne⟩ := allowB_spec hA
  have hbd := aboveI_bd hv 0
  have hT : totI f = aboveI f 0 := by unfold totI; rw [if_pos hv]
  rw [show pw 2 = 4 by decide, hfl] at hle
  have hF : ∀ j, (2 ≤ j) → (n ≤ j ∨ 4 < j) → blk f 2 j = true := fun j _ hj => blk_true hv H.2.2 hne (by decide) hj
  have HF := Lib.hid hF
  have HFL := Lib.hid hfl
  clear hne hF hfl
  go_enter Try.func6, Try.ntmps6
  (go_wp2_with (go_at_call 10; refine (awake_any _).mono ?_; rintro e w1 ⟨rfl, hb⟩; obtain ⟨hc, hf, hz⟩ := bcell2 hb; try simp only [World.size_alloc] at hc hf hz))
  refine wp_forget (Two w ma mb mc (.int .i64 2) (.int .i64 0)) ?_ ?_
  · refine ⟨(by repeat (first | with_reducible exact Below.refl _ _ | with_reducible assumption | with_reducible refine below_alloc ?_ _ | with_reducible refine Below.setCell ?_ (by first | exact Nat.le_refl _ | (simp; done) | (simp; omega)) _ | with_reducible refine Below.drew ?_ | with_reducible refine below_drewN ?_ _ | with_reducible refine below_then ?_ (by with_reducible assumption))), by omega, ?_, ?_, ?_, ?_, ?_⟩ <;> (first | (simp [go_sem, *]; done) | (simp [go_sem, ↓IntWalk.iteOmega, *]; done))
  intro W0 hT0
  clear hb hc hf hz
  have hT1 := hT0
  obtain ⟨_, _, h1, h2, h3, h4, h5⟩ := hT1
  go_quiet (fail)
  obtain ⟨W, hW, hTw⟩ := hT0.drawn nq
  rw [← hW]
  clear hW hT0 h1 h2 h3 h4 h5
  have hT2 := hTw
  obtain ⟨hB, hZ, h1, h2, h3, h4, h5⟩ := hT2
  have HW := H.below hB
  go_wp2_with (first | (go_at_call 21; refine (valid_law _ _ _ f _ HW).mono ?_; rintro e w' ⟨rfl, rfl⟩; rw [hv]) | (go_at_call 19; refine (allowed_any _ _ _ f _ _ _ _ _ _ HW).mono ?_; rintro e w1 ⟨rfl, hb⟩; rw [hA]; obtain ⟨hc, hf, hz⟩ := bcell2 hb; have HW1 := HW.below hb; have hb1 := below_then hB hb))
  have hm := H.1
  clear hc hf
  go_loop [12, 13] (fun b i => ∃ j : Nat, 2 ≤ j ∧ j ≤ 5 ∧ i = .int .i64 j ∧ b = .bool (blk f 2 j)) (fun _ i => 5 - (intOf i).toNat)
  case atStart => exact ⟨2, Nat.le_refl _, by decide, rfl, by rw [blk_start]⟩
  case round =>
    obtain ⟨j, hj1, hj2, rfl, rfl⟩ := hrel
    have HS := Lib.hid (blk_step f 2 j hj1)
    by_cases hx : n ≤ j ∨ 4 < j
    · have hE := HF.out j hj1 hx
      rcases hx with hx | hx
      · have hx' : ¬ (j : Int) < (n : Int) := by omega
        go_wp2
        go_ret
        exact ⟨by simp_all, (by repeat (first | with_reducible exact Below.refl _ _ | with_reducible assumption | with_reducible refine below_alloc ?_ _ | with_reducible refine Below.setCell ?_ (by first | exact Nat.le_refl _ | (simp; done) | (simp; omega)) _ | with_reducible refine Below.drew ?_ | with_reducible refine below_drewN ?_ _ | with_reducible refine below_then ?_ (by with_reducible assumption)))⟩
      · by_cases hx2 : j < n
        · go_wp2
          go_ret
          exact ⟨by simp_all, (by repeat (first | with_reducible exact Below.refl _ _ | with_reducible assumption | with_reducible refine below_alloc ?_ _ | with_reducible refine Below.setCell ?_ (by first | exact Nat.le_refl _ | (simp; done) | (simp; omega)) _ | with_reducible refine Below.drew ?_ | with_reducible refine below_drewN ?_ _ | with_reducible refine below_then ?_ (by with_reducible assumption)))⟩
        · go_wp2
          go_ret
          exact ⟨by simp_all, (by repeat (first | with_reducible exact Below.refl _ _ | with_reducible assumption | with_reducible refine below_alloc ?_ _ | with_reducible refine Below.setCell ?_ (by first | exact Nat.le_refl _ | (simp; done) | (simp; omega)) _ | with_reducible refine Below.drew ?_ | with_reducible refine below_drewN ?_ _ | with_reducible refine below_then ?_ (by with_reducible assumption)))⟩
    · have hx1 : j < n := by omega
      have hx2 : j ≤ 4 := by omega
      clear hx
      obtain ⟨b, off, rfl, hcc⟩ := HW1.2.1 (by omega)
      have hck := hcc j hx1
      clear hcc
      cases hbl : blk f 2 j
      all_goals
        rw [hbl] at HS
        go_wp2
        go_round
        case rel => exact ⟨j + 1, by omega, by omega, by go_num, by rw [HS.out]; simp⟩
        case measure => simp [intOf]; omega
set_option maxHeartbeats 1600000 in
theorem law_keeps_3_0 (a : Option Addr) (n c : Nat) (f : Nat → Int) (ma mb mc : Int) (w : World) (hn : n ≤ 20) (H : SliceInts w a n f) (hA : allowB f (floorI ma mb mc 0) 3 = true) (_hma : 0 ≤ ma) (hfl : floorI ma mb mc 0 = ma) :
    Calls Try.prog 6 #[.slice a n c, .agg #[.int .i64 ma, .int .i64 mb, .int .i64 mc], .agg #[.int .i64 3, .int .i64 0]] w fun e w' => e = .returned (.bool true) ∧ Below w.heap.size w w' := by
  have hn' : (n : Int) ≤ 20 := by omega
  obtain ⟨_, hv, _, hle, hne⟩ := allowB_spec hA
  have hbd := aboveI_bd hv 0
  have hT : totI f = aboveI f 0 := by unfold totI; rw [if_pos hv]
  rw [show pw 3 = 8 by decide, hfl] at hle
  have hF : ∀ j, (3 ≤ j) → (n ≤ j ∨ 4 < j) → blk f 3 j = true := fun j _ hj => blk_true hv H.2.2 hne (by decide) hj
  have HF := Lib.hid hF
  have HFL := Lib.hid hfl
  clear hne hF hfl
  go_enter Try.func6, Try.ntmps6
  (go_wp2_with (go_at_call 10; refine (awake_any _).mono ?_; rintro e w1 ⟨rfl, hb⟩; obtain ⟨hc, hf, hz⟩ := bcell2 hb; try simp only [World.size_alloc] at hc hf hz))
  refine wp_forget (Two w ma mb mc (.int .i64 3) (.int .i64 0)) ?_ ?_
  · refine ⟨(by repeat (first | with_reducible exact Below.refl _ _ | with_reducible assumption | with_reducible refine below_alloc ?_ _ | with_reducible refine Below.setCell ?_ (by first | exact Nat.le_refl _ | (simp; done) | (simp; omega)) _ | with_reducible refine Below.drew ?_ | with_reducible refine below_drewN ?_ _ | with_reducible refine below_then ?_ (by with_reducible assumption))), by omega, ?_, ?_, ?_, ?_, ?_⟩ <;> (first | (simp [go_sem, *]; done) | (simp [go_sem, ↓IntWalk.iteOmega, *]; done))
  intro W0 hT0
  clear hb hc hf hz
  have hT1 := hT0
  obtain ⟨_, _, h1, h2, h3, h4, h5⟩ := hT1
  go_quiet (fail)
  obtain ⟨W, hW, hTw⟩ := hT0.drawn nq
  rw [← hW]
  clear hW hT0 h1 h2 h3 h4 h5
  have hT2 := hTw
  obtain ⟨hB, hZ, h1, h2, h3, h4, h5⟩ := hT2
  have HW := H.below hB
  go_wp2_with (first | (go_at_call 21; refine (valid_law _ _ _ f _ HW).mono ?_; rintro e w' ⟨rfl, rfl⟩; rw [hv]) | (go_at_call 19; refine (allowed_any _ _ _ f _ _ _ _ _ _ HW).mono ?_; rintro e w1 ⟨rfl, hb⟩; rw [hA]; obtain ⟨hc, hf, hz⟩ := bcell2 hb; have HW1 := HW.below hb; have hb1 := below_then hB hb))
  have hm := H.1
  clear hc hf
  go_loop [12, 13] (fun b i => ∃ j : Nat, 3 ≤ j ∧ j ≤ 5 ∧ i = .int .i64 j ∧ b = .bool (blk f 3 j)) (fun _ i => 5 - (intOf i).toNat)
  case atStart => exact ⟨3, Nat.le_refl _, by decide, rfl, by rw [blk_start]⟩
  case round =>
    obtain ⟨j, hj1, hj2, rfl, rfl⟩ := hrel
    have HS := Lib.hid (blk_step f 3 j hj1)
    by_cases hx : n ≤ j ∨ 4 < j
    · have hE := HF.out j hj1 hx
      rcases hx with hx | hx
      · have hx' : ¬ (j : Int) < (n : Int) := by omega
        go_wp2
        go_ret
        exact ⟨by simp_all, (by repeat (first | with_reducible exact Below.refl _ _ | with_reducible assumption | with_reducible refine below_alloc ?_ _ | with_reducible refine Below.setCell ?_ (by first | exact Nat.le_refl _ | (simp; done) | (simp; omega)) _ | with_reducible refine Below.drew ?_ | with_reducible refine below_drewN ?_ _ | with_reducible refine below_then ?_ (by with_reducible assumption)))⟩
      · by_cases hx2 : j < n
        · go_wp2
          go_ret
          exact ⟨by simp_all, (by repeat (first | with_reducible exact Below.refl _ _ | with_reducible assumption | with_reducible refine below_alloc ?_ _ | with_reducible refine Below.setCell ?_ (by first | exact Nat.le_refl _ | (simp; done) | (simp; omega)) _ | with_reducible refine Below.drew ?_ | with_reducible refine below_drewN ?_ _ | with_reducible refine below_then ?_ (by with_reducible assumption)))⟩
        · go_wp2
          go_ret
          exact ⟨by simp_all, (by repeat (first | with_reducible exact Below.refl _ _ | with_reducible assumption | with_reducible refine below_alloc ?_ _ | with_reducible refine Below.setCell ?_ (by first | exact Nat.le_refl _ | (simp; done) | (simp; omega)) _ | with_reducible refine Below.drew ?_ | with_reducible refine below_drewN ?_ _ | with_reducible refine below_then ?_ (by with_reducible assumption)))⟩
    · have hx1 : j < n := by omega
      have hx2 : j ≤ 4 := by omega
      clear hx
      obtain ⟨b, off, rfl, hcc⟩ := HW1.2.1 (by omega)
      have hck := hcc j hx1
      clear hcc
      cases hbl : blk f 3 j
      all_goals
        rw [hbl] at HS
        go_wp2
        go_round
        case rel => exact ⟨j + 1, by omega, by omega, by go_num, by rw [HS.out]; simp⟩
        case measure => simp [intOf]; omega
set_option maxHeartbeats 1600000 in
theorem law_keeps_4_0 (a : Option Addr) (n c : Nat) (f : Nat → Int) (ma mb mc : Int) (w : World) (hn : n ≤ 20) (H : SliceInts w a n f) (hA : allowB f (floorI ma mb mc 0) 4 = true) (_hma : 0 ≤ ma) (hfl : floorI ma mb mc 0 = ma) :
    Calls Try.prog 6 #[.slice a n c, .agg #[.int .i64 ma, .int .i64 mb, .int .i64 mc], .agg #[.int .i64 4, .int .i64 0]] w fun e w' => e = .returned (.bool true) ∧ Below w.heap.size w w' := by
  have hn' : (n : Int) ≤ 20 := by omega
  obtain ⟨_, hv, _, hle, hne⟩ := allowB_spec hA
  have hbd := aboveI_bd hv 0
  have hT : totI f = aboveI f 0 := by unfold totI; rw [if_pos hv]
  rw [show pw 4 = 16 by decide, hfl] at hle
  have hF : ∀ j, (4 ≤ j) → (n ≤ j ∨ 4 < j) → blk f 4 j = true := fun j _ hj => blk_true hv H.2.2 hne (by decide) hj
  have HF := Lib.hid hF
  have HFL := Lib.hid hfl
  clear hne hF hfl
  go_enter Try.func6, Try.ntmps6
  (go_wp2_with (go_at_call 10; refine (awake_any _).mono ?_; rintro e w1 ⟨rfl, hb⟩; obtain ⟨hc, hf, hz⟩ := bcell2 hb; try simp only [World.size_alloc] at hc hf hz))
  refine wp_forget (Two w ma mb mc (.int .i64 4) (.int .i64 0)) ?_ ?_
  · refine ⟨(by repeat (first | with_reducible exact Below.refl _ _ | with_reducible assumption | with_reducible refine below_alloc ?_ _ | with_reducible refine Below.setCell ?_ (by first | exact Nat.le_refl _ | (simp; done) | (simp; omega)) _ | with_reducible refine Below.drew ?_ | with_reducible refine below_drewN ?_ _ | with_reducible refine below_then ?_ (by with_reducible assumption))), by omega, ?_, ?_, ?_, ?_, ?_⟩ <;> (first | (simp [go_sem, *]; done) | (simp [go_sem, ↓IntWalk.iteOmega, *]; done))
  intro W0 hT0
  clear hb hc hf hz
  have hT1 := hT0
  obtain ⟨_, _, h1, h2, h3, h4, h5⟩ := hT1
  go_quiet (fail)
  obtain ⟨W, hW, hTw⟩ := hT0.drawn nq
  rw [← hW]
  clear hW hT0 h1 h2 h3 h4 h5
  have hT2 := hTw
  obtain ⟨hB, hZ, h1, h2, h3, h4, h5⟩ := hT2
  have HW := H.below hB
  go_wp2_with (first | (go_at_call 21; refine (valid_law _ _ _ f _ HW).mono ?_; rintro e w' ⟨rfl, rfl⟩; rw [hv]) | (go_at_call 19; refine (allowed_any _ _ _ f _ _ _ _ _ _ HW).mono ?_; rintro e w1 ⟨rfl, hb⟩; rw [hA]; obtain ⟨hc, hf, hz⟩ := bcell2 hb; have HW1 := HW.below hb; have hb1 := below_then hB hb))
  have hm := H.1
  clear hc hf
  go_loop [12, 13] (fun b i => ∃ j : Nat, 4 ≤ j ∧ j ≤ 5 ∧ i = .int .i64 j ∧ b = .bool (blk f 4 j)) (fun _ i => 5 - (intOf i).toNat)
  case atStart => exact ⟨4, Nat.le_refl _, by decide, rfl, by rw [blk_start]⟩
  case round =>
    obtain ⟨j, hj1, hj2, rfl, rfl⟩ := hrel
    have HS := Lib.hid (blk_step f 4 j hj1)
    by_cases hx : n ≤ j ∨ 4 < j
    · have hE := HF.out j hj1 hx
      rcases hx with hx | hx
      · have hx' : ¬ (j : Int) < (n : Int) := by omega
        go_wp2
        go_ret
        exact ⟨by simp_all, (by repeat (first | with_reducible exact Below.refl _ _ | with_reducible assumption | with_reducible refine below_alloc ?_ _ | with_reducible refine Below.setCell ?_ (by first | exact Nat.le_refl _ | (simp; done) | (simp; omega)) _ | with_reducible refine Below.drew ?_ | with_reducible refine below_drewN ?_ _ | with_reducible refine below_then ?_ (by with_reducible assumption)))⟩
      · by_cases hx2 : j < n
        · go_wp2
          go_ret
          exact ⟨by simp_all, (by repeat (first | with_reducible exact Below.refl _ _ | with_reducible assumption | with_reducible refine below_alloc ?_ _ | with_reducible refine Below.setCell ?_ (by first | exact Nat.le_refl _ | (simp; done) | (simp; omega)) _ | with_reducible refine Below.drew ?_ | with_reducible refine below_drewN ?_ _ | with_reducible refine below_then ?_ (by with_reducible assumption)))⟩
        · go_wp2
          go_ret
          exact ⟨by simp_all, (by repeat (first | with_reducible exact Below.refl _ _ | with_reducible assumption | with_reducible refine below_alloc ?_ _ | with_reducible refine Below.setCell ?_ (by first | exact Nat.le_refl _ | (simp; done) | (simp; omega)) _ | with_reducible refine Below.drew ?_ | with_reducible refine below_drewN ?_ _ | with_reducible refine below_then ?_ (by with_reducible assumption)))⟩
    · have hx1 : j < n := by omega
      have hx2 : j ≤ 4 := by omega
      clear hx
      obtain ⟨b, off, rfl, hcc⟩ := HW1.2.1 (by omega)
      have hck := hcc j hx1
      clear hcc
      cases hbl : blk f 4 j
      all_goals
        rw [hbl] at HS
        go_wp2
        go_round
        case rel => exact ⟨j + 1, by omega, by omega, by go_num, by rw [HS.out]; simp⟩
        case measure => simp [intOf]; omega
set_option maxHeartbeats 1600000 in
theorem law_keeps_0_1 (a : Option Addr) (n c : Nat) (f : Nat → Int) (ma mb mc : Int) (w : World) (hn : n ≤ 20) (H : SliceInts w a n f) (hA : allowB f (floorI ma mb mc 1) 0 = true) (_hma : 0 ≤ ma) (hfl : floorI ma mb mc 1 = ma / 2) :
    Calls Try.prog 6 #[.slice a n c, .agg #[.int .i64 ma, .int .i64 mb, .int .i64 mc], .agg #[.int .i64 0, .int .i64 1]] w fun e w' => e = .returned (.bool true) ∧ Below w.heap.size w w' := by
  have hn' : (n : Int) ≤ 20 := by omega
  obtain ⟨_, hv, _, hle, hne⟩ := allowB_spec hA
  have hbd := aboveI_bd hv 0
  have hT : totI f = aboveI f 0 := by unfold totI; rw [if_pos hv]
  rw [show pw 0 = 1 by decide, hfl] at hle
  have hF : ∀ j, (0 ≤ j) → (n ≤ j ∨ 4 < j) → blk f 0 j = true := fun j _ hj => blk_true hv H.2.2 hne (by decide) hj
  have HF := Lib.hid hF
  have HFL := Lib.hid hfl
  clear hne hF hfl
  go_enter Try.func6, Try.ntmps6
  (go_wp2_with (go_at_call 10; refine (awake_any _).mono ?_; rintro e w1 ⟨rfl, hb⟩; obtain ⟨hc, hf, hz⟩ := bcell2 hb; try simp only [World.size_alloc] at hc hf hz))
  refine wp_forget (Two w ma mb mc (.int .i64 0) (.int .i64 1)) ?_ ?_
  · refine ⟨(by repeat (first | with_reducible exact Below.refl _ _ | with_reducible assumption | with_reducible refine below_alloc ?_ _ | with_reducible refine Below.setCell ?_ (by first | exact Nat.le_refl _ | (simp; done) | (simp; omega)) _ | with_reducible refine Below.drew ?_ | with_reducible refine below_drewN ?_ _ | with_reducible refine below_then ?_ (by with_reducible assumption))), by omega, ?_, ?_, ?_, ?_, ?_⟩ <;> (first | (simp [go_sem, *]; done) | (simp [go_sem, ↓IntWalk.iteOmega, *]; done))
  intro W0 hT0
  clear hb hc hf hz
  have hT1 := hT0
  obtain ⟨_, _, h1, h2, h3, h4, h5⟩ := hT1
  go_quiet (fail)
  obtain ⟨W, hW, hTw⟩ := hT0.drawn nq
  rw [← hW]
  clear hW hT0 h1 h2 h3 h4 h5
  have hT2 := hTw
  obtain ⟨hB, hZ, h1, h2, h3, h4, h5⟩ := hT2
  have HW := H.below hB
  go_wp2_with (first | (go_at_call 21; refine (valid_law _ _ _ f _ HW).mono ?_; rintro e w' ⟨rfl, rfl⟩; rw [hv]) | (go_at_call 19; refine (allowed_any _ _ _ f _ _ _ _ _ _ HW).mono ?_; rintro e w1 ⟨rfl, hb⟩; rw [hA]; obtain ⟨hc, hf, hz⟩ := bcell2 hb; have HW1 := HW.below hb; have hb1 := below_then hB hb))
  have hm := H.1
  clear hc hf
  go_loop [12, 13] (fun b i => ∃ j : Nat, 0 ≤ j ∧ j ≤ 5 ∧ i = .int .i64 j ∧ b = .bool (blk f 0 j)) (fun _ i => 5 - (intOf i).toNat)
  case atStart => exact ⟨0, Nat.le_refl _, by decide, rfl, by rw [blk_start]⟩
  case round =>
    obtain ⟨j, hj1, hj2, rfl, rfl⟩ := hrel
    have HS := Lib.hid (blk_step f 0 j hj1)
    by_cases hx : n ≤ j ∨ 4 < j
    · have hE := HF.out j hj1 hx
      rcases hx with hx | hx
      · have hx' : ¬ (j : Int) < (n : Int) := by omega
        go_wp2
        go_ret
        exact ⟨by simp_all, (by repeat (first | with_reducible exact Below.refl _ _ | with_reducible assumption | with_reducible refine below_alloc ?_ _ | with_reducible refine Below.setCell ?_ (by first | exact Nat.le_refl _ | (simp; done) | (simp; omega)) _ | with_reducible refine Below.drew ?_ | with_reducible refine below_drewN ?_ _ | with_reducible refine below_then ?_ (by with_reducible assumption)))⟩
      · by_cases hx2 : j < n
        · go_wp2
          go_ret
          exact ⟨by simp_all, (by repeat (first | with_reducible exact Below.refl _ _ | with_reducible assumption | with_reducible refine below_alloc ?_ _ | with_reducible refine Below.setCell ?_ (by first | exact Nat.le_refl _ | (simp; done) | (simp; omega)) _ | with_reducible refine Below.drew ?_ | with_reducible refine below_drewN ?_ _ | with_reducible refine below_then ?_ (by with_reducible assumption)))⟩
        · go_wp2
          go_ret
          exact ⟨by simp_all, (by repeat (first | with_reducible exact Below.refl _ _ | with_reducible assumption | with_reducible refine below_alloc ?_ _ | with_reducible refine Below.setCell ?_ (by first | exact Nat.le_refl _ | (simp; done) | (simp; omega)) _ | with_reducible refine Below.drew ?_ | with_reducible refine below_drewN ?_ _ | with_reducible refine below_then ?_ (by with_reducible assumption)))⟩
    · have hx1 : j < n := by omega
      have hx2 : j ≤ 4 := by omega
      clear hx
      obtain ⟨b, off, rfl, hcc⟩ := HW1.2.1 (by omega)
      have hck := hcc j hx1
      clear hcc
      cases hbl : blk f 0 j
      all_goals
        rw [hbl] at HS
        go_wp2
        go_round
        case rel => exact ⟨j + 1, by omega, by omega, by go_num, by rw [HS.out]; simp⟩
        case measure => simp [intOf]; omega
set_option maxHeartbeats 1600000 in
theorem law_keeps_1_1 (a : Option Addr) (n c : Nat) (f : Nat → Int) (ma mb mc : Int) (w : World) (hn : n ≤ 20) (H : SliceInts w a n f) (hA : allowB f (floorI ma mb mc 1) 1 = true) (_hma : 0 ≤ ma) (hfl : floorI ma mb mc 1 = ma / 2) :
    Calls Try.prog 6 #[.slice a n c, .agg #[.int .i64 ma, .int .i64 mb, .int .i64 mc], .agg #[.int .i64 1, .int .i64 1]] w fun e w' => e = .returned (.bool true) ∧ Below w.heap.size w w' := by
  have hn' : (n : Int) ≤ 20 := by omega
  obtain ⟨_, hv, _, hle, hne⟩ := allowB_spec hA
  have hbd := aboveI_bd hv 0
  have hT : totI f = aboveI f 0 := by unfold totI; rw [if_pos hv]
  rw [show pw 1 = 2 by decide, hfl] at hle
  have hF : ∀ j, (1 ≤ j) → (n ≤ j ∨ 4 < j) → blk f 1 j = true := fun j _ hj => blk_true hv H.2.2 hne (by decide) hj
  have HF := Lib.hid hF
  have HFL := Lib.hid hfl
  clear hne hF hfl
  go_enter Try.func6, Try.ntmps6
  (go_wp2_with (go_at_call 10; refine (awake_any _).mono ?_; rintro e w1 ⟨rfl, hb⟩; obtain ⟨hc, hf, hz⟩ := bcell2 hb; try simp only [World.size_alloc] at hc hf hz))
  refine wp_forget (Two w ma mb mc (.int .i64 1) (.int .i64 1)) ?_ ?_
  · refine ⟨(by repeat (first | with_reducible exact Below.refl _ _ | with_reducible assumption | with_reducible refine below_alloc ?_ _ | with_reducible refine Below.setCell ?_ (by first | exact Nat.le_refl _ | (simp; done) | (simp; omega)) _ | with_reducible refine Below.drew ?_ | with_reducible refine below_drewN ?_ _ | with_reducible refine below_then ?_ (by with_reducible assumption))), by omega, ?_, ?_, ?_, ?_, ?_⟩ <;> (first | (simp [go_sem, *]; done) | (simp [go_sem, ↓IntWalk.iteOmega, *]; done))
  intro W0 hT0
  clear hb hc hf hz
  have hT1 := hT0
  obtain ⟨_, _, h1, h2, h3, h4, h5⟩ := hT1
  go_quiet (fail)
  obtain ⟨W, hW, hTw⟩ := hT0.drawn nq
  rw [← hW]
  clear hW hT0 h1 h2 h3 h4 h5
  have hT2 := hTw
  obtain ⟨hB, hZ, h1, h2, h3, h4, h5⟩ := hT2
  have HW := H.below hB
  go_wp2_with (first | (go_at_call 21; refine (valid_law _ _ _ f _ HW).mono ?_; rintro e w' ⟨rfl, rfl⟩; rw [hv]) | (go_at_call 19; refine (allowed_any _ _ _ f _ _ _ _ _ _ HW).mono ?_; rintro e w1 ⟨rfl, hb⟩; rw [hA]; obtain ⟨hc, hf, hz⟩ := bcell2 hb; have HW1 := HW.below hb; have hb1 := below_then hB hb))
  have hm := H.1
  clear hc hf
  go_loop [12, 13] (fun b i => ∃ j : Nat, 1 ≤ j ∧ j ≤ 5 ∧ i = .int .i64 j ∧ b = .bool (blk f 1 j)) (fun _ i => 5 - (intOf i).toNat)
  case atStart => exact ⟨1, Nat.le_refl _, by decide, rfl, by rw [blk_start]⟩
  case round =>
    obtain ⟨j, hj1, hj2, rfl, rfl⟩ := hrel
    have HS := Lib.hid (blk_step f 1 j hj1)
    by_cases hx : n ≤ j ∨ 4 < j
    · have hE := HF.out j hj1 hx
      rcases hx with hx | hx
      · have hx' : ¬ (j : Int) < (n : Int) := by omega
        go_wp2
        go_ret
        exact ⟨by simp_all, (by repeat (first | with_reducible exact Below.refl _ _ | with_reducible assumption | with_reducible refine below_alloc ?_ _ | with_reducible refine Below.setCell ?_ (by first | exact Nat.le_refl _ | (simp; done) | (simp; omega)) _ | with_reducible refine Below.drew ?_ | with_reducible refine below_drewN ?_ _ | with_reducible refine below_then ?_ (by with_reducible assumption)))⟩
      · by_cases hx2 : j < n
        · go_wp2
          go_ret
          exact ⟨by simp_all, (by repeat (first | with_reducible exact Below.refl _ _ | with_reducible assumption | with_reducible refine below_alloc ?_ _ | with_reducible refine Below.setCell ?_ (by first | exact Nat.le_refl _ | (simp; done) | (simp; omega)) _ | with_reducible refine Below.drew ?_ | with_reducible refine below_drewN ?_ _ | with_reducible refine below_then ?_ (by with_reducible assumption)))⟩
        · go_wp2
          go_ret
          exact ⟨by simp_all, (by repeat (first | with_reducible exact Below.refl _ _ | with_reducible assumption | with_reducible refine below_alloc ?_ _ | with_reducible refine Below.setCell ?_ (by first | exact Nat.le_refl _ | (simp; done) | (simp; omega)) _ | with_reducible refine Below.drew ?_ | with_reducible refine below_drewN ?_ _ | with_reducible refine below_then ?_ (by with_reducible assumption)))⟩
    · have hx1 : j < n := by omega
      have hx2 : j ≤ 4 := by omega
      clear hx
      obtain ⟨b, off, rfl, hcc⟩ := HW1.2.1 (by omega)
      have hck := hcc j hx1
      clear hcc
      cases hbl : blk f 1 j
      all_goals
        rw [hbl] at HS
        go_wp2
        go_round
        case rel => exact ⟨j + 1, by omega, by omega, by go_num, by rw [HS.out]; simp⟩
        case measure => simp [intOf]; omega
set_option maxHeartbeats 1600000 in
theorem law_keeps_2_1 (a : Option Addr) (n c : Nat) (f : Nat → Int) (ma mb mc : Int) (w : World) (hn : n ≤ 20) (H : SliceInts w a n f) (hA : allowB f (floorI ma mb mc 1) 2 = true) (_hma : 0 ≤ ma) (hfl : floorI ma mb mc 1 = ma / 2) :
    Calls Try.prog 6 #[.slice a n c, .agg #[.int .i64 ma, .int .i64 mb, .int .i64 mc], .agg #[.int .i64 2, .int .i64 1]] w fun e w' => e = .returned (.bool true) ∧ Below w.heap.size w w' := by
  have hn' : (n : Int) ≤ 20 := by omega
  obtain ⟨_, hv, _, hle, hne⟩ := allowB_spec hA
  have hbd := aboveI_bd hv 0
  have hT : totI f = aboveI f 0 := by unfold totI; rw [if_pos hv]
  rw [show pw 2 = 4 by decide, hfl] at hle
  have hF : ∀ j, (2 ≤ j) → (n ≤ j ∨ 4 < j) → blk f 2 j = true := fun j _ hj => blk_true hv H.2.2 hne (by decide) hj
  have HF := Lib.hid hF
  have HFL := Lib.hid hfl
  clear hne hF hfl
  go_enter Try.func6, Try.ntmps6
  (go_wp2_with (go_at_call 10; refine (awake_any _).mono ?_; rintro e w1 ⟨rfl, hb⟩; obtain ⟨hc, hf, hz⟩ := bcell2 hb; try simp only [World.size_alloc] at hc hf hz))
  refine wp_forget (Two w ma mb mc (.int .i64 2) (.int .i64 1)) ?_ ?_
  · refine ⟨(by repeat (first | with_reducible exact Below.refl _ _ | with_reducible assumption | with_reducible refine below_alloc ?_ _ | with_reducible refine Below.setCell ?_ (by first | exact Nat.le_refl _ | (simp; done) | (simp; omega)) _ | with_reducible refine Below.drew ?_ | with_reducible refine below_drewN ?_ _ | with_reducible refine below_then ?_ (by with_reducible assumption))), by omega, ?_, ?_, ?_, ?_, ?_⟩ <;> (first | (simp [go_sem, *]; done) | (simp [go_sem, ↓IntWalk.iteOmega, *]; done))
  intro W0 hT0
  clear hb hc hf hz
  have hT1 := hT0
  obtain ⟨_, _, h1, h2, h3, h4, h5⟩ := hT1
  go_quiet (fail)
  obtain ⟨W, hW, hTw⟩ := hT0.drawn nq
  rw [← hW]
  clear hW hT0 h1 h2 h3 h4 h5
  have hT2 := hTw
  obtain ⟨hB, hZ, h1, h2, h3, h4, h5⟩ := hT2
  have HW := H.below hB
  go_wp2_with (first | (go_at_call 21; refine (valid_law _ _ _ f _ HW).mono ?_; rintro e w' ⟨rfl, rfl⟩; rw [hv]) | (go_at_call 19; refine (allowed_any _ _ _ f _ _ _ _ _ _ HW).mono ?_; rintro e w1 ⟨rfl, hb⟩; rw [hA]; obtain ⟨hc, hf, hz⟩ := bcell2 hb; have HW1 := HW.below hb; have hb1 := below_then hB hb))
  have hm := H.1
  clear hc hf
  go_loop [12, 13] (fun b i => ∃ j : Nat, 2 ≤ j ∧ j ≤ 5 ∧ i = .int .i64 j ∧ b = .bool (blk f 2 j)) (fun _ i => 5 - (intOf i).toNat)
  case atStart => exact ⟨2, Nat.le_refl _, by decide, rfl, by rw [blk_start]⟩
  case round =>
    obtain ⟨j, hj1, hj2, rfl, rfl⟩ := hrel
    have HS := Lib.hid (blk_step f 2 j hj1)
    by_cases hx : n ≤ j ∨ 4 < j
    · have hE := HF.out j hj1 hx
      rcases hx with hx | hx
      · have hx' : ¬ (j : Int) < (n : Int) := by omega
        go_wp2
        go_ret
        exact ⟨by simp_all, (by repeat (first | with_reducible exact Below.refl _ _ | with_reducible assumption | with_reducible refine below_alloc ?_ _ | with_reducible refine Below.setCell ?_ (by first | exact Nat.le_refl _ | (simp; done) | (simp; omega)) _ | with_reducible refine Below.drew ?_ | with_reducible refine below_drewN ?_ _ | with_reducible refine below_then ?_ (by with_reducible assumption)))⟩
      · by_cases hx2 : j < n
        · go_wp2
          go_ret
          exact ⟨by simp_all, (by repeat (first | with_reducible exact Below.refl _ _ | with_reducible assumption | with_reducible refine below_alloc ?_ _ | with_reducible refine Below.setCell ?_ (by first | exact Nat.le_refl _ | (simp; done) | (simp; omega)) _ | with_reducible refine Below.drew ?_ | with_reducible refine below_drewN ?_ _ | with_reducible refine below_then ?_ (by with_reducible assumption)))⟩
        · go_wp2
          go_ret
          exact ⟨by simp_all, (by repeat (first | with_reducible exact Below.refl _ _ | with_reducible assumption | with_reducible refine below_alloc ?_ _ | with_reducible refine Below.setCell ?_ (by first | exact Nat.le_refl _ | (simp; done) | (simp; omega)) _ | with_reducible refine Below.drew ?_ | with_reducible refine below_drewN ?_ _ | with_reducible refine below_then ?_ (by with_reducible assumption)))⟩
    · have hx1 : j < n := by omega
      have hx2 : j ≤ 4 := by omega
      clear hx
      obtain ⟨b, off, rfl, hcc⟩ := HW1.2.1 (by omega)
      have hck := hcc j hx1
      clear hcc
      cases hbl : blk f 2 j
      all_goals
        rw [hbl] at HS
        go_wp2
        go_round
        case rel => exact ⟨j + 1, by omega, by omega, by go_num, by rw [HS.out]; simp⟩
        case measure => simp [intOf]; omega
set_option maxHeartbeats 1600000 in
theorem law_keeps_3_1 (a : Option Addr) (n c : Nat) (f : Nat → Int) (ma mb mc : Int) (w : World) (hn : n ≤ 20) (H : SliceInts w a n f) (hA : allowB f (floorI ma mb mc 1) 3 = true) (_hma : 0 ≤ ma) (hfl : floorI ma mb mc 1 = ma / 2) :
    Calls Try.prog 6 #[.slice a n c, .agg #[.int .i64 ma, .int .i64 mb, .int .i64 mc], .agg #[.int .i64 3, .int .i64 1]] w fun e w' => e = .returned (.bool true) ∧ Below w.heap.size w w' := by
  have hn' : (n : Int) ≤ 20 := by omega
  obtain ⟨_, hv, _, hle, hne⟩ := allowB_spec hA
  have hbd := aboveI_bd hv 0
  have hT : totI f = aboveI f 0 := by unfold totI; rw [if_pos hv]
  rw [show pw 3 = 8 by decide, hfl] at hle
  have hF : ∀ j, (3 ≤ j) → (n ≤ j ∨ 4 < j) → blk f 3 j = true := fun j _ hj => blk_true hv H.2.2 hne (by decide) hj
  have HF := Lib.hid hF
  have HFL := Lib.hid hfl
  clear hne hF hfl
  go_enter Try.func6, Try.ntmps6
  (go_wp2_with (go_at_call 10; refine (awake_any _).mono ?_; rintro e w1 ⟨rfl, hb⟩; obtain ⟨hc, hf, hz⟩ := bcell2 hb; try simp only [World.size_alloc] at hc hf hz))
  refine wp_forget (Two w ma mb mc (.int .i64 3) (.int .i64 1)) ?_ ?_
  · refine ⟨(by repeat (first | with_reducible exact Below.refl _ _ | with_reducible assumption | with_reducible refine below_alloc ?_ _ | with_reducible refine Below.setCell ?_ (by first | exact Nat.le_refl _ | (simp; done) | (simp; omega)) _ | with_reducible refine Below.drew ?_ | with_reducible refine below_drewN ?_ _ | with_reducible refine below_then ?_ (by with_reducible assumption))), by omega, ?_, ?_, ?_, ?_, ?_⟩ <;> (first | (simp [go_sem, *]; done) | (simp [go_sem, ↓IntWalk.iteOmega, *]; done))
  intro W0 hT0
  clear hb hc hf hz
  have hT1 := hT0
  obtain ⟨_, _, h1, h2, h3, h4, h5⟩ := hT1
  go_quiet (fail)
  obtain ⟨W, hW, hTw⟩ := hT0.drawn nq
  rw [← hW]
  clear hW hT0 h1 h2 h3 h4 h5
  have hT2 := hTw
  obtain ⟨hB, hZ, h1, h2, h3, h4, h5⟩ := hT2
  have HW := H.below hB
  go_wp2_with (first | (go_at_call 21; refine (valid_law _ _ _ f _ HW).mono ?_; rintro e w' ⟨rfl, rfl⟩; rw [hv]) | (go_at_call 19; refine (allowed_any _ _ _ f _ _ _ _ _ _ HW).mono ?_; rintro e w1 ⟨rfl, hb⟩; rw [hA]; obtain ⟨hc, hf, hz⟩ := bcell2 hb; have HW1 := HW.below hb; have hb1 := below_then hB hb))
  have hm := H.1
  clear hc hf
  go_loop [12, 13] (fun b i => ∃ j : Nat, 3 ≤ j ∧ j ≤ 5 ∧ i = .int .i64 j ∧ b = .bool (blk f 3 j)) (fun _ i => 5 - (intOf i).toNat)
  case atStart => exact ⟨3, Nat.le_refl _, by decide, rfl, by rw [blk_start]⟩
  case round =>
    obtain ⟨j, hj1, hj2, rfl, rfl⟩ := hrel
    have HS := Lib.hid (blk_step f 3 j hj1)
    by_cases hx : n ≤ j ∨ 4 < j
    · have hE := HF.out j hj1 hx
      rcases hx with hx | hx
      · have hx' : ¬ (j : Int) < (n : Int) := by omega
        go_wp2
        go_ret
        exact ⟨by simp_all, (by repeat (first | with_reducible exact Below.refl _ _ | with_reducible assumption | with_reducible refine below_alloc ?_ _ | with_reducible refine Below.setCell ?_ (by first | exact Nat.le_refl _ | (simp; done) | (simp; omega)) _ | with_reducible refine Below.drew ?_ | with_reducible refine below_drewN ?_ _ | with_reducible refine below_then ?_ (by with_reducible assumption)))⟩
      · by_cases hx2 : j < n
        · go_wp2
          go_ret
          exact ⟨by simp_all, (by repeat (first | with_reducible exact Below.refl _ _ | with_reducible assumption | with_reducible refine below_alloc ?_ _ | with_reducible refine Below.setCell ?_ (by first | exact Nat.le_refl _ | (simp; done) | (simp; omega)) _ | with_reducible refine Below.drew ?_ | with_reducible refine below_drewN ?_ _ | with_reducible refine below_then ?_ (by with_reducible assumption)))⟩
        · go_wp2
          go_ret
          exact ⟨by simp_all, (by repeat (first | with_reducible exact Below.refl _ _ | with_reducible assumption | with_reducible refine below_alloc ?_ _ | with_reducible refine Below.setCell ?_ (by first | exact Nat.le_refl _ | (simp; done) | (simp; omega)) _ | with_reducible refine Below.drew ?_ | with_reducible refine below_drewN ?_ _ | with_reducible refine below_then ?_ (by with_reducible assumption)))⟩
    · have hx1 : j < n := by omega
      have hx2 : j ≤ 4 := by omega
      clear hx
      obtain ⟨b, off, rfl, hcc⟩ := HW1.2.1 (by omega)
      have hck := hcc j hx1
      clear hcc
      cases hbl : blk f 3 j
      all_goals
        rw [hbl] at HS
        go_wp2
        go_round
        case rel => exact ⟨j + 1, by omega, by omega, by go_num, by rw [HS.out]; simp⟩
        case measure => simp [intOf]; omega
set_option maxHeartbeats 1600000 in
theorem law_keeps_4_1 (a : Option Addr) (n c : Nat) (f : Nat → Int) (ma mb mc : Int) (w : World) (hn : n ≤ 20) (H : SliceInts w a n f) (hA : allowB f (floorI ma mb mc 1) 4 = true) (_hma : 0 ≤ ma) (hfl : floorI ma mb mc 1 = ma / 2) :
    Calls Try.prog 6 #[.slice a n c, .agg #[.int .i64 ma, .int .i64 mb, .int .i64 mc], .agg #[.int .i64 4, .int .i64 1]] w fun e w' => e = .returned (.bool true) ∧ Below w.heap.size w w' := by
  have hn' : (n : Int) ≤ 20 := by omega
  obtain ⟨_, hv, _, hle, hne⟩ := allowB_spec hA
  have hbd := aboveI_bd hv 0
  have hT : totI f = aboveI f 0 := by unfold totI; rw [if_pos hv]
  rw [show pw 4 = 16 by decide, hfl] at hle
  have hF : ∀ j, (4 ≤ j) → (n ≤ j ∨ 4 < j) → blk f 4 j = true := fun j _ hj => blk_true hv H.2.2 hne (by decide) hj
  have HF := Lib.hid hF
  have HFL := Lib.hid hfl
  clear hne hF hfl
  go_enter Try.func6, Try.ntmps6
  (go_wp2_with (go_at_call 10; refine (awake_any _).mono ?_; rintro e w1 ⟨rfl, hb⟩; obtain ⟨hc, hf, hz⟩ := bcell2 hb; try simp only [World.size_alloc] at hc hf hz))
  refine wp_forget (Two w ma mb mc (.int .i64 4) (.int .i64 1)) ?_ ?_
  · refine ⟨(by repeat (first | with_reducible exact Below.refl _ _ | with_reducible assumption | with_reducible refine below_alloc ?_ _ | with_reducible refine Below.setCell ?_ (by first | exact Nat.le_refl _ | (simp; done) | (simp; omega)) _ | with_reducible refine Below.drew ?_ | with_reducible refine below_drewN ?_ _ | with_reducible refine below_then ?_ (by with_reducible assumption))), by omega, ?_, ?_, ?_, ?_, ?_⟩ <;> (first | (simp [go_sem, *]; done) | (simp [go_sem, ↓IntWalk.iteOmega, *]; done))
  intro W0 hT0
  clear hb hc hf hz
  have hT1 := hT0
  obtain ⟨_, _, h1, h2, h3, h4, h5⟩ := hT1
  go_quiet (fail)
  obtain ⟨W, hW, hTw⟩ := hT0.drawn nq
  rw [← hW]
  clear hW hT0 h1 h2 h3 h4 h5
  have hT2 := hTw
  obtain ⟨hB, hZ, h1, h2, h3, h4, h5⟩ := hT2
  have HW := H.below hB
  go_wp2_with (first | (go_at_call 21; refine (valid_law _ _ _ f _ HW).mono ?_; rintro e w' ⟨rfl, rfl⟩; rw [hv]) | (go_at_call 19; refine (allowed_any _ _ _ f _ _ _ _ _ _ HW).mono ?_; rintro e w1 ⟨rfl, hb⟩; rw [hA]; obtain ⟨hc, hf, hz⟩ := bcell2 hb; have HW1 := HW.below hb; have hb1 := below_then hB hb))
  have hm := H.1
  clear hc hf
  go_loop [12, 13] (fun b i => ∃ j : Nat, 4 ≤ j ∧ j ≤ 5 ∧ i = .int .i64 j ∧ b = .bool (blk f 4 j)) (fun _ i => 5 - (intOf i).toNat)
  case atStart => exact ⟨4, Nat.le_refl _, by decide, rfl, by rw [blk_start]⟩
  case round =>
    obtain ⟨j, hj1, hj2, rfl, rfl⟩ := hrel
    have HS := Lib.hid (blk_step f 4 j hj1)
    by_cases hx : n ≤ j ∨ 4 < j
    · have hE := HF.out j hj1 hx
      rcases hx with hx | hx
      · have hx' : ¬ (j : Int) < (n : Int) := by omega
        go_wp2
        go_ret
        exact ⟨by simp_all, (by repeat (first | with_reducible exact Below.refl _ _ | with_reducible assumption | with_reducible refine below_alloc ?_ _ | with_reducible refine Below.setCell ?_ (by first | exact Nat.le_refl _ | (simp; done) | (simp; omega)) _ | with_reducible refine Below.drew ?_ | with_reducible refine below_drewN ?_ _ | with_reducible refine below_then ?_ (by with_reducible assumption)))⟩
      · by_cases hx2 : j < n
        · go_wp2
          go_ret
          exact ⟨by simp_all, (by repeat (first | with_reducible exact Below.refl _ _ | with_reducible assumption | with_reducible refine below_alloc ?_ _ | with_reducible refine Below.setCell ?_ (by first | exact Nat.le_refl _ | (simp; done) | (simp; omega)) _ | with_reducible refine Below.drew ?_ | with_reducible refine below_drewN ?_ _ | with_reducible refine below_then ?_ (by with_reducible assumption)))⟩
        · go_wp2
          go_ret
          exact ⟨by simp_all, (by repeat (first | with_reducible exact Below.refl _ _ | with_reducible assumption | with_reducible refine below_alloc ?_ _ | with_reducible refine Below.setCell ?_ (by first | exact Nat.le_refl _ | (simp; done) | (simp; omega)) _ | with_reducible refine Below.drew ?_ | with_reducible refine below_drewN ?_ _ | with_reducible refine below_then ?_ (by with_reducible assumption)))⟩
    · have hx1 : j < n := by omega
      have hx2 : j ≤ 4 := by omega
      clear hx
      obtain ⟨b, off, rfl, hcc⟩ := HW1.2.1 (by omega)
      have hck := hcc j hx1
      clear hcc
      cases hbl : blk f 4 j
      all_goals
        rw [hbl] at HS
        go_wp2
        go_round
        case rel => exact ⟨j + 1, by omega, by omega, by go_num, by rw [HS.out]; simp⟩
        case measure => simp [intOf]; omega
set_option maxHeartbeats 1600000 in
theorem law_keeps_0_2 (a : Option Addr) (n c : Nat) (f : Nat → Int) (ma mb mc : Int) (w : World) (hn : n ≤ 20) (H : SliceInts w a n f) (hA : allowB f (floorI ma mb mc 2) 0 = true) (_hma : 0 ≤ ma) (hfl : floorI ma mb mc 2 = 0) :
    Calls Try.prog 6 #[.slice a n c, .agg #[.int .i64 ma, .int .i64 mb, .int .i64 mc], .agg #[.int .i64 0, .int .i64 2]] w fun e w' => e = .returned (.bool true) ∧ Below w.heap.size w w' := by
  have hn' : (n : Int) ≤ 20 := by omega
  obtain ⟨_, hv, _, hle, hne⟩ := allowB_spec hA
  have hbd := aboveI_bd hv 0
  have hT : totI f = aboveI f 0 := by unfold totI; rw [if_pos hv]
  rw [show pw 0 = 1 by decide, hfl] at hle
  have hF : ∀ j, (0 ≤ j) → (n ≤ j ∨ 4 < j) → blk f 0 j = true := fun j _ hj => blk_true hv H.2.2 hne (by decide) hj
  have HF := Lib.hid hF
  have HFL := Lib.hid hfl
  clear hne hF hfl
  go_enter Try.func6, Try.ntmps6
  (go_wp2_with (go_at_call 10; refine (awake_any _).mono ?_; rintro e w1 ⟨rfl, hb⟩; obtain ⟨hc, hf, hz⟩ := bcell2 hb; try simp only [World.size_alloc] at hc hf hz))
  refine wp_forget (Two w ma mb mc (.int .i64 0) (.int .i64 2)) ?_ ?_
  · refine ⟨(by repeat (first | with_reducible exact Below.refl _ _ | with_reducible assumption | with_reducible refine below_alloc ?_ _ | with_reducible refine Below.setCell ?_ (by first | exact Nat.le_refl _ | (simp; done) | (simp; omega)) _ | with_reducible refine Below.drew ?_ | with_reducible refine below_drewN ?_ _ | with_reducible refine below_then ?_ (by with_reducible assumption))), by omega, ?_, ?_, ?_, ?_, ?_⟩ <;> (first | (simp [go_sem, *]; done) | (simp [go_sem, ↓IntWalk.iteOmega, *]; done))
  intro W0 hT0
  clear hb hc hf hz
  have hT1 := hT0
  obtain ⟨_, _, h1, h2, h3, h4, h5⟩ := hT1
  go_quiet (fail)
  obtain ⟨W, hW, hTw⟩ := hT0.drawn nq
  rw [← hW]
  clear hW hT0 h1 h2 h3 h4 h5
  have hT2 := hTw
  obtain ⟨hB, hZ, h1, h2, h3, h4, h5⟩ := hT2
  have HW := H.below hB
  go_wp2_with (first | (go_at_call 21; refine (valid_law _ _ _ f _ HW).mono ?_; rintro e w' ⟨rfl, rfl⟩; rw [hv]) | (go_at_call 19; refine (allowed_any _ _ _ f _ _ _ _ _ _ HW).mono ?_; rintro e w1 ⟨rfl, hb⟩; rw [hA]; obtain ⟨hc, hf, hz⟩ := bcell2 hb; have HW1 := HW.below hb; have hb1 := below_then hB hb))
  have hm := H.1
  clear hc hf
  go_loop [12, 13] (fun b i => ∃ j : Nat, 0 ≤ j ∧ j ≤ 5 ∧ i = .int .i64 j ∧ b = .bool (blk f 0 j)) (fun _ i => 5 - (intOf i).toNat)
  case atStart => exact ⟨0, Nat.le_refl _, by decide, rfl, by rw [blk_start]⟩
  case round =>
    obtain ⟨j, hj1, hj2, rfl, rfl⟩ := hrel
    have HS := Lib.hid (blk_step f 0 j hj1)
    by_cases hx : n ≤ j ∨ 4 < j
    · have hE := HF.out j hj1 hx
      rcases hx with hx | hx
      · have hx' : ¬ (j : Int) < (n : Int) := by omega
        go_wp2
        go_ret
        exact ⟨by simp_all, (by repeat (first | with_reducible exact Below.refl _ _ | with_reducible assumption | with_reducible refine below_alloc ?_ _ | with_reducible refine Below.setCell ?_ (by first | exact Nat.le_refl _ | (simp; done) | (simp; omega)) _ | with_reducible refine Below.drew ?_ | with_reducible refine below_drewN ?_ _ | with_reducible refine below_then ?_ (by with_reducible assumption)))⟩
      · by_cases hx2 : j < n
        · go_wp2
          go_ret
          exact ⟨by simp_all, (by repeat (first | with_reducible exact Below.refl _ _ | with_reducible assumption | with_reducible refine below_alloc ?_ _ | with_reducible refine Below.setCell ?_ (by first | exact Nat.le_refl _ | (simp; done) | (simp; omega)) _ | with_reducible refine Below.drew ?_ | with_reducible refine below_drewN ?_ _ | with_reducible refine below_then ?_ (by with_reducible assumption)))⟩
        · go_wp2
          go_ret
          exact ⟨by simp_all, (by repeat (first | with_reducible exact Below.refl _ _ | with_reducible assumption | with_reducible refine below_alloc ?_ _ | with_reducible refine Below.setCell ?_ (by first | exact Nat.le_refl _ | (simp; done) | (simp; omega)) _ | with_reducible refine Below.drew ?_ | with_reducible refine below_drewN ?_ _ | with_reducible refine below_then ?_ (by with_reducible assumption)))⟩
    · have hx1 : j < n := by omega
      have hx2 : j ≤ 4 := by omega
      clear hx
      obtain ⟨b, off, rfl, hcc⟩ := HW1.2.1 (by omega)
      have hck := hcc j hx1
      clear hcc
      cases hbl : blk f 0 j
      all_goals
        rw [hbl] at HS
        go_wp2
        go_round
        case rel => exact ⟨j + 1, by omega, by omega, by go_num, by rw [HS.out]; simp⟩
        case measure => simp [intOf]; omega
set_option maxHeartbeats 1600000 in
theorem law_keeps_1_2 (a : Option Addr) (n c : Nat) (f : Nat → Int) (ma mb mc : Int) (w : World) (hn : n ≤ 20) (H : SliceInts w a n f) (hA : allowB f (floorI ma mb mc 2) 1 = true) (_hma : 0 ≤ ma) (hfl : floorI ma mb mc 2 = 0) :
    Calls Try.prog 6 #[.slice a n c, .agg #[.int .i64 ma, .int .i64 mb, .int .i64 mc], .agg #[.int .i64 1, .int .i64 2]] w fun e w' => e = .returned (.bool true) ∧ Below w.heap.size w w' := by
  have hn' : (n : Int) ≤ 20 := by omega
  obtain ⟨_, hv, _, hle, hne⟩ := allowB_spec hA
  have hbd := aboveI_bd hv 0
  have hT : totI f = aboveI f 0 := by unfold totI; rw [if_pos hv]
  rw [show pw 1 = 2 by decide, hfl] at hle
  have hF : ∀ j, (1 ≤ j) → (n ≤ j ∨ 4 < j) → blk f 1 j = true := fun j _ hj => blk_true hv H.2.2 hne (by decide) hj
  have HF := Lib.hid hF
  have HFL := Lib.hid hfl
  clear hne hF hfl
  go_enter Try.func6, Try.ntmps6
  (go_wp2_with (go_at_call 10; refine (awake_any _).mono ?_; rintro e w1 ⟨rfl, hb⟩; obtain ⟨hc, hf, hz⟩ := bcell2 hb; try simp only [World.size_alloc] at hc hf hz))
  refine wp_forget (Two w ma mb mc (.int .i64 1) (.int .i64 2)) ?_ ?_
  · refine ⟨(by repeat (first | with_reducible exact Below.refl _ _ | with_reducible assumption | with_reducible refine below_alloc ?_ _ | with_reducible refine Below.setCell ?_ (by first | exact Nat.le_refl _ | (simp; done) | (simp; omega)) _ | with_reducible refine Below.drew ?_ | with_reducible refine below_drewN ?_ _ | with_reducible refine below_then ?_ (by with_reducible assumption))), by omega, ?_, ?_, ?_, ?_, ?_⟩ <;> (first | (simp [go_sem, *]; done) | (simp [go_sem, ↓IntWalk.iteOmega, *]; done))
  intro W0 hT0
  clear hb hc hf hz
  have hT1 := hT0
  obtain ⟨_, _, h1, h2, h3, h4, h5⟩ := hT1
  go_quiet (fail)
  obtain ⟨W, hW, hTw⟩ := hT0.drawn nq
  rw [← hW]
  clear hW hT0 h1 h2 h3 h4 h5
  have hT2 := hTw
  obtain ⟨hB, hZ, h1, h2, h3, h4, h5⟩ := hT2
  have HW := H.below hB
  go_wp2_with (first | (go_at_call 21; refine (valid_law _ _ _ f _ HW).mono ?_; rintro e w' ⟨rfl, rfl⟩; rw [hv]) | (go_at_call 19; refine (allowed_any _ _ _ f _ _ _ _ _ _ HW).mono ?_; rintro e w1 ⟨rfl, hb⟩; rw [hA]; obtain ⟨hc, hf, hz⟩ := bcell2 hb; have HW1 := HW.below hb; have hb1 := below_then hB hb))
  have hm := H.1
  clear hc hf
  go_loop [12, 13] (fun b i => ∃ j : Nat, 1 ≤ j ∧ j ≤ 5 ∧ i = .int .i64 j ∧ b = .bool (blk f 1 j)) (fun _ i => 5 - (intOf i).toNat)
  case atStart => exact ⟨1, Nat.le_refl _, by decide, rfl, by rw [blk_start]⟩
  case round =>
    obtain ⟨j, hj1, hj2, rfl, rfl⟩ := hrel
    have HS := Lib.hid (blk_step f 1 j hj1)
    by_cases hx : n ≤ j ∨ 4 < j
    · have hE := HF.out j hj1 hx
      rcases hx with hx | hx
      · have hx' : ¬ (j : Int) < (n : Int) := by omega
        go_wp2
        go_ret
        exact ⟨by simp_all, (by repeat (first | with_reducible exact Below.refl _ _ | with_reducible assumption | with_reducible refine below_alloc ?_ _ | with_reducible refine Below.setCell ?_ (by first | exact Nat.le_refl _ | (simp; done) | (simp; omega)) _ | with_reducible refine Below.drew ?_ | with_reducible refine below_drewN ?_ _ | with_reducible refine below_then ?_ (by with_reducible assumption)))⟩
      · by_cases hx2 : j < n
        · go_wp2
          go_ret
          exact ⟨by simp_all, (by repeat (first | with_reducible exact Below.refl _ _ | with_reducible assumption | with_reducible refine below_alloc ?_ _ | with_reducible refine Below.setCell ?_ (by first | exact Nat.le_refl _ | (simp; done) | (simp; omega)) _ | with_reducible refine Below.drew ?_ | with_reducible refine below_drewN ?_ _ | with_reducible refine below_then ?_ (by with_reducible assumption)))⟩
        · go_wp2
          go_ret
          exact ⟨by simp_all, (by repeat (first | with_reducible exact Below.refl _ _ | with_reducible assumption | with_reducible refine below_alloc ?_ _ | with_reducible refine Below.setCell ?_ (by first | exact Nat.le_refl _ | (simp; done) | (simp; omega)) _ | with_reducible refine Below.drew ?_ | with_reducible refine below_drewN ?_ _ | with_reducible refine below_then ?_ (by with_reducible assumption)))⟩
    · have hx1 : j < n := by omega
      have hx2 : j ≤ 4 := by omega
      clear hx
      obtain ⟨b, off, rfl, hcc⟩ := HW1.2.1 (by omega)
      have hck := hcc j hx1
      clear hcc
      cases hbl : blk f 1 j
      all_goals
        rw [hbl] at HS
        go_wp2
        go_round
        case rel => exact ⟨j + 1, by omega, by omega, by go_num, by rw [HS.out]; simp⟩
        case measure => simp [intOf]; omega
set_option maxHeartbeats 1600000 in
theorem law_keeps_2_2 (a : Option Addr) (n c : Nat) (f : Nat → Int) (ma mb mc : Int) (w : World) (hn : n ≤ 20) (H : SliceInts w a n f) (hA : allowB f (floorI ma mb mc 2) 2 = true) (_hma : 0 ≤ ma) (hfl : floorI ma mb mc 2 = 0) :
    Calls Try.prog 6 #[.slice a n c, .agg #[.int .i64 ma, .int .i64 mb, .int .i64 mc], .agg #[.int .i64 2, .int .i64 2]] w fun e w' => e = .returned (.bool true) ∧ Below w.heap.size w w' := by
  have hn' : (n : Int) ≤ 20 := by omega
  obtain ⟨_, hv, _, hle, hne⟩ := allowB_spec hA
  have hbd := aboveI_bd hv 0
  have hT : totI f = aboveI f 0 := by unfold totI; rw [if_pos hv]
  rw [show pw 2 = 4 by decide, hfl] at hle
  have hF : ∀ j, (2 ≤ j) → (n ≤ j ∨ 4 < j) → blk f 2 j = true := fun j _ hj => blk_true hv H.2.2 hne (by decide) hj
  have HF := Lib.hid hF
  have HFL := Lib.hid hfl
  clear hne hF hfl
  go_enter Try.func6, Try.ntmps6
  (go_wp2_with (go_at_call 10; refine (awake_any _).mono ?_; rintro e w1 ⟨rfl, hb⟩; obtain ⟨hc, hf, hz⟩ := bcell2 hb; try simp only [World.size_alloc] at hc hf hz))
  refine wp_forget (Two w ma mb mc (.int .i64 2) (.int .i64 2)) ?_ ?_
  · refine ⟨(by repeat (first | with_reducible exact Below.refl _ _ | with_reducible assumption | with_reducible refine below_alloc ?_ _ | with_reducible refine Below.setCell ?_ (by first | exact Nat.le_refl _ | (simp; done) | (simp; omega)) _ | with_reducible refine Below.drew ?_ | with_reducible refine below_drewN ?_ _ | with_reducible refine below_then ?_ (by with_reducible assumption))), by omega, ?_, ?_, ?_, ?_, ?_⟩ <;> (first | (simp [go_sem, *]; done) | (simp [go_sem, ↓IntWalk.iteOmega, *]; done))
  intro W0 hT0
  clear hb hc hf hz
  have hT1 := hT0
  obtain ⟨_, _, h1, h2, h3, h4, h5⟩ := hT1
  go_quiet (fail)
  obtain ⟨W, hW, hTw⟩ := hT0.drawn nq
  rw [← hW]
  clear hW hT0 h1 h2 h3 h4 h5
  have hT2 := hTw
  obtain ⟨hB, hZ, h1, h2, h3, h4, h5⟩ := hT2
  have HW := H.below hB
  go_wp2_with (first | (go_at_call 21; refine (valid_law _ _ _ f _ HW).mono ?_; rintro e w' ⟨rfl, rfl⟩; rw [hv]) | (go_at_call 19; refine (allowed_any _ _ _ f _ _ _ _ _ _ HW).mono ?_; rintro e w1 ⟨rfl, hb⟩; rw [hA]; obtain ⟨hc, hf, hz⟩ := bcell2 hb; have HW1 := HW.below hb; have hb1 := below_then hB hb))
  have hm := H.1
  clear hc hf
  go_loop [12, 13] (fun b i => ∃ j : Nat, 2 ≤ j ∧ j ≤ 5 ∧ i = .int .i64 j ∧ b = .bool (blk f 2 j)) (fun _ i => 5 - (intOf i).toNat)
  case atStart => exact ⟨2, Nat.le_refl _, by decide, rfl, by rw [blk_start]⟩
  case round =>
    obtain ⟨j, hj1, hj2, rfl, rfl⟩ := hrel
    have HS := Lib.hid (blk_step f 2 j hj1)
    by_cases hx : n ≤ j ∨ 4 < j
    · have hE := HF.out j hj1 hx
      rcases hx with hx | hx
      · have hx' : ¬ (j : Int) < (n : Int) := by omega
        go_wp2
        go_ret
        exact ⟨by simp_all, (by repeat (first | with_reducible exact Below.refl _ _ | with_reducible assumption | with_reducible refine below_alloc ?_ _ | with_reducible refine Below.setCell ?_ (by first | exact Nat.le_refl _ | (simp; done) | (simp; omega)) _ | with_reducible refine Below.drew ?_ | with_reducible refine below_drewN ?_ _ | with_reducible refine below_then ?_ (by with_reducible assumption)))⟩
      · by_cases hx2 : j < n
        · go_wp2
          go_ret
          exact ⟨by simp_all, (by repeat (first | with_reducible exact Below.refl _ _ | with_reducible assumption | with_reducible refine below_alloc ?_ _ | with_reducible refine Below.setCell ?_ (by first | exact Nat.le_refl _ | (simp; done) | (simp; omega)) _ | with_reducible refine Below.drew ?_ | with_reducible refine below_drewN ?_ _ | with_reducible refine below_then ?_ (by with_reducible assumption)))⟩
        · go_wp2
          go_ret
          exact ⟨by simp_all, (by repeat (first | with_reducible exact Below.refl _ _ | with_reducible assumption | with_reducible refine below_alloc ?_ _ | with_reducible refine Below.setCell ?_ (by first | exact Nat.le_refl _ | (simp; done) | (simp; omega)) _ | with_reducible refine Below.drew ?_ | with_reducible refine below_drewN ?_ _ | with_reducible refine below_then ?_ (by with_reducible assumption)))⟩
    · have hx1 : j < n := by omega
      have hx2 : j ≤ 4 := by omega
      clear hx
      obtain ⟨b, off, rfl, hcc⟩ := HW1.2.1 (by omega)
      have hck := hcc j hx1
      clear hcc
      cases hbl : blk f 2 j
      all_goals
        rw [hbl] at HS
        go_wp2
        go_round
        case rel => exact ⟨j + 1, by omega, by omega, by go_num, by rw [HS.out]; simp⟩
        case measure => simp [intOf]; omega
set_option maxHeartbeats 1600000 in
theorem law_keeps_3_2 (a : Option Addr) (n c : Nat) (f : Nat → Int) (ma mb mc : Int) (w : World) (hn : n ≤ 20) (H : SliceInts w a n f) (hA : allowB f (floorI ma mb mc 2) 3 = true) (_hma : 0 ≤ ma) (hfl : floorI ma mb mc 2 = 0) :
    Calls Try.prog 6 #[.slice a n c, .agg #[.int .i64 ma, .int .i64 mb, .int .i64 mc], .agg #[.int .i64 3, .int .i64 2]] w fun e w' => e = .returned (.bool true) ∧ Below w.heap.size w w' := by
  have hn' : (n : Int) ≤ 20 := by omega
  obtain ⟨_, hv, _, hle, hne⟩ := allowB_spec hA
  have hbd := aboveI_bd hv 0
  have hT : totI f = aboveI f 0 := by unfold totI; rw [if_pos hv]
  rw [show pw 3 = 8 by decide, hfl] at hle
  have hF : ∀ j, (3 ≤ j) → (n ≤ j ∨ 4 < j) → blk f 3 j = true := fun j _ hj => blk_true hv H.2.2 hne (by decide) hj
  have HF := Lib.hid hF
  have HFL := Lib.hid hfl
  clear hne hF hfl
  go_enter Try.func6, Try.ntmps6
  (go_wp2_with (go_at_call 10; refine (awake_any _).mono ?_; rintro e w1 ⟨rfl, hb⟩; obtain ⟨hc, hf, hz⟩ := bcell2 hb; try simp only [World.size_alloc] at hc hf hz))
  refine wp_forget (Two w ma mb mc (.int .i64 3) (.int .i64 2)) ?_ ?_
  · refine ⟨(by repeat (first | with_reducible exact Below.refl _ _ | with_reducible assumption | with_reducible refine below_alloc ?_ _ | with_reducible refine Below.setCell ?_ (by first | exact Nat.le_refl _ | (simp; done) | (simp; omega)) _ | with_reducible refine Below.drew ?_ | with_reducible refine below_drewN ?_ _ | with_reducible refine below_then ?_ (by with_reducible assumption))), by omega, ?_, ?_, ?_, ?_, ?_⟩ <;> (first | (simp [go_sem, *]; done) | (simp [go_sem, ↓IntWalk.iteOmega, *]; done))
  intro W0 hT0
  clear hb hc hf hz
  have hT1 := hT0
  obtain ⟨_, _, h1, h2, h3, h4, h5⟩ := hT1
  go_quiet (fail)
  obtain ⟨W, hW, hTw⟩ := hT0.drawn nq
  rw [← hW]
  clear hW hT0 h1 h2 h3 h4 h5
  have hT2 := hTw
  obtain ⟨hB, hZ, h1, h2, h3, h4, h5⟩ := hT2
  have HW := H.below hB
  go_wp2_with (first | (go_at_call 21; refine (valid_law _ _ _ f _ HW).mono ?_; rintro e w' ⟨rfl, rfl⟩; rw [hv]) | (go_at_call 19; refine (allowed_any _ _ _ f _ _ _ _ _ _ HW).mono ?_; rintro e w1 ⟨rfl, hb⟩; rw [hA]; obtain ⟨hc, hf, hz⟩ := bcell2 hb; have HW1 := HW.below hb; have hb1 := below_then hB hb))
  have hm := H.1
  clear hc hf
  go_loop [12, 13] (fun b i => ∃ j : Nat, 3 ≤ j ∧ j ≤ 5 ∧ i = .int .i64 j ∧ b = .bool (blk f 3 j)) (fun _ i => 5 - (intOf i).toNat)
  case atStart => exact ⟨3, Nat.le_refl _, by decide, rfl, by rw [blk_start]⟩
  case round =>
    obtain ⟨j, hj1, hj2, rfl, rfl⟩ := hrel
    have HS := Lib.hid (blk_step f 3 j hj1)
    by_cases hx : n ≤ j ∨ 4 < j
    · have hE := HF.out j hj1 hx
      rcases hx with hx | hx
      · have hx' : ¬ (j : Int) < (n : Int) := by omega
        go_wp2
        go_ret
        exact ⟨by simp_all, (by repeat (first | with_reducible exact Below.refl _ _ | with_reducible assumption | with_reducible refine below_alloc ?_ _ | with_reducible refine Below.setCell ?_ (by first | exact Nat.le_refl _ | (simp; done) | (simp; omega)) _ | with_reducible refine Below.drew ?_ | with_reducible refine below_drewN ?_ _ | with_reducible refine below_then ?_ (by with_reducible assumption)))⟩
      · by_cases hx2 : j < n
        · go_wp2
          go_ret
          exact ⟨by simp_all, (by repeat (first | with_reducible exact Below.refl _ _ | with_reducible assumption | with_reducible refine below_alloc ?_ _ | with_reducible refine Below.setCell ?_ (by first | exact Nat.le_refl _ | (simp; done) | (simp; omega)) _ | with_reducible refine Below.drew ?_ | with_reducible refine below_drewN ?_ _ | with_reducible refine below_then ?_ (by with_reducible assumption)))⟩
        · go_wp2
          go_ret
          exact ⟨by simp_all, (by repeat (first | with_reducible exact Below.refl _ _ | with_reducible assumption | with_reducible refine below_alloc ?_ _ | with_reducible refine Below.setCell ?_ (by first | exact Nat.le_refl _ | (simp; done) | (simp; omega)) _ | with_reducible refine Below.drew ?_ | with_reducible refine below_drewN ?_ _ | with_reducible refine below_then ?_ (by with_reducible assumption)))⟩
    · have hx1 : j < n := by omega
      have hx2 : j ≤ 4 := by omega
      clear hx
      obtain ⟨b, off, rfl, hcc⟩ := HW1.2.1 (by omega)
      have hck := hcc j hx1
      clear hcc
      cases hbl : blk f 3 j
      all_goals
        rw [hbl] at HS
        go_wp2
        go_round
        case rel => exact ⟨j + 1, by omega, by omega, by go_num, by rw [HS.out]; simp⟩
        case measure => simp [intOf]; omega
set_option maxHeartbeats 1600000 in
theorem law_keeps_4_2 (a : Option Addr) (n c : Nat) (f : Nat → Int) (ma mb mc : Int) (w : World) (hn : n ≤ 20) (H : SliceInts w a n f) (hA : allowB f (floorI ma mb mc 2) 4 = true) (_hma : 0 ≤ ma) (hfl : floorI ma mb mc 2 = 0) :
    Calls Try.prog 6 #[.slice a n c, .agg #[.int .i64 ma, .int .i64 mb, .int .i64 mc], .agg #[.int .i64 4, .int .i64 2]] w fun e w' => e = .returned (.bool true) ∧ Below w.heap.size w w' := by
  have hn' : (n : Int) ≤ 20 := by omega
  obtain ⟨_, hv, _, hle, hne⟩ := allowB_spec hA
  have hbd := aboveI_bd hv 0
  have hT : totI f = aboveI f 0 := by unfold totI; rw [if_pos hv]
  rw [show pw 4 = 16 by decide, hfl] at hle
  have hF : ∀ j, (4 ≤ j) → (n ≤ j ∨ 4 < j) → blk f 4 j = true := fun j _ hj => blk_true hv H.2.2 hne (by decide) hj
  have HF := Lib.hid hF
  have HFL := Lib.hid hfl
  clear hne hF hfl
  go_enter Try.func6, Try.ntmps6
  (go_wp2_with (go_at_call 10; refine (awake_any _).mono ?_; rintro e w1 ⟨rfl, hb⟩; obtain ⟨hc, hf, hz⟩ := bcell2 hb; try simp only [World.size_alloc] at hc hf hz))
  refine wp_forget (Two w ma mb mc (.int .i64 4) (.int .i64 2)) ?_ ?_
  · refine ⟨(by repeat (first | with_reducible exact Below.refl _ _ | with_reducible assumption | with_reducible refine below_alloc ?_ _ | with_reducible refine Below.setCell ?_ (by first | exact Nat.le_refl _ | (simp; done) | (simp; omega)) _ | with_reducible refine Below.drew ?_ | with_reducible refine below_drewN ?_ _ | with_reducible refine below_then ?_ (by with_reducible assumption))), by omega, ?_, ?_, ?_, ?_, ?_⟩ <;> (first | (simp [go_sem, *]; done) | (simp [go_sem, ↓IntWalk.iteOmega, *]; done))
  intro W0 hT0
  clear hb hc hf hz
  have hT1 := hT0
  obtain ⟨_, _, h1, h2, h3, h4, h5⟩ := hT1
  go_quiet (fail)
  obtain ⟨W, hW, hTw⟩ := hT0.drawn nq
  rw [← hW]
  clear hW hT0 h1 h2 h3 h4 h5
  have hT2 := hTw
  obtain ⟨hB, hZ, h1, h2, h3, h4, h5⟩ := hT2
  have HW := H.below hB
  go_wp2_with (first | (go_at_call 21; refine (valid_law _ _ _ f _ HW).mono ?_; rintro e w' ⟨rfl, rfl⟩; rw [hv]) | (go_at_call 19; refine (allowed_any _ _ _ f _ _ _ _ _ _ HW).mono ?_; rintro e w1 ⟨rfl, hb⟩; rw [hA]; obtain ⟨hc, hf, hz⟩ := bcell2 hb; have HW1 := HW.below hb; have hb1 := below_then hB hb))
  have hm := H.1
  clear hc hf
  go_loop [12, 13] (fun b i => ∃ j : Nat, 4 ≤ j ∧ j ≤ 5 ∧ i = .int .i64 j ∧ b = .bool (blk f 4 j)) (fun _ i => 5 - (intOf i).toNat)
  case atStart => exact ⟨4, Nat.le_refl _, by decide, rfl, by rw [blk_start]⟩
  case round =>
    obtain ⟨j, hj1, hj2, rfl, rfl⟩ := hrel
    have HS := Lib.hid (blk_step f 4 j hj1)
    by_cases hx : n ≤ j ∨ 4 < j
    · have hE := HF.out j hj1 hx
      rcases hx with hx | hx
      · have hx' : ¬ (j : Int) < (n : Int) := by omega
        go_wp2
        go_ret
        exact ⟨by simp_all, (by repeat (first | with_reducible exact Below.refl _ _ | with_reducible assumption | with_reducible refine below_alloc ?_ _ | with_reducible refine Below.setCell ?_ (by first | exact Nat.le_refl _ | (simp; done) | (simp; omega)) _ | with_reducible refine Below.drew ?_ | with_reducible refine below_drewN ?_ _ | with_reducible refine below_then ?_ (by with_reducible assumption)))⟩
      · by_cases hx2 : j < n
        · go_wp2
          go_ret
          exact ⟨by simp_all, (by repeat (first | with_reducible exact Below.refl _ _ | with_reducible assumption | with_reducible refine below_alloc ?_ _ | with_reducible refine Below.setCell ?_ (by first | exact Nat.le_refl _ | (simp; done) | (simp; omega)) _ | with_reducible refine Below.drew ?_ | with_reducible refine below_drewN ?_ _ | with_reducible refine below_then ?_ (by with_reducible assumption)))⟩
        · go_wp2
          go_ret
          exact ⟨by simp_all, (by repeat (first | with_reducible exact Below.refl _ _ | with_reducible assumption | with_reducible refine below_alloc ?_ _ | with_reducible refine Below.setCell ?_ (by first | exact Nat.le_refl _ | (simp; done) | (simp; omega)) _ | with_reducible refine Below.drew ?_ | with_reducible refine below_drewN ?_ _ | with_reducible refine below_then ?_ (by with_reducible assumption)))⟩
    · have hx1 : j < n := by omega
      have hx2 : j ≤ 4 := by omega
      clear hx
      obtain ⟨b, off, rfl, hcc⟩ := HW1.2.1 (by omega)
      have hck := hcc j hx1
      clear hcc
      cases hbl : blk f 4 j
      all_goals
        rw [hbl] at HS
        go_wp2
        go_round
        case rel => exact ⟨j + 1, by omega, by omega, by go_num, by rw [HS.out]; simp⟩
        case measure => simp [intOf]; omega
theorem law_keeps (a : Option Addr) (n c : Nat) (f : Nat → Int) (ma mb mc k x : Int) (w : World) (H : SliceInts w a n f) :
    Calls Try.prog 6 #[.slice a n c, .agg #[.int .i64 ma, .int .i64 mb, .int .i64 mc], .agg #[.int .i64 k, .int .i64 x]] w fun e w' => e = .returned (.bool true) ∧ Below w.heap.size w w' := by
  rcases Nat.lt_or_ge 20 n with hn | hn
  · exact law_keeps_long a n c f ma mb mc k x w hn H
  · cases hA : allowB f (floorI ma mb mc x) k with
    | false => exact law_keeps_no a n c f ma mb mc k x w hn H hA
    | true =>
      obtain ⟨hfl, _, hk, _, _⟩ := allowB_spec hA
      have hma : 0 ≤ ma := by
        have h := checkI_ok (a := ma) (b := mb) (c := mc) (by
          apply Classical.byContradiction
          intro hc
          unfold floorI at hfl; rw [if_neg hc] at hfl; omega)
        omega
      have hk' : k = 0 ∨ k = 1 ∨ k = 2 ∨ k = 3 ∨ k = 4 := by omega
      rcases floorI_at hfl with ⟨rfl, hF⟩ | ⟨rfl, hF⟩ | ⟨rfl, hF⟩
      · rcases hk' with rfl | rfl | rfl | rfl | rfl
        · exact law_keeps_0_0 a n c f ma mb mc w hn H hA hma hF
        · exact law_keeps_1_0 a n c f ma mb mc w hn H hA hma hF
        · exact law_keeps_2_0 a n c f ma mb mc w hn H hA hma hF
        · exact law_keeps_3_0 a n c f ma mb mc w hn H hA hma hF
        · exact law_keeps_4_0 a n c f ma mb mc w hn H hA hma hF
      · rcases hk' with rfl | rfl | rfl | rfl | rfl
        · exact law_keeps_0_1 a n c f ma mb mc w hn H hA hma hF
        · exact law_keeps_1_1 a n c f ma mb mc w hn H hA hma hF
        · exact law_keeps_2_1 a n c f ma mb mc w hn H hA hma hF
        · exact law_keeps_3_1 a n c f ma mb mc w hn H hA hma hF
        · exact law_keeps_4_1 a n c f ma mb mc w hn H hA hma hF
      · rcases hk' with rfl | rfl | rfl | rfl | rfl
        · exact law_keeps_0_2 a n c f ma mb mc w hn H hA hma hF
        · exact law_keeps_1_2 a n c f ma mb mc w hn H hA hma hF
        · exact law_keeps_2_2 a n c f ma mb mc w hn H hA hma hF
        · exact law_keeps_3_2 a n c f ma mb mc w hn H hA hma hF
        · exact law_keeps_4_2 a n c f ma mb mc w hn H hA hma hF
end Go.Proofs.Ytneibbefkjjlnaa
