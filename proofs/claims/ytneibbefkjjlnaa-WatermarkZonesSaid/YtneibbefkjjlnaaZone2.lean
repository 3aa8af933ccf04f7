/- Walks: the small functions on zones. -/
import Derived.Test.YtneibbefkjjlnaaWalks
import Derived.Test.YtneibbefkjjlnaaZone1
import Derived.OwnWalk
import Derived.Deep.LoopGhost
namespace Go.Proofs.Ytneibbefkjjlnaa
open Go.RowKit Go.Over Go.Bud
set_option maxRecDepth 100000 in set_option maxHeartbeats 1600000 in
theorem ranges_34 (nd kd st ct mn : Int) (s0 s1 s2 s3 s4 : Value) (w : World) (h0 : -9223372036854775808 ≤ ct) (h1 : ct ≤ 9223372036854775807) (h2 : -9223372036854775808 ≤ st) (h3 : st ≤ 9223372036854775807) :
    Calls Try.prog 34 #[.agg #[.int .i64 nd, .int .i64 kd, .int .i64 st, .int .i64 ct, .int .i64 mn, s0, s1, s2, s3, s4]] w fun e w' => e = .returned (.bool (rangesB nd kd st ct mn)) ∧ Below w.heap.size w w' := by
  go_enter Try.func34, Try.ntmps34
  go_wp2
  all_goals
    go_ret
    refine ⟨ret_bool ?_, (by repeat (first | with_reducible exact Below.refl _ _ | with_reducible assumption | with_reducible refine below_alloc ?_ _ | with_reducible refine Below.drew ?_ | with_reducible refine below_drewN ?_ _ | with_reducible refine below_then ?_ (by with_reducible assumption)))⟩
    unfold rangesB
    rw [Bool.eq_iff_iff]
    first
      | (simp only [decide_eq_true_eq, Bool.false_eq_true, false_iff]; omega)
      | (simp only [decide_eq_true_eq]; omega)
      | (simp only [bne_iff_ne, ne_eq, decide_eq_true_eq, Bool.false_eq_true, false_iff] at *; omega)
      | (simp only [bne_eq_false_iff_eq, decide_eq_true_eq] at *; omega)
set_option maxRecDepth 100000 in set_option maxHeartbeats 1600000 in
theorem ranges_37 (nd kd st ct mn : Int) (s0 s1 s2 s3 s4 : Value) (w : World) (h0 : -9223372036854775808 ≤ ct) (h1 : ct ≤ 9223372036854775807) (h2 : -9223372036854775808 ≤ st) (h3 : st ≤ 9223372036854775807) :
    Calls Try.prog 37 #[.agg #[.int .i64 nd, .int .i64 kd, .int .i64 st, .int .i64 ct, .int .i64 mn, s0, s1, s2, s3, s4]] w fun e w' => e = .returned (.bool (rangesB nd kd st ct mn)) ∧ Below w.heap.size w w' := by
  go_enter Try.func37, Try.ntmps37
  go_wp2
  all_goals
    go_ret
    refine ⟨ret_bool ?_, (by repeat (first | with_reducible exact Below.refl _ _ | with_reducible assumption | with_reducible refine below_alloc ?_ _ | with_reducible refine Below.drew ?_ | with_reducible refine below_drewN ?_ _ | with_reducible refine below_then ?_ (by with_reducible assumption)))⟩
    unfold rangesB
    rw [Bool.eq_iff_iff]
    first
      | (simp only [decide_eq_true_eq, Bool.false_eq_true, false_iff]; omega)
      | (simp only [decide_eq_true_eq]; omega)
      | (simp only [bne_iff_ne, ne_eq, decide_eq_true_eq, Bool.false_eq_true, false_iff] at *; omega)
      | (simp only [bne_eq_false_iff_eq, decide_eq_true_eq] at *; omega)
theorem pw_0 : pw 0 = 1 := rfl
set_option maxRecDepth 100000 in set_option maxHeartbeats 1600000 in
theorem inside_35_0 (nd kd st ct mn : Int) (s0 s1 s2 s3 s4 : Value) (f : Int) (w : World) (h0 : 0 ≤ st) (h1 : st < 256) (h2 : 1 ≤ ct) (h3 : ct ≤ 256) :
    Calls Try.prog 35 #[.agg #[.int .i64 nd, .int .i64 kd, .int .i64 st, .int .i64 ct, .int .i64 mn, s0, s1, s2, s3, s4], .int .i64 f, .int .i64 0] w fun e w' => e = .returned (.bool (insideB st ct f 0)) ∧ Below w.heap.size w w' := by
  unfold insideB
  rw [pw_0]
  by_cases hs : st ≤ f
  · obtain ⟨q, hq⟩ : ∃ q, f % 1 = q := ⟨_, rfl⟩
    have hq2 : f.tmod 1 = q := by rw [Int.tmod_eq_emod_of_nonneg (by omega)]; exact hq
    rw [hq]
    have HQ := Lib.hid hq
    clear hq
    go_enter Try.func35, Try.ntmps35
    go_wp2
    all_goals
      go_ret
      refine ⟨ret_bool ?_, (by repeat (first | with_reducible exact Below.refl _ _ | with_reducible assumption | with_reducible refine below_alloc ?_ _ | with_reducible refine Below.drew ?_ | with_reducible refine below_drewN ?_ _ | with_reducible refine below_then ?_ (by with_reducible assumption)))⟩
      rw [Bool.eq_iff_iff]
      first
        | (simp; done)
        | (simp; omega)
        | (simp at *; omega)
        | trace_state
  · go_enter Try.func35, Try.ntmps35
    go_wp2
    go_ret
    refine ⟨ret_bool ?_, (by repeat (first | with_reducible exact Below.refl _ _ | with_reducible assumption | with_reducible refine below_alloc ?_ _ | with_reducible refine Below.drew ?_ | with_reducible refine below_drewN ?_ _ | with_reducible refine below_then ?_ (by with_reducible assumption)))⟩
    rw [Bool.eq_iff_iff]
    first
      | (simp; done)
      | (simp; omega)
      | trace_state
set_option maxRecDepth 100000 in set_option maxHeartbeats 1600000 in
theorem block_40_0 (nd kd st ct mn : Int) (s0 s1 s2 s3 s4 : Value) (f : Int) (w : World) (h0 : 0 ≤ st) (h1 : st < 256) (h2 : 1 ≤ ct) (h3 : ct ≤ 256) :
    Calls Try.prog 40 #[.agg #[.int .i64 nd, .int .i64 kd, .int .i64 st, .int .i64 ct, .int .i64 mn, s0, s1, s2, s3, s4], .int .i64 f, .int .i64 0] w fun e w' => e = .returned (.bool (insideB st ct f 0)) ∧ Below w.heap.size w w' := by
  unfold insideB
  rw [pw_0]
  by_cases hs : st ≤ f
  · obtain ⟨q, hq⟩ : ∃ q, f % 1 = q := ⟨_, rfl⟩
    have hq2 : f.tmod 1 = q := by rw [Int.tmod_eq_emod_of_nonneg (by omega)]; exact hq
    rw [hq]
    have HQ := Lib.hid hq
    clear hq
    go_enter Try.func40, Try.ntmps40
    go_wp2
    all_goals
      go_ret
      refine ⟨ret_bool ?_, (by repeat (first | with_reducible exact Below.refl _ _ | with_reducible assumption | with_reducible refine below_alloc ?_ _ | with_reducible refine Below.drew ?_ | with_reducible refine below_drewN ?_ _ | with_reducible refine below_then ?_ (by with_reducible assumption)))⟩
      rw [Bool.eq_iff_iff]
      first
        | (simp; done)
        | (simp; omega)
        | (simp at *; omega)
        | trace_state
  · go_enter Try.func40, Try.ntmps40
    go_wp2
    go_ret
    refine ⟨ret_bool ?_, (by repeat (first | with_reducible exact Below.refl _ _ | with_reducible assumption | with_reducible refine below_alloc ?_ _ | with_reducible refine Below.drew ?_ | with_reducible refine below_drewN ?_ _ | with_reducible refine below_then ?_ (by with_reducible assumption)))⟩
    rw [Bool.eq_iff_iff]
    first
      | (simp; done)
      | (simp; omega)
      | trace_state
theorem pw_1 : pw 1 = 2 := rfl
set_option maxRecDepth 100000 in set_option maxHeartbeats 1600000 in
theorem inside_35_1 (nd kd st ct mn : Int) (s0 s1 s2 s3 s4 : Value) (f : Int) (w : World) (h0 : 0 ≤ st) (h1 : st < 256) (h2 : 1 ≤ ct) (h3 : ct ≤ 256) :
    Calls Try.prog 35 #[.agg #[.int .i64 nd, .int .i64 kd, .int .i64 st, .int .i64 ct, .int .i64 mn, s0, s1, s2, s3, s4], .int .i64 f, .int .i64 1] w fun e w' => e = .returned (.bool (insideB st ct f 1)) ∧ Below w.heap.size w w' := by
  unfold insideB
  rw [pw_1]
  by_cases hs : st ≤ f
  · obtain ⟨q, hq⟩ : ∃ q, f % 2 = q := ⟨_, rfl⟩
    have hq2 : f.tmod 2 = q := by rw [Int.tmod_eq_emod_of_nonneg (by omega)]; exact hq
    rw [hq]
    have HQ := Lib.hid hq
    clear hq
    go_enter Try.func35, Try.ntmps35
    go_wp2
    all_goals
      go_ret
      refine ⟨ret_bool ?_, (by repeat (first | with_reducible exact Below.refl _ _ | with_reducible assumption | with_reducible refine below_alloc ?_ _ | with_reducible refine Below.drew ?_ | with_reducible refine below_drewN ?_ _ | with_reducible refine below_then ?_ (by with_reducible assumption)))⟩
      rw [Bool.eq_iff_iff]
      first
        | (simp; done)
        | (simp; omega)
        | (simp at *; omega)
        | trace_state
  · go_enter Try.func35, Try.ntmps35
    go_wp2
    go_ret
    refine ⟨ret_bool ?_, (by repeat (first | with_reducible exact Below.refl _ _ | with_reducible assumption | with_reducible refine below_alloc ?_ _ | with_reducible refine Below.drew ?_ | with_reducible refine below_drewN ?_ _ | with_reducible refine below_then ?_ (by with_reducible assumption)))⟩
    rw [Bool.eq_iff_iff]
    first
      | (simp; done)
      | (simp; omega)
      | trace_state
set_option maxRecDepth 100000 in set_option maxHeartbeats 1600000 in
theorem block_40_1 (nd kd st ct mn : Int) (s0 s1 s2 s3 s4 : Value) (f : Int) (w : World) (h0 : 0 ≤ st) (h1 : st < 256) (h2 : 1 ≤ ct) (h3 : ct ≤ 256) :
    Calls Try.prog 40 #[.agg #[.int .i64 nd, .int .i64 kd, .int .i64 st, .int .i64 ct, .int .i64 mn, s0, s1, s2, s3, s4], .int .i64 f, .int .i64 1] w fun e w' => e = .returned (.bool (insideB st ct f 1)) ∧ Below w.heap.size w w' := by
  unfold insideB
  rw [pw_1]
  by_cases hs : st ≤ f
  · obtain ⟨q, hq⟩ : ∃ q, f % 2 = q := ⟨_, rfl⟩
    have hq2 : f.tmod 2 = q := by rw [Int.tmod_eq_emod_of_nonneg (by omega)]; exact hq
    rw [hq]
    have HQ := Lib.hid hq
    clear hq
    go_enter Try.func40, Try.ntmps40
    go_wp2
    all_goals
      go_ret
      refine ⟨ret_bool ?_, (by repeat (first | with_reducible exact Below.refl _ _ | with_reducible assumption | with_reducible refine below_alloc ?_ _ | with_reducible refine Below.drew ?_ | with_reducible refine below_drewN ?_ _ | with_reducible refine below_then ?_ (by with_reducible assumption)))⟩
      rw [Bool.eq_iff_iff]
      first
        | (simp; done)
        | (simp; omega)
        | (simp at *; omega)
        | trace_state
  · go_enter Try.func40, Try.ntmps40
    go_wp2
    go_ret
    refine ⟨ret_bool ?_, (by repeat (first | with_reducible exact Below.refl _ _ | with_reducible assumption | with_reducible refine below_alloc ?_ _ | with_reducible refine Below.drew ?_ | with_reducible refine below_drewN ?_ _ | with_reducible refine below_then ?_ (by with_reducible assumption)))⟩
    rw [Bool.eq_iff_iff]
    first
      | (simp; done)
      | (simp; omega)
      | trace_state
theorem pw_2 : pw 2 = 4 := rfl
set_option maxRecDepth 100000 in set_option maxHeartbeats 1600000 in
theorem inside_35_2 (nd kd st ct mn : Int) (s0 s1 s2 s3 s4 : Value) (f : Int) (w : World) (h0 : 0 ≤ st) (h1 : st < 256) (h2 : 1 ≤ ct) (h3 : ct ≤ 256) :
    Calls Try.prog 35 #[.agg #[.int .i64 nd, .int .i64 kd, .int .i64 st, .int .i64 ct, .int .i64 mn, s0, s1, s2, s3, s4], .int .i64 f, .int .i64 2] w fun e w' => e = .returned (.bool (insideB st ct f 2)) ∧ Below w.heap.size w w' := by
  unfold insideB
  rw [pw_2]
  by_cases hs : st ≤ f
  · obtain ⟨q, hq⟩ : ∃ q, f % 4 = q := ⟨_, rfl⟩
    have hq2 : f.tmod 4 = q := by rw [Int.tmod_eq_emod_of_nonneg (by omega)]; exact hq
    rw [hq]
    have HQ := Lib.hid hq
    clear hq
    go_enter Try.func35, Try.ntmps35
    go_wp2
    all_goals
      go_ret
      refine ⟨ret_bool ?_, (by repeat (first | with_reducible exact Below.refl _ _ | with_reducible assumption | with_reducible refine below_alloc ?_ _ | with_reducible refine Below.drew ?_ | with_reducible refine below_drewN ?_ _ | with_reducible refine below_then ?_ (by with_reducible assumption)))⟩
      rw [Bool.eq_iff_iff]
      first
        | (simp; done)
        | (simp; omega)
        | (simp at *; omega)
        | trace_state
  · go_enter Try.func35, Try.ntmps35
    go_wp2
    go_ret
    refine ⟨ret_bool ?_, (by repeat (first | with_reducible exact Below.refl _ _ | with_reducible assumption | with_reducible refine below_alloc ?_ _ | with_reducible refine Below.drew ?_ | with_reducible refine below_drewN ?_ _ | with_reducible refine below_then ?_ (by with_reducible assumption)))⟩
    rw [Bool.eq_iff_iff]
    first
      | (simp; done)
      | (simp; omega)
      | trace_state
set_option maxRecDepth 100000 in set_option maxHeartbeats 1600000 in
theorem block_40_2 (nd kd st ct mn : Int) (s0 s1 s2 s3 s4 : Value) (f : Int) (w : World) (h0 : 0 ≤ st) (h1 : st < 256) (h2 : 1 ≤ ct) (h3 : ct ≤ 256) :
    Calls Try.prog 40 #[.agg #[.int .i64 nd, .int .i64 kd, .int .i64 st, .int .i64 ct, .int .i64 mn, s0, s1, s2, s3, s4], .int .i64 f, .int .i64 2] w fun e w' => e = .returned (.bool (insideB st ct f 2)) ∧ Below w.heap.size w w' := by
  unfold insideB
  rw [pw_2]
  by_cases hs : st ≤ f
  · obtain ⟨q, hq⟩ : ∃ q, f % 4 = q := ⟨_, rfl⟩
    have hq2 : f.tmod 4 = q := by rw [Int.tmod_eq_emod_of_nonneg (by omega)]; exact hq
    rw [hq]
    have HQ := Lib.hid hq
    clear hq
    go_enter Try.func40, Try.ntmps40
    go_wp2
    all_goals
      go_ret
      refine ⟨ret_bool ?_, (by repeat (first | with_reducible exact Below.refl _ _ | with_reducible assumption | with_reducible refine below_alloc ?_ _ | with_reducible refine Below.drew ?_ | with_reducible refine below_drewN ?_ _ | with_reducible refine below_then ?_ (by with_reducible assumption)))⟩
      rw [Bool.eq_iff_iff]
      first
        | (simp; done)
        | (simp; omega)
        | (simp at *; omega)
        | trace_state
  · go_enter Try.func40, Try.ntmps40
    go_wp2
    go_ret
    refine ⟨ret_bool ?_, (by repeat (first | with_reducible exact Below.refl _ _ | with_reducible assumption | with_reducible refine below_alloc ?_ _ | with_reducible refine Below.drew ?_ | with_reducible refine below_drewN ?_ _ | with_reducible refine below_then ?_ (by with_reducible assumption)))⟩
    rw [Bool.eq_iff_iff]
    first
      | (simp; done)
      | (simp; omega)
      | trace_state
theorem pw_3 : pw 3 = 8 := rfl
set_option maxRecDepth 100000 in set_option maxHeartbeats 1600000 in
theorem inside_35_3 (nd kd st ct mn : Int) (s0 s1 s2 s3 s4 : Value) (f : Int) (w : World) (h0 : 0 ≤ st) (h1 : st < 256) (h2 : 1 ≤ ct) (h3 : ct ≤ 256) :
    Calls Try.prog 35 #[.agg #[.int .i64 nd, .int .i64 kd, .int .i64 st, .int .i64 ct, .int .i64 mn, s0, s1, s2, s3, s4], .int .i64 f, .int .i64 3] w fun e w' => e = .returned (.bool (insideB st ct f 3)) ∧ Below w.heap.size w w' := by
  unfold insideB
  rw [pw_3]
  by_cases hs : st ≤ f
  · obtain ⟨q, hq⟩ : ∃ q, f % 8 = q := ⟨_, rfl⟩
    have hq2 : f.tmod 8 = q := by rw [Int.tmod_eq_emod_of_nonneg (by omega)]; exact hq
    rw [hq]
    have HQ := Lib.hid hq
    clear hq
    go_enter Try.func35, Try.ntmps35
    go_wp2
    all_goals
      go_ret
      refine ⟨ret_bool ?_, (by repeat (first | with_reducible exact Below.refl _ _ | with_reducible assumption | with_reducible refine below_alloc ?_ _ | with_reducible refine Below.drew ?_ | with_reducible refine below_drewN ?_ _ | with_reducible refine below_then ?_ (by with_reducible assumption)))⟩
      rw [Bool.eq_iff_iff]
      first
        | (simp; done)
        | (simp; omega)
        | (simp at *; omega)
        | trace_state
  · go_enter Try.func35, Try.ntmps35
    go_wp2
    go_ret
    refine ⟨ret_bool ?_, (by repeat (first | with_reducible exact Below.refl _ _ | with_reducible assumption | with_reducible refine below_alloc ?_ _ | with_reducible refine Below.drew ?_ | with_reducible refine below_drewN ?_ _ | with_reducible refine below_then ?_ (by with_reducible assumption)))⟩
    rw [Bool.eq_iff_iff]
    first
      | (simp; done)
      | (simp; omega)
      | trace_state
set_option maxRecDepth 100000 in set_option maxHeartbeats 1600000 in
theorem block_40_3 (nd kd st ct mn : Int) (s0 s1 s2 s3 s4 : Value) (f : Int) (w : World) (h0 : 0 ≤ st) (h1 : st < 256) (h2 : 1 ≤ ct) (h3 : ct ≤ 256) :
    Calls Try.prog 40 #[.agg #[.int .i64 nd, .int .i64 kd, .int .i64 st, .int .i64 ct, .int .i64 mn, s0, s1, s2, s3, s4], .int .i64 f, .int .i64 3] w fun e w' => e = .returned (.bool (insideB st ct f 3)) ∧ Below w.heap.size w w' := by
  unfold insideB
  rw [pw_3]
  by_cases hs : st ≤ f
  · obtain ⟨q, hq⟩ : ∃ q, f % 8 = q := ⟨_, rfl⟩
    have hq2 : f.tmod 8 = q := by rw [Int.tmod_eq_emod_of_nonneg (by omega)]; exact hq
    rw [hq]
    have HQ := Lib.hid hq
    clear hq
    go_enter Try.func40, Try.ntmps40
    go_wp2
    all_goals
      go_ret
      refine ⟨ret_bool ?_, (by repeat (first | with_reducible exact Below.refl _ _ | with_reducible assumption | with_reducible refine below_alloc ?_ _ | with_reducible refine Below.drew ?_ | with_reducible refine below_drewN ?_ _ | with_reducible refine below_then ?_ (by with_reducible assumption)))⟩
      rw [Bool.eq_iff_iff]
      first
        | (simp; done)
        | (simp; omega)
        | (simp at *; omega)
        | trace_state
  · go_enter Try.func40, Try.ntmps40
    go_wp2
    go_ret
    refine ⟨ret_bool ?_, (by repeat (first | with_reducible exact Below.refl _ _ | with_reducible assumption | with_reducible refine below_alloc ?_ _ | with_reducible refine Below.drew ?_ | with_reducible refine below_drewN ?_ _ | with_reducible refine below_then ?_ (by with_reducible assumption)))⟩
    rw [Bool.eq_iff_iff]
    first
      | (simp; done)
      | (simp; omega)
      | trace_state
theorem pw_4 : pw 4 = 16 := rfl
set_option maxRecDepth 100000 in set_option maxHeartbeats 1600000 in
theorem inside_35_4 (nd kd st ct mn : Int) (s0 s1 s2 s3 s4 : Value) (f : Int) (w : World) (h0 : 0 ≤ st) (h1 : st < 256) (h2 : 1 ≤ ct) (h3 : ct ≤ 256) :
    Calls Try.prog 35 #[.agg #[.int .i64 nd, .int .i64 kd, .int .i64 st, .int .i64 ct, .int .i64 mn, s0, s1, s2, s3, s4], .int .i64 f, .int .i64 4] w fun e w' => e = .returned (.bool (insideB st ct f 4)) ∧ Below w.heap.size w w' := by
  unfold insideB
  rw [pw_4]
  by_cases hs : st ≤ f
  · obtain ⟨q, hq⟩ : ∃ q, f % 16 = q := ⟨_, rfl⟩
    have hq2 : f.tmod 16 = q := by rw [Int.tmod_eq_emod_of_nonneg (by omega)]; exact hq
    rw [hq]
    have HQ := Lib.hid hq
    clear hq
    go_enter Try.func35, Try.ntmps35
    go_wp2
    all_goals
      go_ret
      refine ⟨ret_bool ?_, (by repeat (first | with_reducible exact Below.refl _ _ | with_reducible assumption | with_reducible refine below_alloc ?_ _ | with_reducible refine Below.drew ?_ | with_reducible refine below_drewN ?_ _ | with_reducible refine below_then ?_ (by with_reducible assumption)))⟩
      rw [Bool.eq_iff_iff]
      first
        | (simp; done)
        | (simp; omega)
        | (simp at *; omega)
        | trace_state
  · go_enter Try.func35, Try.ntmps35
    go_wp2
    go_ret
    refine ⟨ret_bool ?_, (by repeat (first | with_reducible exact Below.refl _ _ | with_reducible assumption | with_reducible refine below_alloc ?_ _ | with_reducible refine Below.drew ?_ | with_reducible refine below_drewN ?_ _ | with_reducible refine below_then ?_ (by with_reducible assumption)))⟩
    rw [Bool.eq_iff_iff]
    first
      | (simp; done)
      | (simp; omega)
      | trace_state
set_option maxRecDepth 100000 in set_option maxHeartbeats 1600000 in
theorem block_40_4 (nd kd st ct mn : Int) (s0 s1 s2 s3 s4 : Value) (f : Int) (w : World) (h0 : 0 ≤ st) (h1 : st < 256) (h2 : 1 ≤ ct) (h3 : ct ≤ 256) :
    Calls Try.prog 40 #[.agg #[.int .i64 nd, .int .i64 kd, .int .i64 st, .int .i64 ct, .int .i64 mn, s0, s1, s2, s3, s4], .int .i64 f, .int .i64 4] w fun e w' => e = .returned (.bool (insideB st ct f 4)) ∧ Below w.heap.size w w' := by
  unfold insideB
  rw [pw_4]
  by_cases hs : st ≤ f
  · obtain ⟨q, hq⟩ : ∃ q, f % 16 = q := ⟨_, rfl⟩
    have hq2 : f.tmod 16 = q := by rw [Int.tmod_eq_emod_of_nonneg (by omega)]; exact hq
    rw [hq]
    have HQ := Lib.hid hq
    clear hq
    go_enter Try.func40, Try.ntmps40
    go_wp2
    all_goals
      go_ret
      refine ⟨ret_bool ?_, (by repeat (first | with_reducible exact Below.refl _ _ | with_reducible assumption | with_reducible refine below_alloc ?_ _ | with_reducible refine Below.drew ?_ | with_reducible refine below_drewN ?_ _ | with_reducible refine below_then ?_ (by with_reducible assumption)))⟩
      rw [Bool.eq_iff_iff]
      first
        | (simp; done)
        | (simp; omega)
        | (simp at *; omega)
        | trace_state
  · go_enter Try.func40, Try.ntmps40
    go_wp2
    go_ret
    refine ⟨ret_bool ?_, (by repeat (first | with_reducible exact Below.refl _ _ | with_reducible assumption | with_reducible refine below_alloc ?_ _ | with_reducible refine Below.drew ?_ | with_reducible refine below_drewN ?_ _ | with_reducible refine below_then ?_ (by with_reducible assumption)))⟩
    rw [Bool.eq_iff_iff]
    first
      | (simp; done)
      | (simp; omega)
      | trace_state
end Go.Proofs.Ytneibbefkjjlnaa
