/- The walks of cells and Allowed of watermark. -/
import Derived.Test.YtneibbefkjjlnaaWalks2
namespace Go.Proofs.Ytneibbefkjjlnaa
open Go.RowKit Go.Over

def fcs (f : Nat → Int) (n : Nat) : List Value := (List.range (min n 5)).map fun i => .int .i64 (f i)
theorem fcs_length (f : Nat → Int) (n : Nat) : (fcs f n).length = min n 5 := by simp [fcs]
theorem fcs_get {f : Nat → Int} {n j : Nat} {v : Value} (h : (fcs f n)[j]? = some v) : j < n ∧ j < 5 ∧ v = .int .i64 (f j) := by
  simp only [fcs, List.getElem?_map, Option.map_eq_some_iff] at h
  obtain ⟨i, hi, rfl⟩ := h
  rw [List.getElem?_eq_some_iff] at hi
  obtain ⟨h1, h2⟩ := hi
  simp at h1 h2
  exact ⟨by omega, by omega, by rw [h2]⟩
theorem fcs_splice {w : World} {a : Option Addr} {n : Nat} {f : Nat → Int} (H : SliceInts w a n f) :
    splice (List.replicate 5 (Value.int .i64 0)) 0 (fcs f n) = [.int .i64 (f 0), .int .i64 (f 1), .int .i64 (f 2), .int .i64 (f 3), .int .i64 (f 4)] := by
  obtain ⟨_, _, hz⟩ := H
  have hz' : ∀ i, n ≤ i → (Value.int .i64 0) = .int .i64 (f i) := fun i hi => by rw [hz i hi]
  match n with
  | 0 => simp [splice, fcs, hz]
  | 1 => simp [splice, fcs, hz, List.range_succ]
  | 2 => simp [splice, fcs, hz, List.range_succ]
  | 3 => simp [splice, fcs, hz, List.range_succ]
  | 4 => simp [splice, fcs, hz, List.range_succ]
  | n + 5 => 
    have : min (n + 5) 5 = 5 := by omega
    simp [splice, fcs, this, List.range_succ]
theorem heap_at (w : World) (o : Obj) (k : Nat) (h : k = w.heap.size) : (w.alloc o).heap[k]? = some o := by
  subst h; show (w.heap.push o)[w.heap.size]? = _; simp
theorem index_51_0 (x0 x1 x2 x3 x4 : Value) (w : World) : (Instr.index 51 (.agg #[x0, x1, x2, x3, x4]) (.int .i64 0)).run Try.prog w = .ok x0 w := by kernel_rfl
theorem index_51_1 (x0 x1 x2 x3 x4 : Value) (w : World) : (Instr.index 51 (.agg #[x0, x1, x2, x3, x4]) (.int .i64 1)).run Try.prog w = .ok x1 w := by kernel_rfl
theorem index_51_2 (x0 x1 x2 x3 x4 : Value) (w : World) : (Instr.index 51 (.agg #[x0, x1, x2, x3, x4]) (.int .i64 2)).run Try.prog w = .ok x2 w := by kernel_rfl
theorem index_51_3 (x0 x1 x2 x3 x4 : Value) (w : World) : (Instr.index 51 (.agg #[x0, x1, x2, x3, x4]) (.int .i64 3)).run Try.prog w = .ok x3 w := by kernel_rfl
theorem index_51_4 (x0 x1 x2 x3 x4 : Value) (w : World) : (Instr.index 51 (.agg #[x0, x1, x2, x3, x4]) (.int .i64 4)).run Try.prog w = .ok x4 w := by kernel_rfl
set_option maxHeartbeats 1600000 in
theorem cells_any (a : Option Addr) (n c : Nat) (f : Nat → Int) (w : World) (H : SliceInts w a n f) :
    Calls Try.prog 28 #[.slice a n c] w fun e w' => e = .returned (.tuple #[.agg #[.int .i64 (f 0), .int .i64 (f 1), .int .i64 (f 2), .int .i64 (f 3), .int .i64 (f 4)], .bool (validB f)]) ∧ Below w.heap.size w w' := by
  go_enter Try.func28, Try.ntmps28
  have hm := H.1
  have hz : ∀ v, v ∈ fcs f n → v.oneCell' = true := by
    intro v hv
    simp only [fcs, List.mem_map] at hv
    obtain ⟨i, _, rfl⟩ := hv
    rfl
  go_wp2_with (refine wpList_copy_splice rfl (.tmp 7) (.tmp 8) 33 33 rfl 3 Try.underlying33 (by kernel_rfl) (some ⟨w.heap.size + 1, 0, none⟩) a 5 5 n c rfl rfl (w.heap.size + 1) 0 (List.replicate 5 (Value.int .i64 0)) 51 ?hg (fcs f n) ?hn ?hpos ?hfit hz (w.heap.size + 1) (w.alloc (.cells #[.int .i64 0, .int .i64 0, .int .i64 0, .int .i64 0, .int .i64 0] 51)) ?hb (Nat.le_refl _) ?_)
  case hg => exact heap_at _ _ _ (by simp)
  case hn => exact fcs_length f n
  case hfit => simp [fcs_length]; omega
  case hb => exact (Below.refl _ _).alloc (by simp) _
  case hpos =>
    intro h0
    rw [fcs_length] at h0
    obtain ⟨b, off, rfl, hc⟩ := H.2.1 (by omega)
    refine ⟨_, rfl, fun j v hj => ?_⟩
    obtain ⟨h1, h2, rfl⟩ := fcs_get hj
    rw [show (⟨b, off, none⟩ : Addr).add j = ⟨b, off + j, none⟩ by simp [Addr.add]]
    have hb : Below w.heap.size w ((w.alloc (.cells #[.int .i64 0, .int .i64 0, .int .i64 0, .int .i64 0, .int .i64 0] 51)).alloc (.cells #[.int .i64 0, .int .i64 0, .int .i64 0, .int .i64 0, .int .i64 0] 51)) := (by repeat (first | with_reducible exact Below.refl _ _ | with_reducible assumption | with_reducible refine below_alloc ?_ _ | with_reducible refine Below.setCell ?_ (by first | exact Nat.le_refl _ | (simp; done) | (simp; omega)) _ | with_reducible refine Below.drew ?_ | with_reducible refine below_drewN ?_ _ | with_reducible refine below_then ?_ (by with_reducible assumption)))
    exact cell_later hb (hc j h1)
  intro w2 HG2 HB2
  have e := HG2.out
  rw [show ([Value.int IntKind.i64 0, Value.int IntKind.i64 0, Value.int IntKind.i64 0, Value.int IntKind.i64 0, Value.int IntKind.i64 0]) = List.replicate 5 (Value.int IntKind.i64 0) from rfl, fcs_splice H] at e
  have hb2 : Below w.heap.size w w2 := ((Below.refl _ _).alloc (Nat.le_refl _) _).trans (HB2.mono (by simp))
  have c0 : ∀ j v, [Value.int .i64 (f 0), Value.int .i64 (f 1), Value.int .i64 (f 2), Value.int .i64 (f 3), Value.int .i64 (f 4)][j]? = some v → w2.cell? ⟨w.heap.size + 1, j, none⟩ = some v := by
    intro j v hj
    simp [World.cell?, e, hj]
  have c1 := c0 0 _ rfl
  have c2 := c0 1 _ rfl
  have c3 := c0 2 _ rfl
  have c4 := c0 3 _ rfl
  have c5 := c0 4 _ rfl
  clear e c0
  have hr : ∀ j, j < 5 → w2.cell? ⟨w.heap.size, j, none⟩ = some (.int .i64 0) := by
    intro j hj
    rw [HB2.cell (by simp)]
    rw [World.cell?_alloc_at _ _ _ _ rfl]
    match j, hj with
    | 0, _ => rfl
    | 1, _ => rfl
    | 2, _ => rfl
    | 3, _ => rfl
    | 4, _ => rfl
  have hf : ∀ j, w2.frozen? ⟨w.heap.size, j, none⟩ = false := by
    intro j
    rw [HB2.frozen (by simp)]
    rw [World.frozen?_alloc_at _ _ _ _ rfl]
  have r1 := hr 0 (by decide)
  have r2 := hr 1 (by decide)
  have r3 := hr 2 (by decide)
  have r4 := hr 3 (by decide)
  have r5 := hr 4 (by decide)
  clear hr HB2 HG2 hz hm H
  have i0 := index_51_0
  have i1 := index_51_1
  have i2 := index_51_2
  have i3 := index_51_3
  have i4 := index_51_4
  go_wp2
  refine wp_loop_rounds 6 ?_
  repeat any_goals (rw [rounds_succ]; go_wp2_with (go_at_call 26; refine (in_any _ _).mono ?_; rintro e w' ⟨rfl, rfl⟩))
  all_goals
    refine bodyPost_ret (v := .tuple #[.agg #[.int .i64 (f 0), .int .i64 (f 1), .int .i64 (f 2), .int .i64 (f 3), .int .i64 (f 4)], .bool (validB f)]) ?_ rfl ⟨rfl, (by repeat (first | with_reducible exact Below.refl _ _ | with_reducible assumption | with_reducible refine below_alloc ?_ _ | with_reducible refine Below.setCell ?_ (by first | exact Nat.le_refl _ | (simp; done) | (simp; omega)) _ | with_reducible refine Below.drew ?_ | with_reducible refine below_drewN ?_ _ | with_reducible refine below_then ?_ (by with_reducible assumption)))⟩
    have hV : validB f = (inB (f 0) && inB (f 1) && inB (f 2) && inB (f 3) && inB (f 4)) := rfl
    simp_all [results, Try.results28, go_sem]
theorem ite_dec (b : Bool) (p q : Prop) [Decidable p] [Decidable q] : (b || (decide p && decide q)) = (b || decide (p ∧ q)) := by simp
set_option maxHeartbeats 1600000 in
theorem allowed_no (a : Option Addr) (n c : Nat) (f : Nat → Int) (ma mb mc k x : Int) (w : World) (H : SliceInts w a n f) (h : ¬ (0 ≤ floorI ma mb mc x ∧ validB f = true ∧ 0 ≤ k ∧ k ≤ 4)) :
    Calls Try.prog 19 #[.slice a n c, .agg #[.int .i64 ma, .int .i64 mb, .int .i64 mc], .int .i64 k, .int .i64 x] w fun e w' => e = .returned (.bool false) ∧ Below w.heap.size w w' := by
  have HN := Lib.hid h; clear h
  go_enter Try.func19, Try.ntmps19
  go_wp2_with (first | (go_at_call 15; refine (floor_any _ _ _ _ _).mono ?_; rintro e w1 ⟨rfl, hb⟩; have hb1 : Below w.heap.size w w1 := (by repeat (first | with_reducible exact Below.refl _ _ | with_reducible assumption | with_reducible refine below_alloc ?_ _ | with_reducible refine Below.setCell ?_ (by first | exact Nat.le_refl _ | (simp; done) | (simp; omega)) _ | with_reducible refine Below.drew ?_ | with_reducible refine below_drewN ?_ _ | with_reducible refine below_then ?_ (by with_reducible assumption))); have H1 := H.below hb1; clear hb) | (go_at_call 28; refine (cells_any _ _ _ _ _ H1).mono ?_; rintro e w2 ⟨rfl, hb⟩; have hb2 : Below w.heap.size w w2 := (by repeat (first | with_reducible exact Below.refl _ _ | with_reducible assumption | with_reducible refine below_alloc ?_ _ | with_reducible refine Below.setCell ?_ (by first | exact Nat.le_refl _ | (simp; done) | (simp; omega)) _ | with_reducible refine Below.drew ?_ | with_reducible refine below_drewN ?_ _ | with_reducible refine below_then ?_ (by with_reducible assumption))); clear hb))
  all_goals first
    | (exfalso; refine HN.out ⟨?_, ?_, ?_, ?_⟩ <;> first | assumption | omega)
    | (go_ret; exact ⟨rfl, (by repeat (first | with_reducible exact Below.refl _ _ | with_reducible assumption | with_reducible refine below_alloc ?_ _ | with_reducible refine Below.setCell ?_ (by first | exact Nat.le_refl _ | (simp; done) | (simp; omega)) _ | with_reducible refine Below.drew ?_ | with_reducible refine below_drewN ?_ _ | with_reducible refine below_then ?_ (by with_reducible assumption)))⟩)
theorem index_51' (x0 x1 x2 x3 x4 : Value) (w : World) (j : Nat) (h : j < 5) : (Instr.index 51 (.agg #[x0, x1, x2, x3, x4]) (.int .i64 j)).run Try.prog w = .ok ([x0, x1, x2, x3, x4].getD j undef) w := by
  match j, h with
  | 0, _ => exact index_51_0 ..
  | 1, _ => exact index_51_1 ..
  | 2, _ => exact index_51_2 ..
  | 3, _ => exact index_51_3 ..
  | 4, _ => exact index_51_4 ..
theorem allow4_iff_0 (f : Nat → Int) (fl : Int) : allow4 f fl 0 = true ↔ (fl ≤ f 0 * 1 + f 1 * 2 + f 2 * 4 + f 3 * 8 + f 4 * 16 - 1 ∧ f 0 * 1 + f 1 * 2 + f 2 * 4 + f 3 * 8 + f 4 * 16 ≠ 0) := by
  simp [allow4, aboveI, pw]
theorem allow4_t_0 {f : Nat → Int} {fl : Int} (h : fl ≤ f 0 * 1 + f 1 * 2 + f 2 * 4 + f 3 * 8 + f 4 * 16 - 1 ∧ f 0 * 1 + f 1 * 2 + f 2 * 4 + f 3 * 8 + f 4 * 16 ≠ 0) : allow4 f fl 0 = true := (allow4_iff_0 f fl).2 h
theorem allow4_f_0 {f : Nat → Int} {fl : Int} (h : ¬ (fl ≤ f 0 * 1 + f 1 * 2 + f 2 * 4 + f 3 * 8 + f 4 * 16 - 1 ∧ f 0 * 1 + f 1 * 2 + f 2 * 4 + f 3 * 8 + f 4 * 16 ≠ 0)) : allow4 f fl 0 = false := Bool.eq_false_iff.2 fun e => h ((allow4_iff_0 f fl).1 e)
theorem allow4_iff_1 (f : Nat → Int) (fl : Int) : allow4 f fl 1 = true ↔ (fl ≤ f 0 * 1 + f 1 * 2 + f 2 * 4 + f 3 * 8 + f 4 * 16 - 2 ∧ f 1 * 2 + f 2 * 4 + f 3 * 8 + f 4 * 16 ≠ 0 ∧ fl / 2 ≤ f 1 * 2 + f 2 * 4 + f 3 * 8 + f 4 * 16 - 2) := by
  simp [allow4, aboveI, pw, and_assoc]
theorem allow4_t_1 {f : Nat → Int} {fl : Int} (h : fl ≤ f 0 * 1 + f 1 * 2 + f 2 * 4 + f 3 * 8 + f 4 * 16 - 2 ∧ f 1 * 2 + f 2 * 4 + f 3 * 8 + f 4 * 16 ≠ 0 ∧ fl / 2 ≤ f 1 * 2 + f 2 * 4 + f 3 * 8 + f 4 * 16 - 2) : allow4 f fl 1 = true := (allow4_iff_1 f fl).2 h
theorem allow4_f_1 {f : Nat → Int} {fl : Int} (h : ¬ (fl ≤ f 0 * 1 + f 1 * 2 + f 2 * 4 + f 3 * 8 + f 4 * 16 - 2 ∧ f 1 * 2 + f 2 * 4 + f 3 * 8 + f 4 * 16 ≠ 0 ∧ fl / 2 ≤ f 1 * 2 + f 2 * 4 + f 3 * 8 + f 4 * 16 - 2)) : allow4 f fl 1 = false := Bool.eq_false_iff.2 fun e => h ((allow4_iff_1 f fl).1 e)
theorem allow4_iff_2 (f : Nat → Int) (fl : Int) : allow4 f fl 2 = true ↔ (fl ≤ f 0 * 1 + f 1 * 2 + f 2 * 4 + f 3 * 8 + f 4 * 16 - 4 ∧ f 2 * 4 + f 3 * 8 + f 4 * 16 ≠ 0 ∧ fl / 2 ≤ f 1 * 2 + f 2 * 4 + f 3 * 8 + f 4 * 16 - 4 ∧ fl / 4 ≤ f 2 * 4 + f 3 * 8 + f 4 * 16 - 4) := by
  simp [allow4, aboveI, pw, and_assoc]
theorem allow4_t_2 {f : Nat → Int} {fl : Int} (h : fl ≤ f 0 * 1 + f 1 * 2 + f 2 * 4 + f 3 * 8 + f 4 * 16 - 4 ∧ f 2 * 4 + f 3 * 8 + f 4 * 16 ≠ 0 ∧ fl / 2 ≤ f 1 * 2 + f 2 * 4 + f 3 * 8 + f 4 * 16 - 4 ∧ fl / 4 ≤ f 2 * 4 + f 3 * 8 + f 4 * 16 - 4) : allow4 f fl 2 = true := (allow4_iff_2 f fl).2 h
theorem allow4_f_2 {f : Nat → Int} {fl : Int} (h : ¬ (fl ≤ f 0 * 1 + f 1 * 2 + f 2 * 4 + f 3 * 8 + f 4 * 16 - 4 ∧ f 2 * 4 + f 3 * 8 + f 4 * 16 ≠ 0 ∧ fl / 2 ≤ f 1 * 2 + f 2 * 4 + f 3 * 8 + f 4 * 16 - 4 ∧ fl / 4 ≤ f 2 * 4 + f 3 * 8 + f 4 * 16 - 4)) : allow4 f fl 2 = false := Bool.eq_false_iff.2 fun e => h ((allow4_iff_2 f fl).1 e)
theorem allow4_iff_3 (f : Nat → Int) (fl : Int) : allow4 f fl 3 = true ↔ (fl ≤ f 0 * 1 + f 1 * 2 + f 2 * 4 + f 3 * 8 + f 4 * 16 - 8 ∧ f 3 * 8 + f 4 * 16 ≠ 0 ∧ fl / 2 ≤ f 1 * 2 + f 2 * 4 + f 3 * 8 + f 4 * 16 - 8 ∧ fl / 4 ≤ f 2 * 4 + f 3 * 8 + f 4 * 16 - 8 ∧ fl / 8 ≤ f 3 * 8 + f 4 * 16 - 8) := by
  simp [allow4, aboveI, pw, and_assoc]
theorem allow4_t_3 {f : Nat → Int} {fl : Int} (h : fl ≤ f 0 * 1 + f 1 * 2 + f 2 * 4 + f 3 * 8 + f 4 * 16 - 8 ∧ f 3 * 8 + f 4 * 16 ≠ 0 ∧ fl / 2 ≤ f 1 * 2 + f 2 * 4 + f 3 * 8 + f 4 * 16 - 8 ∧ fl / 4 ≤ f 2 * 4 + f 3 * 8 + f 4 * 16 - 8 ∧ fl / 8 ≤ f 3 * 8 + f 4 * 16 - 8) : allow4 f fl 3 = true := (allow4_iff_3 f fl).2 h
theorem allow4_f_3 {f : Nat → Int} {fl : Int} (h : ¬ (fl ≤ f 0 * 1 + f 1 * 2 + f 2 * 4 + f 3 * 8 + f 4 * 16 - 8 ∧ f 3 * 8 + f 4 * 16 ≠ 0 ∧ fl / 2 ≤ f 1 * 2 + f 2 * 4 + f 3 * 8 + f 4 * 16 - 8 ∧ fl / 4 ≤ f 2 * 4 + f 3 * 8 + f 4 * 16 - 8 ∧ fl / 8 ≤ f 3 * 8 + f 4 * 16 - 8)) : allow4 f fl 3 = false := Bool.eq_false_iff.2 fun e => h ((allow4_iff_3 f fl).1 e)
theorem allow4_iff_4 (f : Nat → Int) (fl : Int) : allow4 f fl 4 = true ↔ (fl ≤ f 0 * 1 + f 1 * 2 + f 2 * 4 + f 3 * 8 + f 4 * 16 - 16 ∧ f 4 * 16 ≠ 0 ∧ fl / 2 ≤ f 1 * 2 + f 2 * 4 + f 3 * 8 + f 4 * 16 - 16 ∧ fl / 4 ≤ f 2 * 4 + f 3 * 8 + f 4 * 16 - 16 ∧ fl / 8 ≤ f 3 * 8 + f 4 * 16 - 16 ∧ fl / 16 ≤ f 4 * 16 - 16) := by
  simp [allow4, aboveI, pw, and_assoc]
theorem allow4_t_4 {f : Nat → Int} {fl : Int} (h : fl ≤ f 0 * 1 + f 1 * 2 + f 2 * 4 + f 3 * 8 + f 4 * 16 - 16 ∧ f 4 * 16 ≠ 0 ∧ fl / 2 ≤ f 1 * 2 + f 2 * 4 + f 3 * 8 + f 4 * 16 - 16 ∧ fl / 4 ≤ f 2 * 4 + f 3 * 8 + f 4 * 16 - 16 ∧ fl / 8 ≤ f 3 * 8 + f 4 * 16 - 16 ∧ fl / 16 ≤ f 4 * 16 - 16) : allow4 f fl 4 = true := (allow4_iff_4 f fl).2 h
theorem allow4_f_4 {f : Nat → Int} {fl : Int} (h : ¬ (fl ≤ f 0 * 1 + f 1 * 2 + f 2 * 4 + f 3 * 8 + f 4 * 16 - 16 ∧ f 4 * 16 ≠ 0 ∧ fl / 2 ≤ f 1 * 2 + f 2 * 4 + f 3 * 8 + f 4 * 16 - 16 ∧ fl / 4 ≤ f 2 * 4 + f 3 * 8 + f 4 * 16 - 16 ∧ fl / 8 ≤ f 3 * 8 + f 4 * 16 - 16 ∧ fl / 16 ≤ f 4 * 16 - 16)) : allow4 f fl 4 = false := Bool.eq_false_iff.2 fun e => h ((allow4_iff_4 f fl).1 e)
set_option maxHeartbeats 1600000 in
theorem allowed_0 (a : Option Addr) (n c : Nat) (f : Nat → Int) (ma mb mc x : Int) (w : World) (H : SliceInts w a n f) (h0 : 0 ≤ floorI ma mb mc x) (hv : validB f = true) :
    Calls Try.prog 19 #[.slice a n c, .agg #[.int .i64 ma, .int .i64 mb, .int .i64 mc], .int .i64 0, .int .i64 x] w fun e w' => e = .returned (.bool (allow4 f (floorI ma mb mc x) 0)) ∧ Below w.heap.size w w' := by
  have hfl := floorI_bd ma mb mc x
  obtain ⟨f0, f1, f2, f3, f4⟩ := (validB_iff f).1 hv
  have HV := Lib.hid hv; clear hv
  have i0 := index_51_0
  have i1 := index_51_1
  have i2 := index_51_2
  have i3 := index_51_3
  have i4 := index_51_4
  go_enter Try.func19, Try.ntmps19
  go_wp2_with (first | (go_at_call 15; refine (floor_any _ _ _ _ _).mono ?_; rintro e w1 ⟨rfl, hb⟩; have hb1 : Below w.heap.size w w1 := (by repeat (first | with_reducible exact Below.refl _ _ | with_reducible assumption | with_reducible refine below_alloc ?_ _ | with_reducible refine Below.setCell ?_ (by first | exact Nat.le_refl _ | (simp; done) | (simp; omega)) _ | with_reducible refine Below.drew ?_ | with_reducible refine below_drewN ?_ _ | with_reducible refine below_then ?_ (by with_reducible assumption))); have H1 := H.below hb1; clear hb) | (go_at_call 28; refine (cells_any _ _ _ _ _ H1).mono ?_; rintro e w2 ⟨rfl, hb⟩; have hb2 : Below w.heap.size w w2 := (by repeat (first | with_reducible exact Below.refl _ _ | with_reducible assumption | with_reducible refine below_alloc ?_ _ | with_reducible refine Below.setCell ?_ (by first | exact Nat.le_refl _ | (simp; done) | (simp; omega)) _ | with_reducible refine Below.drew ?_ | with_reducible refine below_drewN ?_ _ | with_reducible refine below_then ?_ (by with_reducible assumption))); clear hb; rw [HV.out]))
  refine wp_loop_rounds 6 ?_
  repeat any_goals (rw [rounds_succ]; go_wp2)
  all_goals first
    | (go_ret; refine ⟨ret_bool ?_, (by repeat (first | with_reducible exact Below.refl _ _ | with_reducible assumption | with_reducible refine below_alloc ?_ _ | with_reducible refine Below.setCell ?_ (by first | exact Nat.le_refl _ | (simp; done) | (simp; omega)) _ | with_reducible refine Below.drew ?_ | with_reducible refine below_drewN ?_ _ | with_reducible refine below_then ?_ (by with_reducible assumption)))⟩)
    | (refine wp_loop_rounds 6 ?_; repeat any_goals (rw [rounds_succ]; go_wp2))
  all_goals try (go_ret; refine ⟨ret_bool ?_, (by repeat (first | with_reducible exact Below.refl _ _ | with_reducible assumption | with_reducible refine below_alloc ?_ _ | with_reducible refine Below.setCell ?_ (by first | exact Nat.le_refl _ | (simp; done) | (simp; omega)) _ | with_reducible refine Below.drew ?_ | with_reducible refine below_drewN ?_ _ | with_reducible refine below_then ?_ (by with_reducible assumption)))⟩)
  all_goals
    clear i0 i1 i2 i3 i4 hb1 hb2 H1 H HV
    first
      | (refine (allow4_t_0 ?_).symm; (try simp at *) <;> omega)
      | (refine (allow4_f_0 ?_).symm; (try simp at *) <;> omega)
set_option maxHeartbeats 1600000 in
theorem allowed_1 (a : Option Addr) (n c : Nat) (f : Nat → Int) (ma mb mc x : Int) (w : World) (H : SliceInts w a n f) (h0 : 0 ≤ floorI ma mb mc x) (hv : validB f = true) :
    Calls Try.prog 19 #[.slice a n c, .agg #[.int .i64 ma, .int .i64 mb, .int .i64 mc], .int .i64 1, .int .i64 x] w fun e w' => e = .returned (.bool (allow4 f (floorI ma mb mc x) 1)) ∧ Below w.heap.size w w' := by
  have hfl := floorI_bd ma mb mc x
  obtain ⟨f0, f1, f2, f3, f4⟩ := (validB_iff f).1 hv
  have HV := Lib.hid hv; clear hv
  have i0 := index_51_0
  have i1 := index_51_1
  have i2 := index_51_2
  have i3 := index_51_3
  have i4 := index_51_4
  go_enter Try.func19, Try.ntmps19
  go_wp2_with (first | (go_at_call 15; refine (floor_any _ _ _ _ _).mono ?_; rintro e w1 ⟨rfl, hb⟩; have hb1 : Below w.heap.size w w1 := (by repeat (first | with_reducible exact Below.refl _ _ | with_reducible assumption | with_reducible refine below_alloc ?_ _ | with_reducible refine Below.setCell ?_ (by first | exact Nat.le_refl _ | (simp; done) | (simp; omega)) _ | with_reducible refine Below.drew ?_ | with_reducible refine below_drewN ?_ _ | with_reducible refine below_then ?_ (by with_reducible assumption))); have H1 := H.below hb1; clear hb) | (go_at_call 28; refine (cells_any _ _ _ _ _ H1).mono ?_; rintro e w2 ⟨rfl, hb⟩; have hb2 : Below w.heap.size w w2 := (by repeat (first | with_reducible exact Below.refl _ _ | with_reducible assumption | with_reducible refine below_alloc ?_ _ | with_reducible refine Below.setCell ?_ (by first | exact Nat.le_refl _ | (simp; done) | (simp; omega)) _ | with_reducible refine Below.drew ?_ | with_reducible refine below_drewN ?_ _ | with_reducible refine below_then ?_ (by with_reducible assumption))); clear hb; rw [HV.out]))
  refine wp_loop_rounds 6 ?_
  repeat any_goals (rw [rounds_succ]; go_wp2)
  all_goals first
    | (go_ret; refine ⟨ret_bool ?_, (by repeat (first | with_reducible exact Below.refl _ _ | with_reducible assumption | with_reducible refine below_alloc ?_ _ | with_reducible refine Below.setCell ?_ (by first | exact Nat.le_refl _ | (simp; done) | (simp; omega)) _ | with_reducible refine Below.drew ?_ | with_reducible refine below_drewN ?_ _ | with_reducible refine below_then ?_ (by with_reducible assumption)))⟩)
    | (refine wp_loop_rounds 6 ?_; repeat any_goals (rw [rounds_succ]; go_wp2))
  all_goals try (go_ret; refine ⟨ret_bool ?_, (by repeat (first | with_reducible exact Below.refl _ _ | with_reducible assumption | with_reducible refine below_alloc ?_ _ | with_reducible refine Below.setCell ?_ (by first | exact Nat.le_refl _ | (simp; done) | (simp; omega)) _ | with_reducible refine Below.drew ?_ | with_reducible refine below_drewN ?_ _ | with_reducible refine below_then ?_ (by with_reducible assumption)))⟩)
  all_goals
    clear i0 i1 i2 i3 i4 hb1 hb2 H1 H HV
    first
      | (refine (allow4_t_1 ?_).symm; (try simp at *) <;> omega)
      | (refine (allow4_f_1 ?_).symm; (try simp at *) <;> omega)
set_option maxHeartbeats 1600000 in
theorem allowed_2 (a : Option Addr) (n c : Nat) (f : Nat → Int) (ma mb mc x : Int) (w : World) (H : SliceInts w a n f) (h0 : 0 ≤ floorI ma mb mc x) (hv : validB f = true) :
    Calls Try.prog 19 #[.slice a n c, .agg #[.int .i64 ma, .int .i64 mb, .int .i64 mc], .int .i64 2, .int .i64 x] w fun e w' => e = .returned (.bool (allow4 f (floorI ma mb mc x) 2)) ∧ Below w.heap.size w w' := by
  have hfl := floorI_bd ma mb mc x
  obtain ⟨f0, f1, f2, f3, f4⟩ := (validB_iff f).1 hv
  have HV := Lib.hid hv; clear hv
  have i0 := index_51_0
  have i1 := index_51_1
  have i2 := index_51_2
  have i3 := index_51_3
  have i4 := index_51_4
  go_enter Try.func19, Try.ntmps19
  go_wp2_with (first | (go_at_call 15; refine (floor_any _ _ _ _ _).mono ?_; rintro e w1 ⟨rfl, hb⟩; have hb1 : Below w.heap.size w w1 := (by repeat (first | with_reducible exact Below.refl _ _ | with_reducible assumption | with_reducible refine below_alloc ?_ _ | with_reducible refine Below.setCell ?_ (by first | exact Nat.le_refl _ | (simp; done) | (simp; omega)) _ | with_reducible refine Below.drew ?_ | with_reducible refine below_drewN ?_ _ | with_reducible refine below_then ?_ (by with_reducible assumption))); have H1 := H.below hb1; clear hb) | (go_at_call 28; refine (cells_any _ _ _ _ _ H1).mono ?_; rintro e w2 ⟨rfl, hb⟩; have hb2 : Below w.heap.size w w2 := (by repeat (first | with_reducible exact Below.refl _ _ | with_reducible assumption | with_reducible refine below_alloc ?_ _ | with_reducible refine Below.setCell ?_ (by first | exact Nat.le_refl _ | (simp; done) | (simp; omega)) _ | with_reducible refine Below.drew ?_ | with_reducible refine below_drewN ?_ _ | with_reducible refine below_then ?_ (by with_reducible assumption))); clear hb; rw [HV.out]))
  refine wp_loop_rounds 6 ?_
  repeat any_goals (rw [rounds_succ]; go_wp2)
  all_goals first
    | (go_ret; refine ⟨ret_bool ?_, (by repeat (first | with_reducible exact Below.refl _ _ | with_reducible assumption | with_reducible refine below_alloc ?_ _ | with_reducible refine Below.setCell ?_ (by first | exact Nat.le_refl _ | (simp; done) | (simp; omega)) _ | with_reducible refine Below.drew ?_ | with_reducible refine below_drewN ?_ _ | with_reducible refine below_then ?_ (by with_reducible assumption)))⟩)
    | (refine wp_loop_rounds 6 ?_; repeat any_goals (rw [rounds_succ]; go_wp2))
  all_goals try (go_ret; refine ⟨ret_bool ?_, (by repeat (first | with_reducible exact Below.refl _ _ | with_reducible assumption | with_reducible refine below_alloc ?_ _ | with_reducible refine Below.setCell ?_ (by first | exact Nat.le_refl _ | (simp; done) | (simp; omega)) _ | with_reducible refine Below.drew ?_ | with_reducible refine below_drewN ?_ _ | with_reducible refine below_then ?_ (by with_reducible assumption)))⟩)
  all_goals
    clear i0 i1 i2 i3 i4 hb1 hb2 H1 H HV
    first
      | (refine (allow4_t_2 ?_).symm; (try simp at *) <;> omega)
      | (refine (allow4_f_2 ?_).symm; (try simp at *) <;> omega)
set_option maxHeartbeats 1600000 in
theorem allowed_3 (a : Option Addr) (n c : Nat) (f : Nat → Int) (ma mb mc x : Int) (w : World) (H : SliceInts w a n f) (h0 : 0 ≤ floorI ma mb mc x) (hv : validB f = true) :
    Calls Try.prog 19 #[.slice a n c, .agg #[.int .i64 ma, .int .i64 mb, .int .i64 mc], .int .i64 3, .int .i64 x] w fun e w' => e = .returned (.bool (allow4 f (floorI ma mb mc x) 3)) ∧ Below w.heap.size w w' := by
  have hfl := floorI_bd ma mb mc x
  obtain ⟨f0, f1, f2, f3, f4⟩ := (validB_iff f).1 hv
  have HV := Lib.hid hv; clear hv
  have i0 := index_51_0
  have i1 := index_51_1
  have i2 := index_51_2
  have i3 := index_51_3
  have i4 := index_51_4
  go_enter Try.func19, Try.ntmps19
  go_wp2_with (first | (go_at_call 15; refine (floor_any _ _ _ _ _).mono ?_; rintro e w1 ⟨rfl, hb⟩; have hb1 : Below w.heap.size w w1 := (by repeat (first | with_reducible exact Below.refl _ _ | with_reducible assumption | with_reducible refine below_alloc ?_ _ | with_reducible refine Below.setCell ?_ (by first | exact Nat.le_refl _ | (simp; done) | (simp; omega)) _ | with_reducible refine Below.drew ?_ | with_reducible refine below_drewN ?_ _ | with_reducible refine below_then ?_ (by with_reducible assumption))); have H1 := H.below hb1; clear hb) | (go_at_call 28; refine (cells_any _ _ _ _ _ H1).mono ?_; rintro e w2 ⟨rfl, hb⟩; have hb2 : Below w.heap.size w w2 := (by repeat (first | with_reducible exact Below.refl _ _ | with_reducible assumption | with_reducible refine below_alloc ?_ _ | with_reducible refine Below.setCell ?_ (by first | exact Nat.le_refl _ | (simp; done) | (simp; omega)) _ | with_reducible refine Below.drew ?_ | with_reducible refine below_drewN ?_ _ | with_reducible refine below_then ?_ (by with_reducible assumption))); clear hb; rw [HV.out]))
  refine wp_loop_rounds 6 ?_
  repeat any_goals (rw [rounds_succ]; go_wp2)
  all_goals first
    | (go_ret; refine ⟨ret_bool ?_, (by repeat (first | with_reducible exact Below.refl _ _ | with_reducible assumption | with_reducible refine below_alloc ?_ _ | with_reducible refine Below.setCell ?_ (by first | exact Nat.le_refl _ | (simp; done) | (simp; omega)) _ | with_reducible refine Below.drew ?_ | with_reducible refine below_drewN ?_ _ | with_reducible refine below_then ?_ (by with_reducible assumption)))⟩)
    | (refine wp_loop_rounds 6 ?_; repeat any_goals (rw [rounds_succ]; go_wp2))
  all_goals try (go_ret; refine ⟨ret_bool ?_, (by repeat (first | with_reducible exact Below.refl _ _ | with_reducible assumption | with_reducible refine below_alloc ?_ _ | with_reducible refine Below.setCell ?_ (by first | exact Nat.le_refl _ | (simp; done) | (simp; omega)) _ | with_reducible refine Below.drew ?_ | with_reducible refine below_drewN ?_ _ | with_reducible refine below_then ?_ (by with_reducible assumption)))⟩)
  all_goals
    clear i0 i1 i2 i3 i4 hb1 hb2 H1 H HV
    first
      | (refine (allow4_t_3 ?_).symm; (try simp at *) <;> omega)
      | (refine (allow4_f_3 ?_).symm; (try simp at *) <;> omega)
set_option maxHeartbeats 1600000 in
theorem allowed_4 (a : Option Addr) (n c : Nat) (f : Nat → Int) (ma mb mc x : Int) (w : World) (H : SliceInts w a n f) (h0 : 0 ≤ floorI ma mb mc x) (hv : validB f = true) :
    Calls Try.prog 19 #[.slice a n c, .agg #[.int .i64 ma, .int .i64 mb, .int .i64 mc], .int .i64 4, .int .i64 x] w fun e w' => e = .returned (.bool (allow4 f (floorI ma mb mc x) 4)) ∧ Below w.heap.size w w' := by
  have hfl := floorI_bd ma mb mc x
  obtain ⟨f0, f1, f2, f3, f4⟩ := (validB_iff f).1 hv
  have HV := Lib.hid hv; clear hv
  have i0 := index_51_0
  have i1 := index_51_1
  have i2 := index_51_2
  have i3 := index_51_3
  have i4 := index_51_4
  go_enter Try.func19, Try.ntmps19
  go_wp2_with (first | (go_at_call 15; refine (floor_any _ _ _ _ _).mono ?_; rintro e w1 ⟨rfl, hb⟩; have hb1 : Below w.heap.size w w1 := (by repeat (first | with_reducible exact Below.refl _ _ | with_reducible assumption | with_reducible refine below_alloc ?_ _ | with_reducible refine Below.setCell ?_ (by first | exact Nat.le_refl _ | (simp; done) | (simp; omega)) _ | with_reducible refine Below.drew ?_ | with_reducible refine below_drewN ?_ _ | with_reducible refine below_then ?_ (by with_reducible assumption))); have H1 := H.below hb1; clear hb) | (go_at_call 28; refine (cells_any _ _ _ _ _ H1).mono ?_; rintro e w2 ⟨rfl, hb⟩; have hb2 : Below w.heap.size w w2 := (by repeat (first | with_reducible exact Below.refl _ _ | with_reducible assumption | with_reducible refine below_alloc ?_ _ | with_reducible refine Below.setCell ?_ (by first | exact Nat.le_refl _ | (simp; done) | (simp; omega)) _ | with_reducible refine Below.drew ?_ | with_reducible refine below_drewN ?_ _ | with_reducible refine below_then ?_ (by with_reducible assumption))); clear hb; rw [HV.out]))
  refine wp_loop_rounds 6 ?_
  repeat any_goals (rw [rounds_succ]; go_wp2)
  all_goals first
    | (go_ret; refine ⟨ret_bool ?_, (by repeat (first | with_reducible exact Below.refl _ _ | with_reducible assumption | with_reducible refine below_alloc ?_ _ | with_reducible refine Below.setCell ?_ (by first | exact Nat.le_refl _ | (simp; done) | (simp; omega)) _ | with_reducible refine Below.drew ?_ | with_reducible refine below_drewN ?_ _ | with_reducible refine below_then ?_ (by with_reducible assumption)))⟩)
    | (refine wp_loop_rounds 6 ?_; repeat any_goals (rw [rounds_succ]; go_wp2))
  all_goals try (go_ret; refine ⟨ret_bool ?_, (by repeat (first | with_reducible exact Below.refl _ _ | with_reducible assumption | with_reducible refine below_alloc ?_ _ | with_reducible refine Below.setCell ?_ (by first | exact Nat.le_refl _ | (simp; done) | (simp; omega)) _ | with_reducible refine Below.drew ?_ | with_reducible refine below_drewN ?_ _ | with_reducible refine below_then ?_ (by with_reducible assumption)))⟩)
  all_goals
    clear i0 i1 i2 i3 i4 hb1 hb2 H1 H HV
    first
      | (refine (allow4_t_4 ?_).symm; (try simp at *) <;> omega)
      | (refine (allow4_f_4 ?_).symm; (try simp at *) <;> omega)
end Go.Proofs.Ytneibbefkjjlnaa
