/- The walk of the law that permission is monotone. -/
import Derived.Test.YtneibbefkjjlnaaWalks6
import Derived.Test.YtneibbefkjjlnaaWalks3
namespace Go.Proofs.Ytneibbefkjjlnaa
open Go.RowKit Go.Over
theorem allow4_iff (f : Nat → Int) (fl k : Int) : allow4 f fl k = true ↔ (fl ≤ aboveI f 0 - pw k ∧ aboveI f k ≠ 0 ∧ (k ≤ 0 ∨ fl / 2 ≤ aboveI f 1 - pw k) ∧ (k ≤ 1 ∨ fl / 4 ≤ aboveI f 2 - pw k) ∧ (k ≤ 2 ∨ fl / 8 ≤ aboveI f 3 - pw k) ∧ (k ≤ 3 ∨ fl / 16 ≤ aboveI f 4 - pw k)) := by
  simp [allow4, and_assoc]
theorem allowB_iff (f : Nat → Int) (fl k : Int) : allowB f fl k = true ↔ (0 ≤ fl ∧ validB f = true ∧ 0 ≤ k ∧ k ≤ 4) ∧ allow4 f fl k = true := by
  unfold allowB
  split <;> simp [*]
theorem allow_less {f : Nat → Int} {fl fl2 k : Int} (h : allowB f fl k = true) (h0 : 0 ≤ fl2) (h1 : fl2 ≤ fl) : allowB f fl2 k = true := by
  rw [allowB_iff, allow4_iff] at h ⊢
  obtain ⟨⟨_, h2, h3, h4⟩, h5, h6, h7, h8, h9, h10⟩ := h
  exact ⟨⟨h0, h2, h3, h4⟩, by omega, h6, by omega, by omega, by omega, by omega⟩
theorem floor_less {a b c x y : Int} (h : 0 ≤ floorI a b c x) (h1 : x ≤ y) (h2 : y ≤ 2) : 0 ≤ floorI a b c y ∧ floorI a b c y ≤ floorI a b c x := by
  unfold floorI at h ⊢
  split at h
  · rename_i hc
    have hm := checkI_ok hc
    rw [if_pos hc, if_pos hc]
    split at h
    · subst x
      rcases (by omega : y = 0 ∨ y = 1 ∨ y = 2) with rfl | rfl | rfl <;> simp <;> omega
    · split at h
      · subst x
        rcases (by omega : y = 1 ∨ y = 2) with rfl | rfl <;> simp <;> omega
      · split at h
        · subst x
          obtain rfl : y = 2 := by omega
          simp
        · omega
  · omega
theorem above_le {f g : Nat → Int} (h : f 0 ≤ g 0 ∧ f 1 ≤ g 1 ∧ f 2 ≤ g 2 ∧ f 3 ≤ g 3 ∧ f 4 ≤ g 4) (k : Int) : aboveI f k ≤ aboveI g k := by
  unfold aboveI
  split <;> split <;> split <;> split <;> split <;> omega
theorem allow_more {f g : Nat → Int} {fl k : Int} (h : allowB f fl k = true) (hv : validB g = true) (hg : f 0 ≤ g 0 ∧ f 1 ≤ g 1 ∧ f 2 ≤ g 2 ∧ f 3 ≤ g 3 ∧ f 4 ≤ g 4) : allowB g fl k = true := by
  rw [allowB_iff, allow4_iff] at h ⊢
  obtain ⟨⟨h1, h2, h3, h4⟩, h5, h6, h7⟩ := h
  have a0 := above_le hg 0
  have a1 := above_le hg 1
  have a2 := above_le hg 2
  have a3 := above_le hg 3
  have a4 := above_le hg 4
  have ak := above_le hg k
  have bk := aboveI_bd h2 k
  refine ⟨⟨h1, hv, h3, h4⟩, by omega, by omega, by omega⟩
/-- What stays of the world behind the examples: the two boxed arguments. -/
def Three (w : World) (a b c : Int) (k x y : Value) (W : World) : Prop :=
  Below w.heap.size w W ∧ w.heap.size + 2 ≤ W.heap.size ∧ W.cell? ⟨w.heap.size, 0, none⟩ = some (.int .i64 a) ∧ W.cell? ⟨w.heap.size, 1, none⟩ = some (.int .i64 b) ∧ W.cell? ⟨w.heap.size, 2, none⟩ = some (.int .i64 c) ∧ W.cell? ⟨w.heap.size + 1, 0, none⟩ = some k ∧ W.cell? ⟨w.heap.size + 1, 1, none⟩ = some x ∧ W.cell? ⟨w.heap.size + 1, 2, none⟩ = some y
theorem Three.next {w W W1 : World} {a b c : Int} {k x y : Value} (h : Three w a b c k x y W) (hb : Below W.heap.size W W1) : Three w a b c k x y W1 :=
  ⟨below_then h.1 hb, Nat.le_trans h.2.1 hb.size, cell_later hb h.2.2.1, cell_later hb h.2.2.2.1, cell_later hb h.2.2.2.2.1, cell_later hb h.2.2.2.2.2.1, cell_later hb h.2.2.2.2.2.2.1, cell_later hb h.2.2.2.2.2.2.2⟩
theorem Three.drawn {w W : World} {a b c : Int} {k x y : Value} (h : Three w a b c k x y W) (m : Nat) : ∃ W2, W2 = W.drewN m ∧ Three w a b c k x y W2 := ⟨_, rfl, h.next (below_drewN (Below.refl _ _) m)⟩
set_option maxHeartbeats 1600000 in
theorem law_order_no (a : Option Addr) (n c : Nat) (f : Nat → Int) (ma mb mc x0 x1 x2 : Int) (w : World) (H : SliceInts w a n f) (hv : validB f = false) :
    Calls Try.prog 7 #[.slice a n c, .agg #[.int .i64 ma, .int .i64 mb, .int .i64 mc], .agg #[.int .u8 x0, .int .u8 x1, .int .u8 x2]] w fun e w' => e = .returned (.bool true) ∧ Below w.heap.size w w' := by
  have hm := H.1
  rcases Nat.lt_or_ge 20 n with hn | hn
  · have hn' : (20 : Int) < (n : Int) := by omega
    clear hn
    go_enter Try.func7, Try.ntmps7
    (go_wp2_with (first | (go_at_call 10; refine (awake_any _).mono ?_; rintro e w1 ⟨rfl, hb⟩; obtain ⟨hc, hf, hz⟩ := bcell2 hb; try simp only [World.size_alloc] at hc hf hz) | (go_at_call 21; refine (valid_law _ _ _ f _ (H.below (by first | assumption | exact below_then (below_alloc (below_alloc (Below.refl _ _) _) _) hb))).mono ?_; rintro e w' ⟨rfl, rfl⟩; rw [hv])))
    go_ret
    exact ⟨rfl, (by repeat (first | with_reducible exact Below.refl _ _ | with_reducible assumption | with_reducible refine below_alloc ?_ _ | with_reducible refine Below.setCell ?_ (by first | exact Nat.le_refl _ | (simp; done) | (simp; omega)) _ | with_reducible refine Below.drew ?_ | with_reducible refine below_drewN ?_ _ | with_reducible refine below_then ?_ (by with_reducible assumption)))⟩
  · have hn' : (n : Int) ≤ 20 := by omega
    go_enter Try.func7, Try.ntmps7
    (go_wp2_with (first | (go_at_call 10; refine (awake_any _).mono ?_; rintro e w1 ⟨rfl, hb⟩; obtain ⟨hc, hf, hz⟩ := bcell2 hb; try simp only [World.size_alloc] at hc hf hz) | (go_at_call 21; refine (valid_law _ _ _ f _ (H.below (by first | assumption | exact below_then (below_alloc (below_alloc (Below.refl _ _) _) _) hb))).mono ?_; rintro e w' ⟨rfl, rfl⟩; rw [hv])))
    go_ret
    exact ⟨rfl, (by repeat (first | with_reducible exact Below.refl _ _ | with_reducible assumption | with_reducible refine below_alloc ?_ _ | with_reducible refine Below.setCell ?_ (by first | exact Nat.le_refl _ | (simp; done) | (simp; omega)) _ | with_reducible refine Below.drew ?_ | with_reducible refine below_drewN ?_ _ | with_reducible refine below_then ?_ (by with_reducible assumption)))⟩
set_option maxHeartbeats 1600000 in
theorem law_order_out (a : Option Addr) (n c : Nat) (f : Nat → Int) (ma mb mc x0 x1 x2 : Int) (w : World) (hn : 20 < n) (H : SliceInts w a n f) :
    Calls Try.prog 7 #[.slice a n c, .agg #[.int .i64 ma, .int .i64 mb, .int .i64 mc], .agg #[.int .u8 x0, .int .u8 x1, .int .u8 x2]] w fun e w' => e = .returned (.bool true) ∧ Below w.heap.size w w' := by
  have hm := H.1
  have hn' : (20 : Int) < (n : Int) := by omega
  clear hn
  go_enter Try.func7, Try.ntmps7
  go_wp2_with (go_at_call 10; refine (awake_any _).mono ?_; rintro e w1 ⟨rfl, hb⟩; obtain ⟨hc, hf, hz⟩ := bcell2 hb; try simp only [World.size_alloc] at hc hf hz)
  go_ret
  exact ⟨rfl, (by repeat (first | with_reducible exact Below.refl _ _ | with_reducible assumption | with_reducible refine below_alloc ?_ _ | with_reducible refine Below.setCell ?_ (by first | exact Nat.le_refl _ | (simp; done) | (simp; omega)) _ | with_reducible refine Below.drew ?_ | with_reducible refine below_drewN ?_ _ | with_reducible refine below_then ?_ (by with_reducible assumption)))⟩
set_option maxHeartbeats 1600000 in
theorem law_order_not (a : Option Addr) (n c : Nat) (f : Nat → Int) (ma mb mc x0 x1 x2 k y : Int) (w : World) (hn : n ≤ 20) (H : SliceInts w a n f) (hv : validB f = true)
    (b0 : 0 ≤ x0 ∧ x0 ≤ 255) (b1 : 0 ≤ x1 ∧ x1 ≤ 255) (e0 : x0.tmod 5 = k) (e1 : x1.tmod 3 = y) (hk : 0 ≤ k ∧ k ≤ 4) (hy : 0 ≤ y ∧ y ≤ 2) (hA : allowB f (floorI ma mb mc y) k = false) :
    Calls Try.prog 7 #[.slice a n c, .agg #[.int .i64 ma, .int .i64 mb, .int .i64 mc], .agg #[.int .u8 x0, .int .u8 x1, .int .u8 x2]] w fun e w' => e = .returned (.bool true) ∧ Below w.heap.size w w' := by
  have hn' : (n : Int) ≤ 20 := by omega
  go_enter Try.func7, Try.ntmps7
  (go_wp2_with (first | (go_at_call 10; refine (awake_any _).mono ?_; rintro e w1 ⟨rfl, hb⟩; obtain ⟨hc, hf, hz⟩ := bcell2 hb; try simp only [World.size_alloc] at hc hf hz) | (go_at_call 21; refine (valid_law _ _ _ f _ (H.below (by first | assumption | exact below_then (below_alloc (below_alloc (Below.refl _ _) _) _) hb))).mono ?_; rintro e w' ⟨rfl, rfl⟩; rw [hv])))
  refine wp_forget (Three w ma mb mc (.int .u8 x0) (.int .u8 x1) (.int .u8 x2)) ?_ ?_
  · refine ⟨(by repeat (first | with_reducible exact Below.refl _ _ | with_reducible assumption | with_reducible refine below_alloc ?_ _ | with_reducible refine Below.setCell ?_ (by first | exact Nat.le_refl _ | (simp; done) | (simp; omega)) _ | with_reducible refine Below.drew ?_ | with_reducible refine below_drewN ?_ _ | with_reducible refine below_then ?_ (by with_reducible assumption))), by omega, ?_, ?_, ?_, ?_, ?_, ?_⟩ <;> (first | (simp [go_sem, *]; done) | (simp [go_sem, ↓IntWalk.iteOmega, *]; done))
  intro W0 hT0
  clear hb hc hf hz
  have hT1 := hT0
  obtain ⟨_, _, h1, h2, h3, h4, h5, h6⟩ := hT1
  have v0 : IntKind.i64.wrap x0 = x0 := IntWalk.i64_in _ (by omega)
  have v1 : IntKind.i64.wrap x1 = x1 := IntWalk.i64_in _ (by omega)
  have v2 : IntKind.i64.wrap k = k := IntWalk.i64_in _ (by omega)
  have v3 : IntKind.i64.wrap y = y := IntWalk.i64_in _ (by omega)
  go_quiet (fail)
  obtain ⟨W, hW, hT⟩ := hT0.drawn nq
  rw [← hW]
  clear hW hT0 h1 h2 h3 h4 h5 h6 v0 v1 v2 v3
  have hT2 := hT
  obtain ⟨hB, hZ, h1, h2, h3, h4, h5, h6⟩ := hT2
  have HW := H.below hB
  go_wp2_with (go_at_call 19; refine (allowed_any _ _ _ f _ _ _ _ _ _ HW).mono ?_; rintro e w1 ⟨rfl, hb⟩; rw [hA])
  go_ret
  exact ⟨rfl, (by repeat (first | with_reducible exact Below.refl _ _ | with_reducible assumption | with_reducible refine below_alloc ?_ _ | with_reducible refine Below.setCell ?_ (by first | exact Nat.le_refl _ | (simp; done) | (simp; omega)) _ | with_reducible refine Below.drew ?_ | with_reducible refine below_drewN ?_ _ | with_reducible refine below_then ?_ (by with_reducible assumption)))⟩
theorem make5 (w : World) : (Instr.makeSlice 33 (.int .i64 5) (.int .i64 5)).run Try.prog w = .ok (.slice (some ⟨w.heap.size, 0, none⟩) 5 5) (w.alloc (.cells #[.int .i64 0, .int .i64 0, .int .i64 0, .int .i64 0, .int .i64 0] 3)) := by kernel_rfl
theorem fcs_one (f : Nat → Int) (n : Nat) : ∀ v, v ∈ fcs f n → v.oneCell' = true := by
  intro v hv
  simp only [fcs, List.mem_map] at hv
  obtain ⟨i, _, rfl⟩ := hv
  rfl
theorem lit5_ok {w : World} {b : Nat} {x y z u v : Int} (h : w.cell? ⟨b, 0, none⟩ = some (.int .i64 x) ∧ w.cell? ⟨b, 1, none⟩ = some (.int .i64 y) ∧ w.cell? ⟨b, 2, none⟩ = some (.int .i64 z) ∧ w.cell? ⟨b, 3, none⟩ = some (.int .i64 u) ∧ w.cell? ⟨b, 4, none⟩ = some (.int .i64 v)) : SliceInts w (some ⟨b, 0, none⟩) 5 (lit4 [x, y, z, u, v]) := by
  refine ⟨by omega, fun _ => ⟨b, 0, rfl, fun i hi => ?_⟩, fun i hi => ?_⟩
  · obtain rfl | rfl | rfl | rfl | rfl : i = 0 ∨ i = 1 ∨ i = 2 ∨ i = 3 ∨ i = 4 := by omega
    · exact h.1
    · exact h.2.1
    · exact h.2.2.1
    · exact h.2.2.2.1
    · exact h.2.2.2.2
  · unfold lit4
    rw [List.getD_eq_getElem?_getD, List.getElem?_eq_none (by simpa using hi)]; rfl
theorem more_ok {f : Nat → Int} {fl k x y z u v : Int} (h : allowB f fl k = true) (hx : f 0 ≤ x ∧ x ≤ 4096) (hy : f 1 ≤ y ∧ y ≤ 4096) (hz : f 2 ≤ z ∧ z ≤ 4096) (hu : f 3 ≤ u ∧ u ≤ 4096) (hv : f 4 ≤ v ∧ v ≤ 4096) : allowB (lit4 [x, y, z, u, v]) fl k = true := by
  have hb := (validB_iff f).1 ((allowB_iff _ _ _).1 h).1.2.1
  refine allow_more h ((validB_iff _).2 ?_) ?_
  · simp only [lit4, List.getD_cons_zero, List.getD_cons_succ]; omega
  · simp only [lit4, List.getD_cons_zero, List.getD_cons_succ]; omega
set_option maxHeartbeats 1600000 in
theorem law_order_0 (a : Option Addr) (n c : Nat) (f : Nat → Int) (ma mb mc x0 x1 x2 k o : Int) (w : World) (hn : n ≤ 20) (H : SliceInts w a n f) (hv : validB f = true)
    (b0 : 0 ≤ x0 ∧ x0 ≤ 255) (b1 : 0 ≤ x1 ∧ x1 ≤ 255) (b2 : 0 ≤ x2 ∧ x2 ≤ 255) (e0 : x0.tmod 5 = k) (e1 : x1.tmod 3 = 0) (e2 : x2.tmod 5 = o) (hk : 0 ≤ k ∧ k ≤ 4) (ho : 0 ≤ o ∧ o ≤ 4) (hA : allowB f (floorI ma mb mc 0) k = true) :
    Calls Try.prog 7 #[.slice a n c, .agg #[.int .i64 ma, .int .i64 mb, .int .i64 mc], .agg #[.int .u8 x0, .int .u8 x1, .int .u8 x2]] w fun e w' => e = .returned (.bool true) ∧ Below w.heap.size w w' := by
  have hn' : (n : Int) ≤ 20 := by omega
  have hm := H.1
  have hfl := ((allowB_iff _ _ _).1 hA).1.1
  have A1 : allowB f (floorI ma mb mc (max 0 1)) k = true := allow_less hA (floor_less hfl (by decide) (by decide)).1 (floor_less hfl (by decide) (by decide)).2
  have A2 : allowB f (floorI ma mb mc 2) k = true := allow_less hA (floor_less hfl (by decide) (by decide)).1 (floor_less hfl (by decide) (by decide)).2
  rw [show (max 0 1 : Int) = 1 by decide] at A1
  clear hfl
  have one := fcs_one f n
  have ONE := Lib.hid one; clear one
  go_enter Try.func7, Try.ntmps7
  (go_wp2_with (first | (go_at_call 10; refine (awake_any _).mono ?_; rintro e w1 ⟨rfl, hb⟩; obtain ⟨hc, hf, hz⟩ := bcell2 hb; try simp only [World.size_alloc] at hc hf hz) | (go_at_call 21; refine (valid_law _ _ _ f _ (H.below (by first | assumption | exact below_then (below_alloc (below_alloc (Below.refl _ _) _) _) hb))).mono ?_; rintro e w' ⟨rfl, rfl⟩; rw [hv])))
  refine wp_forget (Three w ma mb mc (.int .u8 x0) (.int .u8 x1) (.int .u8 x2)) ?_ ?_
  · refine ⟨(by repeat (first | with_reducible exact Below.refl _ _ | with_reducible assumption | with_reducible refine below_alloc ?_ _ | with_reducible refine Below.setCell ?_ (by first | exact Nat.le_refl _ | (simp; done) | (simp; omega)) _ | with_reducible refine Below.drew ?_ | with_reducible refine below_drewN ?_ _ | with_reducible refine below_then ?_ (by with_reducible assumption))), by omega, ?_, ?_, ?_, ?_, ?_, ?_⟩ <;> (first | (simp [go_sem, *]; done) | (simp [go_sem, ↓IntWalk.iteOmega, *]; done))
  intro W0 hT0
  clear hb hc hf hz
  have hT1 := hT0
  obtain ⟨_, _, h1, h2, h3, h4, h5, h6⟩ := hT1
  have v0 : IntKind.i64.wrap x0 = x0 := IntWalk.i64_in _ (by omega)
  have v1 : IntKind.i64.wrap x1 = x1 := IntWalk.i64_in _ (by omega)
  have v2 : IntKind.i64.wrap k = k := IntWalk.i64_in _ (by omega)
  go_quiet (fail)
  obtain ⟨W, hW, hT⟩ := hT0.drawn nq
  rw [← hW]
  clear hW hT0 h1 h2 h3 h4 h5 h6 v0 v1 v2
  have hT2 := hT
  obtain ⟨hB, hZ, h1, h2, h3, h4, h5, h6⟩ := hT2
  go_wp2_with (go_at_call 19; refine Calls.mono (allowed_any _ _ _ f _ _ _ _ _ _ ?_) ?_; (exact H.below (by repeat (first | with_reducible exact Below.refl _ _ | with_reducible assumption | with_reducible refine below_alloc ?_ _ | with_reducible refine Below.setCell ?_ (by first | exact Nat.le_refl _ | (simp; done) | (simp; omega)) _ | with_reducible refine Below.drew ?_ | with_reducible refine below_drewN ?_ _ | with_reducible refine below_then ?_ (by with_reducible assumption)))); rintro e w1 ⟨rfl, hb⟩; obtain ⟨hc, hf, hz⟩ := bcell2 hb)
  have hmk := make5
  refine wp_loop_rounds 4 ?_
  repeat any_goals (rw [rounds_succ]; go_wp2_with (first | (go_at_call 19; refine Calls.mono (allowed_any _ _ _ f _ _ _ _ _ _ ?_) ?_; (exact H.below (by repeat (first | with_reducible exact Below.refl _ _ | with_reducible assumption | with_reducible refine below_alloc ?_ _ | with_reducible refine Below.setCell ?_ (by first | exact Nat.le_refl _ | (simp; done) | (simp; omega)) _ | with_reducible refine Below.drew ?_ | with_reducible refine below_drewN ?_ _ | with_reducible refine below_then ?_ (by with_reducible assumption)))); rintro e w1 ⟨rfl, hb⟩; obtain ⟨hc, hf, hz⟩ := bcell2 hb) | (refine wpList_copy_splice rfl (.tmp 55) (.tmp 56) 33 33 rfl 3 Try.underlying33 (by kernel_rfl) (some ⟨w1.heap.size, 0, none⟩) a 5 5 n c rfl rfl w1.heap.size 0 (List.replicate 5 (Value.int .i64 0)) 3 ?hg (fcs f n) ?hn ?hpos ?hfit ONE.out w1.heap.size w1 ?hb (Nat.le_refl _) ?_)))
  case hg => exact heap_at _ _ _ rfl
  case hn => exact fcs_length f n
  case hfit => simp [fcs_length]; omega
  case hb => exact (Below.refl _ _).alloc (Nat.le_refl _) _
  case hpos =>
    intro h0
    rw [fcs_length] at h0
    have HX : SliceInts w1 a n f := H.below (by repeat (first | with_reducible exact Below.refl _ _ | with_reducible assumption | with_reducible refine below_alloc ?_ _ | with_reducible refine Below.setCell ?_ (by first | exact Nat.le_refl _ | (simp; done) | (simp; omega)) _ | with_reducible refine Below.drew ?_ | with_reducible refine below_drewN ?_ _ | with_reducible refine below_then ?_ (by with_reducible assumption)))
    obtain ⟨b, off, rfl, hcc⟩ := HX.2.1 (by omega)
    refine ⟨_, rfl, fun j v hj => ?_⟩
    obtain ⟨j1, j2, rfl⟩ := fcs_get hj
    rw [show (⟨b, off, none⟩ : Addr).add j = ⟨b, off + j, none⟩ by simp [Addr.add]]
    exact cell_later ((Below.refl _ _).alloc (Nat.le_refl _) _) (hcc j j1)
  intro w2 HG2 HB2
  have e := HG2.out
  rw [show ([Value.int IntKind.i64 0, Value.int IntKind.i64 0, Value.int IntKind.i64 0, Value.int IntKind.i64 0, Value.int IntKind.i64 0]) = List.replicate 5 (Value.int IntKind.i64 0) from rfl, fcs_splice H] at e
  have hb1 : Below w.heap.size w w1 := (by repeat (first | with_reducible exact Below.refl _ _ | with_reducible assumption | with_reducible refine below_alloc ?_ _ | with_reducible refine Below.setCell ?_ (by first | exact Nat.le_refl _ | (simp; done) | (simp; omega)) _ | with_reducible refine Below.drew ?_ | with_reducible refine below_drewN ?_ _ | with_reducible refine below_then ?_ (by with_reducible assumption)))
  have hb2 : Below w.heap.size w w2 := below_then hb1 HB2
  have hT3 : Three w ma mb mc (.int .u8 x0) (.int .u8 x1) (.int .u8 x2) w1 := hT.next (by clear hB hb1 hb2; exact (by repeat (first | with_reducible exact Below.refl _ _ | with_reducible assumption | with_reducible refine below_alloc ?_ _ | with_reducible refine Below.setCell ?_ (by first | exact Nat.le_refl _ | (simp; done) | (simp; omega)) _ | with_reducible refine Below.drew ?_ | with_reducible refine below_drewN ?_ _ | with_reducible refine below_then ?_ (by with_reducible assumption))))
  have hT4 := hT3.next HB2
  have hsz : w.heap.size + 2 ≤ w1.heap.size := hT3.2.1
  have hlt : w1.heap.size < w2.heap.size := by
    rcases Nat.lt_or_ge w1.heap.size w2.heap.size with h | h
    · exact h
    · rw [Array.getElem?_eq_none (by omega)] at e; cases e
  have c0 : ∀ j v, [Value.int .i64 (f 0), Value.int .i64 (f 1), Value.int .i64 (f 2), Value.int .i64 (f 3), Value.int .i64 (f 4)][j]? = some v → w2.cell? ⟨w1.heap.size, j, none⟩ = some v := by
    intro j v hj
    simp [World.cell?, e, hj]
  have hfr : ∀ j, w2.frozen? ⟨w1.heap.size, j, none⟩ = false := by
    intro j
    simp [World.frozen?, e]
  have c1 := c0 0 _ rfl
  have c2 := c0 1 _ rfl
  have c3 := c0 2 _ rfl
  have c4 := c0 3 _ rfl
  have c5 := c0 4 _ rfl
  have hle := HB2.size
  have hbd := (validB_iff f).1 hv
  obtain ⟨hB4, hZ4, g1, g2, g3, g4, g5, g6⟩ := hT4
  clear e c0 HB2 HG2 hc hf hz hmk A1 A2 h1 h2 h3 h4 h5 h6 hT hT3 hB hZ hb
  have hblk : w.heap.size ≤ w1.heap.size := by omega
  obtain ⟨G, hG⟩ : ∃ G, G = w1.heap.size := ⟨_, rfl⟩
  rw [← hG] at c1 c2 c3 c4 c5 hsz hlt hfr hblk ⊢
  clear hG
  rcases (by omega : o = 0 ∨ o = 1 ∨ o = 2 ∨ o = 3 ∨ o = 4) with rfl | rfl | rfl | rfl | rfl
  · by_cases hs : f 0 < 4096
    · have hG : allowB (lit4 [f 0 + 1, f 1, f 2, f 3, f 4]) (floorI ma mb mc 0) k = true := more_ok hA ⟨by omega, by omega⟩ ⟨by omega, by omega⟩ ⟨by omega, by omega⟩ ⟨by omega, by omega⟩ ⟨by omega, by omega⟩
      go_wp2_with (go_at_call 19; refine Calls.mono (allowed_any _ _ _ (lit4 [f 0 + 1, f 1, f 2, f 3, f 4]) _ _ _ _ _ _ (lit5_ok ?_)) ?_; (simp [go_sem, *]); rintro e w3 ⟨rfl, hb⟩; rw [hG])
      go_ret
      exact ⟨rfl, (by repeat (first | with_reducible exact Below.refl _ _ | with_reducible assumption | with_reducible refine below_alloc ?_ _ | with_reducible refine Below.setCell ?_ (by first | exact Nat.le_refl _ | (simp; done) | (simp; omega)) _ | with_reducible refine Below.drew ?_ | with_reducible refine below_drewN ?_ _ | with_reducible refine below_then ?_ (by with_reducible assumption)))⟩
    · have hG : allowB (lit4 [f 0, f 1, f 2, f 3, f 4]) (floorI ma mb mc 0) k = true := more_ok hA ⟨by omega, by omega⟩ ⟨by omega, by omega⟩ ⟨by omega, by omega⟩ ⟨by omega, by omega⟩ ⟨by omega, by omega⟩
      go_wp2_with (go_at_call 19; refine Calls.mono (allowed_any _ _ _ (lit4 [f 0, f 1, f 2, f 3, f 4]) _ _ _ _ _ _ (lit5_ok ?_)) ?_; (simp [go_sem, *]); rintro e w3 ⟨rfl, hb⟩; rw [hG])
      go_ret
      exact ⟨rfl, (by repeat (first | with_reducible exact Below.refl _ _ | with_reducible assumption | with_reducible refine below_alloc ?_ _ | with_reducible refine Below.setCell ?_ (by first | exact Nat.le_refl _ | (simp; done) | (simp; omega)) _ | with_reducible refine Below.drew ?_ | with_reducible refine below_drewN ?_ _ | with_reducible refine below_then ?_ (by with_reducible assumption)))⟩
  · by_cases hs : f 1 < 4096
    · have hG : allowB (lit4 [f 0, f 1 + 1, f 2, f 3, f 4]) (floorI ma mb mc 0) k = true := more_ok hA ⟨by omega, by omega⟩ ⟨by omega, by omega⟩ ⟨by omega, by omega⟩ ⟨by omega, by omega⟩ ⟨by omega, by omega⟩
      go_wp2_with (go_at_call 19; refine Calls.mono (allowed_any _ _ _ (lit4 [f 0, f 1 + 1, f 2, f 3, f 4]) _ _ _ _ _ _ (lit5_ok ?_)) ?_; (simp [go_sem, *]); rintro e w3 ⟨rfl, hb⟩; rw [hG])
      go_ret
      exact ⟨rfl, (by repeat (first | with_reducible exact Below.refl _ _ | with_reducible assumption | with_reducible refine below_alloc ?_ _ | with_reducible refine Below.setCell ?_ (by first | exact Nat.le_refl _ | (simp; done) | (simp; omega)) _ | with_reducible refine Below.drew ?_ | with_reducible refine below_drewN ?_ _ | with_reducible refine below_then ?_ (by with_reducible assumption)))⟩
    · have hG : allowB (lit4 [f 0, f 1, f 2, f 3, f 4]) (floorI ma mb mc 0) k = true := more_ok hA ⟨by omega, by omega⟩ ⟨by omega, by omega⟩ ⟨by omega, by omega⟩ ⟨by omega, by omega⟩ ⟨by omega, by omega⟩
      go_wp2_with (go_at_call 19; refine Calls.mono (allowed_any _ _ _ (lit4 [f 0, f 1, f 2, f 3, f 4]) _ _ _ _ _ _ (lit5_ok ?_)) ?_; (simp [go_sem, *]); rintro e w3 ⟨rfl, hb⟩; rw [hG])
      go_ret
      exact ⟨rfl, (by repeat (first | with_reducible exact Below.refl _ _ | with_reducible assumption | with_reducible refine below_alloc ?_ _ | with_reducible refine Below.setCell ?_ (by first | exact Nat.le_refl _ | (simp; done) | (simp; omega)) _ | with_reducible refine Below.drew ?_ | with_reducible refine below_drewN ?_ _ | with_reducible refine below_then ?_ (by with_reducible assumption)))⟩
  · by_cases hs : f 2 < 4096
    · have hG : allowB (lit4 [f 0, f 1, f 2 + 1, f 3, f 4]) (floorI ma mb mc 0) k = true := more_ok hA ⟨by omega, by omega⟩ ⟨by omega, by omega⟩ ⟨by omega, by omega⟩ ⟨by omega, by omega⟩ ⟨by omega, by omega⟩
      go_wp2_with (go_at_call 19; refine Calls.mono (allowed_any _ _ _ (lit4 [f 0, f 1, f 2 + 1, f 3, f 4]) _ _ _ _ _ _ (lit5_ok ?_)) ?_; (simp [go_sem, *]); rintro e w3 ⟨rfl, hb⟩; rw [hG])
      go_ret
      exact ⟨rfl, (by repeat (first | with_reducible exact Below.refl _ _ | with_reducible assumption | with_reducible refine below_alloc ?_ _ | with_reducible refine Below.setCell ?_ (by first | exact Nat.le_refl _ | (simp; done) | (simp; omega)) _ | with_reducible refine Below.drew ?_ | with_reducible refine below_drewN ?_ _ | with_reducible refine below_then ?_ (by with_reducible assumption)))⟩
    · have hG : allowB (lit4 [f 0, f 1, f 2, f 3, f 4]) (floorI ma mb mc 0) k = true := more_ok hA ⟨by omega, by omega⟩ ⟨by omega, by omega⟩ ⟨by omega, by omega⟩ ⟨by omega, by omega⟩ ⟨by omega, by omega⟩
      go_wp2_with (go_at_call 19; refine Calls.mono (allowed_any _ _ _ (lit4 [f 0, f 1, f 2, f 3, f 4]) _ _ _ _ _ _ (lit5_ok ?_)) ?_; (simp [go_sem, *]); rintro e w3 ⟨rfl, hb⟩; rw [hG])
      go_ret
      exact ⟨rfl, (by repeat (first | with_reducible exact Below.refl _ _ | with_reducible assumption | with_reducible refine below_alloc ?_ _ | with_reducible refine Below.setCell ?_ (by first | exact Nat.le_refl _ | (simp; done) | (simp; omega)) _ | with_reducible refine Below.drew ?_ | with_reducible refine below_drewN ?_ _ | with_reducible refine below_then ?_ (by with_reducible assumption)))⟩
  · by_cases hs : f 3 < 4096
    · have hG : allowB (lit4 [f 0, f 1, f 2, f 3 + 1, f 4]) (floorI ma mb mc 0) k = true := more_ok hA ⟨by omega, by omega⟩ ⟨by omega, by omega⟩ ⟨by omega, by omega⟩ ⟨by omega, by omega⟩ ⟨by omega, by omega⟩
      go_wp2_with (go_at_call 19; refine Calls.mono (allowed_any _ _ _ (lit4 [f 0, f 1, f 2, f 3 + 1, f 4]) _ _ _ _ _ _ (lit5_ok ?_)) ?_; (simp [go_sem, *]); rintro e w3 ⟨rfl, hb⟩; rw [hG])
      go_ret
      exact ⟨rfl, (by repeat (first | with_reducible exact Below.refl _ _ | with_reducible assumption | with_reducible refine below_alloc ?_ _ | with_reducible refine Below.setCell ?_ (by first | exact Nat.le_refl _ | (simp; done) | (simp; omega)) _ | with_reducible refine Below.drew ?_ | with_reducible refine below_drewN ?_ _ | with_reducible refine below_then ?_ (by with_reducible assumption)))⟩
    · have hG : allowB (lit4 [f 0, f 1, f 2, f 3, f 4]) (floorI ma mb mc 0) k = true := more_ok hA ⟨by omega, by omega⟩ ⟨by omega, by omega⟩ ⟨by omega, by omega⟩ ⟨by omega, by omega⟩ ⟨by omega, by omega⟩
      go_wp2_with (go_at_call 19; refine Calls.mono (allowed_any _ _ _ (lit4 [f 0, f 1, f 2, f 3, f 4]) _ _ _ _ _ _ (lit5_ok ?_)) ?_; (simp [go_sem, *]); rintro e w3 ⟨rfl, hb⟩; rw [hG])
      go_ret
      exact ⟨rfl, (by repeat (first | with_reducible exact Below.refl _ _ | with_reducible assumption | with_reducible refine below_alloc ?_ _ | with_reducible refine Below.setCell ?_ (by first | exact Nat.le_refl _ | (simp; done) | (simp; omega)) _ | with_reducible refine Below.drew ?_ | with_reducible refine below_drewN ?_ _ | with_reducible refine below_then ?_ (by with_reducible assumption)))⟩
  · by_cases hs : f 4 < 4096
    · have hG : allowB (lit4 [f 0, f 1, f 2, f 3, f 4 + 1]) (floorI ma mb mc 0) k = true := more_ok hA ⟨by omega, by omega⟩ ⟨by omega, by omega⟩ ⟨by omega, by omega⟩ ⟨by omega, by omega⟩ ⟨by omega, by omega⟩
      go_wp2_with (go_at_call 19; refine Calls.mono (allowed_any _ _ _ (lit4 [f 0, f 1, f 2, f 3, f 4 + 1]) _ _ _ _ _ _ (lit5_ok ?_)) ?_; (simp [go_sem, *]); rintro e w3 ⟨rfl, hb⟩; rw [hG])
      go_ret
      exact ⟨rfl, (by repeat (first | with_reducible exact Below.refl _ _ | with_reducible assumption | with_reducible refine below_alloc ?_ _ | with_reducible refine Below.setCell ?_ (by first | exact Nat.le_refl _ | (simp; done) | (simp; omega)) _ | with_reducible refine Below.drew ?_ | with_reducible refine below_drewN ?_ _ | with_reducible refine below_then ?_ (by with_reducible assumption)))⟩
    · have hG : allowB (lit4 [f 0, f 1, f 2, f 3, f 4]) (floorI ma mb mc 0) k = true := more_ok hA ⟨by omega, by omega⟩ ⟨by omega, by omega⟩ ⟨by omega, by omega⟩ ⟨by omega, by omega⟩ ⟨by omega, by omega⟩
      go_wp2_with (go_at_call 19; refine Calls.mono (allowed_any _ _ _ (lit4 [f 0, f 1, f 2, f 3, f 4]) _ _ _ _ _ _ (lit5_ok ?_)) ?_; (simp [go_sem, *]); rintro e w3 ⟨rfl, hb⟩; rw [hG])
      go_ret
      exact ⟨rfl, (by repeat (first | with_reducible exact Below.refl _ _ | with_reducible assumption | with_reducible refine below_alloc ?_ _ | with_reducible refine Below.setCell ?_ (by first | exact Nat.le_refl _ | (simp; done) | (simp; omega)) _ | with_reducible refine Below.drew ?_ | with_reducible refine below_drewN ?_ _ | with_reducible refine below_then ?_ (by with_reducible assumption)))⟩
set_option maxHeartbeats 1600000 in
theorem law_order_1 (a : Option Addr) (n c : Nat) (f : Nat → Int) (ma mb mc x0 x1 x2 k o : Int) (w : World) (hn : n ≤ 20) (H : SliceInts w a n f) (hv : validB f = true)
    (b0 : 0 ≤ x0 ∧ x0 ≤ 255) (b1 : 0 ≤ x1 ∧ x1 ≤ 255) (b2 : 0 ≤ x2 ∧ x2 ≤ 255) (e0 : x0.tmod 5 = k) (e1 : x1.tmod 3 = 1) (e2 : x2.tmod 5 = o) (hk : 0 ≤ k ∧ k ≤ 4) (ho : 0 ≤ o ∧ o ≤ 4) (hA : allowB f (floorI ma mb mc 1) k = true) :
    Calls Try.prog 7 #[.slice a n c, .agg #[.int .i64 ma, .int .i64 mb, .int .i64 mc], .agg #[.int .u8 x0, .int .u8 x1, .int .u8 x2]] w fun e w' => e = .returned (.bool true) ∧ Below w.heap.size w w' := by
  have hn' : (n : Int) ≤ 20 := by omega
  have hm := H.1
  have hfl := ((allowB_iff _ _ _).1 hA).1.1
  have A1 : allowB f (floorI ma mb mc (max 1 1)) k = true := allow_less hA (floor_less hfl (by decide) (by decide)).1 (floor_less hfl (by decide) (by decide)).2
  have A2 : allowB f (floorI ma mb mc 2) k = true := allow_less hA (floor_less hfl (by decide) (by decide)).1 (floor_less hfl (by decide) (by decide)).2
  rw [show (max 1 1 : Int) = 1 by decide] at A1
  clear hfl
  have one := fcs_one f n
  have ONE := Lib.hid one; clear one
  go_enter Try.func7, Try.ntmps7
  (go_wp2_with (first | (go_at_call 10; refine (awake_any _).mono ?_; rintro e w1 ⟨rfl, hb⟩; obtain ⟨hc, hf, hz⟩ := bcell2 hb; try simp only [World.size_alloc] at hc hf hz) | (go_at_call 21; refine (valid_law _ _ _ f _ (H.below (by first | assumption | exact below_then (below_alloc (below_alloc (Below.refl _ _) _) _) hb))).mono ?_; rintro e w' ⟨rfl, rfl⟩; rw [hv])))
  refine wp_forget (Three w ma mb mc (.int .u8 x0) (.int .u8 x1) (.int .u8 x2)) ?_ ?_
  · refine ⟨(by repeat (first | with_reducible exact Below.refl _ _ | with_reducible assumption | with_reducible refine below_alloc ?_ _ | with_reducible refine Below.setCell ?_ (by first | exact Nat.le_refl _ | (simp; done) | (simp; omega)) _ | with_reducible refine Below.drew ?_ | with_reducible refine below_drewN ?_ _ | with_reducible refine below_then ?_ (by with_reducible assumption))), by omega, ?_, ?_, ?_, ?_, ?_, ?_⟩ <;> (first | (simp [go_sem, *]; done) | (simp [go_sem, ↓IntWalk.iteOmega, *]; done))
  intro W0 hT0
  clear hb hc hf hz
  have hT1 := hT0
  obtain ⟨_, _, h1, h2, h3, h4, h5, h6⟩ := hT1
  have v0 : IntKind.i64.wrap x0 = x0 := IntWalk.i64_in _ (by omega)
  have v1 : IntKind.i64.wrap x1 = x1 := IntWalk.i64_in _ (by omega)
  have v2 : IntKind.i64.wrap k = k := IntWalk.i64_in _ (by omega)
  go_quiet (fail)
  obtain ⟨W, hW, hT⟩ := hT0.drawn nq
  rw [← hW]
  clear hW hT0 h1 h2 h3 h4 h5 h6 v0 v1 v2
  have hT2 := hT
  obtain ⟨hB, hZ, h1, h2, h3, h4, h5, h6⟩ := hT2
  go_wp2_with (go_at_call 19; refine Calls.mono (allowed_any _ _ _ f _ _ _ _ _ _ ?_) ?_; (exact H.below (by repeat (first | with_reducible exact Below.refl _ _ | with_reducible assumption | with_reducible refine below_alloc ?_ _ | with_reducible refine Below.setCell ?_ (by first | exact Nat.le_refl _ | (simp; done) | (simp; omega)) _ | with_reducible refine Below.drew ?_ | with_reducible refine below_drewN ?_ _ | with_reducible refine below_then ?_ (by with_reducible assumption)))); rintro e w1 ⟨rfl, hb⟩; obtain ⟨hc, hf, hz⟩ := bcell2 hb)
  have hmk := make5
  refine wp_loop_rounds 4 ?_
  repeat any_goals (rw [rounds_succ]; go_wp2_with (first | (go_at_call 19; refine Calls.mono (allowed_any _ _ _ f _ _ _ _ _ _ ?_) ?_; (exact H.below (by repeat (first | with_reducible exact Below.refl _ _ | with_reducible assumption | with_reducible refine below_alloc ?_ _ | with_reducible refine Below.setCell ?_ (by first | exact Nat.le_refl _ | (simp; done) | (simp; omega)) _ | with_reducible refine Below.drew ?_ | with_reducible refine below_drewN ?_ _ | with_reducible refine below_then ?_ (by with_reducible assumption)))); rintro e w1 ⟨rfl, hb⟩; obtain ⟨hc, hf, hz⟩ := bcell2 hb) | (refine wpList_copy_splice rfl (.tmp 55) (.tmp 56) 33 33 rfl 3 Try.underlying33 (by kernel_rfl) (some ⟨w1.heap.size, 0, none⟩) a 5 5 n c rfl rfl w1.heap.size 0 (List.replicate 5 (Value.int .i64 0)) 3 ?hg (fcs f n) ?hn ?hpos ?hfit ONE.out w1.heap.size w1 ?hb (Nat.le_refl _) ?_)))
  case hg => exact heap_at _ _ _ rfl
  case hn => exact fcs_length f n
  case hfit => simp [fcs_length]; omega
  case hb => exact (Below.refl _ _).alloc (Nat.le_refl _) _
  case hpos =>
    intro h0
    rw [fcs_length] at h0
    have HX : SliceInts w1 a n f := H.below (by repeat (first | with_reducible exact Below.refl _ _ | with_reducible assumption | with_reducible refine below_alloc ?_ _ | with_reducible refine Below.setCell ?_ (by first | exact Nat.le_refl _ | (simp; done) | (simp; omega)) _ | with_reducible refine Below.drew ?_ | with_reducible refine below_drewN ?_ _ | with_reducible refine below_then ?_ (by with_reducible assumption)))
    obtain ⟨b, off, rfl, hcc⟩ := HX.2.1 (by omega)
    refine ⟨_, rfl, fun j v hj => ?_⟩
    obtain ⟨j1, j2, rfl⟩ := fcs_get hj
    rw [show (⟨b, off, none⟩ : Addr).add j = ⟨b, off + j, none⟩ by simp [Addr.add]]
    exact cell_later ((Below.refl _ _).alloc (Nat.le_refl _) _) (hcc j j1)
  intro w2 HG2 HB2
  have e := HG2.out
  rw [show ([Value.int IntKind.i64 0, Value.int IntKind.i64 0, Value.int IntKind.i64 0, Value.int IntKind.i64 0, Value.int IntKind.i64 0]) = List.replicate 5 (Value.int IntKind.i64 0) from rfl, fcs_splice H] at e
  have hb1 : Below w.heap.size w w1 := (by repeat (first | with_reducible exact Below.refl _ _ | with_reducible assumption | with_reducible refine below_alloc ?_ _ | with_reducible refine Below.setCell ?_ (by first | exact Nat.le_refl _ | (simp; done) | (simp; omega)) _ | with_reducible refine Below.drew ?_ | with_reducible refine below_drewN ?_ _ | with_reducible refine below_then ?_ (by with_reducible assumption)))
  have hb2 : Below w.heap.size w w2 := below_then hb1 HB2
  have hT3 : Three w ma mb mc (.int .u8 x0) (.int .u8 x1) (.int .u8 x2) w1 := hT.next (by clear hB hb1 hb2; exact (by repeat (first | with_reducible exact Below.refl _ _ | with_reducible assumption | with_reducible refine below_alloc ?_ _ | with_reducible refine Below.setCell ?_ (by first | exact Nat.le_refl _ | (simp; done) | (simp; omega)) _ | with_reducible refine Below.drew ?_ | with_reducible refine below_drewN ?_ _ | with_reducible refine below_then ?_ (by with_reducible assumption))))
  have hT4 := hT3.next HB2
  have hsz : w.heap.size + 2 ≤ w1.heap.size := hT3.2.1
  have hlt : w1.heap.size < w2.heap.size := by
    rcases Nat.lt_or_ge w1.heap.size w2.heap.size with h | h
    · exact h
    · rw [Array.getElem?_eq_none (by omega)] at e; cases e
  have c0 : ∀ j v, [Value.int .i64 (f 0), Value.int .i64 (f 1), Value.int .i64 (f 2), Value.int .i64 (f 3), Value.int .i64 (f 4)][j]? = some v → w2.cell? ⟨w1.heap.size, j, none⟩ = some v := by
    intro j v hj
    simp [World.cell?, e, hj]
  have hfr : ∀ j, w2.frozen? ⟨w1.heap.size, j, none⟩ = false := by
    intro j
    simp [World.frozen?, e]
  have c1 := c0 0 _ rfl
  have c2 := c0 1 _ rfl
  have c3 := c0 2 _ rfl
  have c4 := c0 3 _ rfl
  have c5 := c0 4 _ rfl
  have hle := HB2.size
  have hbd := (validB_iff f).1 hv
  obtain ⟨hB4, hZ4, g1, g2, g3, g4, g5, g6⟩ := hT4
  clear e c0 HB2 HG2 hc hf hz hmk A1 A2 h1 h2 h3 h4 h5 h6 hT hT3 hB hZ hb
  have hblk : w.heap.size ≤ w1.heap.size := by omega
  obtain ⟨G, hG⟩ : ∃ G, G = w1.heap.size := ⟨_, rfl⟩
  rw [← hG] at c1 c2 c3 c4 c5 hsz hlt hfr hblk ⊢
  clear hG
  rcases (by omega : o = 0 ∨ o = 1 ∨ o = 2 ∨ o = 3 ∨ o = 4) with rfl | rfl | rfl | rfl | rfl
  · by_cases hs : f 0 < 4096
    · have hG : allowB (lit4 [f 0 + 1, f 1, f 2, f 3, f 4]) (floorI ma mb mc 1) k = true := more_ok hA ⟨by omega, by omega⟩ ⟨by omega, by omega⟩ ⟨by omega, by omega⟩ ⟨by omega, by omega⟩ ⟨by omega, by omega⟩
      go_wp2_with (go_at_call 19; refine Calls.mono (allowed_any _ _ _ (lit4 [f 0 + 1, f 1, f 2, f 3, f 4]) _ _ _ _ _ _ (lit5_ok ?_)) ?_; (simp [go_sem, *]); rintro e w3 ⟨rfl, hb⟩; rw [hG])
      go_ret
      exact ⟨rfl, (by repeat (first | with_reducible exact Below.refl _ _ | with_reducible assumption | with_reducible refine below_alloc ?_ _ | with_reducible refine Below.setCell ?_ (by first | exact Nat.le_refl _ | (simp; done) | (simp; omega)) _ | with_reducible refine Below.drew ?_ | with_reducible refine below_drewN ?_ _ | with_reducible refine below_then ?_ (by with_reducible assumption)))⟩
    · have hG : allowB (lit4 [f 0, f 1, f 2, f 3, f 4]) (floorI ma mb mc 1) k = true := more_ok hA ⟨by omega, by omega⟩ ⟨by omega, by omega⟩ ⟨by omega, by omega⟩ ⟨by omega, by omega⟩ ⟨by omega, by omega⟩
      go_wp2_with (go_at_call 19; refine Calls.mono (allowed_any _ _ _ (lit4 [f 0, f 1, f 2, f 3, f 4]) _ _ _ _ _ _ (lit5_ok ?_)) ?_; (simp [go_sem, *]); rintro e w3 ⟨rfl, hb⟩; rw [hG])
      go_ret
      exact ⟨rfl, (by repeat (first | with_reducible exact Below.refl _ _ | with_reducible assumption | with_reducible refine below_alloc ?_ _ | with_reducible refine Below.setCell ?_ (by first | exact Nat.le_refl _ | (simp; done) | (simp; omega)) _ | with_reducible refine Below.drew ?_ | with_reducible refine below_drewN ?_ _ | with_reducible refine below_then ?_ (by with_reducible assumption)))⟩
  · by_cases hs : f 1 < 4096
    · have hG : allowB (lit4 [f 0, f 1 + 1, f 2, f 3, f 4]) (floorI ma mb mc 1) k = true := more_ok hA ⟨by omega, by omega⟩ ⟨by omega, by omega⟩ ⟨by omega, by omega⟩ ⟨by omega, by omega⟩ ⟨by omega, by omega⟩
      go_wp2_with (go_at_call 19; refine Calls.mono (allowed_any _ _ _ (lit4 [f 0, f 1 + 1, f 2, f 3, f 4]) _ _ _ _ _ _ (lit5_ok ?_)) ?_; (simp [go_sem, *]); rintro e w3 ⟨rfl, hb⟩; rw [hG])
      go_ret
      exact ⟨rfl, (by repeat (first | with_reducible exact Below.refl _ _ | with_reducible assumption | with_reducible refine below_alloc ?_ _ | with_reducible refine Below.setCell ?_ (by first | exact Nat.le_refl _ | (simp; done) | (simp; omega)) _ | with_reducible refine Below.drew ?_ | with_reducible refine below_drewN ?_ _ | with_reducible refine below_then ?_ (by with_reducible assumption)))⟩
    · have hG : allowB (lit4 [f 0, f 1, f 2, f 3, f 4]) (floorI ma mb mc 1) k = true := more_ok hA ⟨by omega, by omega⟩ ⟨by omega, by omega⟩ ⟨by omega, by omega⟩ ⟨by omega, by omega⟩ ⟨by omega, by omega⟩
      go_wp2_with (go_at_call 19; refine Calls.mono (allowed_any _ _ _ (lit4 [f 0, f 1, f 2, f 3, f 4]) _ _ _ _ _ _ (lit5_ok ?_)) ?_; (simp [go_sem, *]); rintro e w3 ⟨rfl, hb⟩; rw [hG])
      go_ret
      exact ⟨rfl, (by repeat (first | with_reducible exact Below.refl _ _ | with_reducible assumption | with_reducible refine below_alloc ?_ _ | with_reducible refine Below.setCell ?_ (by first | exact Nat.le_refl _ | (simp; done) | (simp; omega)) _ | with_reducible refine Below.drew ?_ | with_reducible refine below_drewN ?_ _ | with_reducible refine below_then ?_ (by with_reducible assumption)))⟩
  · by_cases hs : f 2 < 4096
    · have hG : allowB (lit4 [f 0, f 1, f 2 + 1, f 3, f 4]) (floorI ma mb mc 1) k = true := more_ok hA ⟨by omega, by omega⟩ ⟨by omega, by omega⟩ ⟨by omega, by omega⟩ ⟨by omega, by omega⟩ ⟨by omega, by omega⟩
      go_wp2_with (go_at_call 19; refine Calls.mono (allowed_any _ _ _ (lit4 [f 0, f 1, f 2 + 1, f 3, f 4]) _ _ _ _ _ _ (lit5_ok ?_)) ?_; (simp [go_sem, *]); rintro e w3 ⟨rfl, hb⟩; rw [hG])
      go_ret
      exact ⟨rfl, (by repeat (first | with_reducible exact Below.refl _ _ | with_reducible assumption | with_reducible refine below_alloc ?_ _ | with_reducible refine Below.setCell ?_ (by first | exact Nat.le_refl _ | (simp; done) | (simp; omega)) _ | with_reducible refine Below.drew ?_ | with_reducible refine below_drewN ?_ _ | with_reducible refine below_then ?_ (by with_reducible assumption)))⟩
    · have hG : allowB (lit4 [f 0, f 1, f 2, f 3, f 4]) (floorI ma mb mc 1) k = true := more_ok hA ⟨by omega, by omega⟩ ⟨by omega, by omega⟩ ⟨by omega, by omega⟩ ⟨by omega, by omega⟩ ⟨by omega, by omega⟩
      go_wp2_with (go_at_call 19; refine Calls.mono (allowed_any _ _ _ (lit4 [f 0, f 1, f 2, f 3, f 4]) _ _ _ _ _ _ (lit5_ok ?_)) ?_; (simp [go_sem, *]); rintro e w3 ⟨rfl, hb⟩; rw [hG])
      go_ret
      exact ⟨rfl, (by repeat (first | with_reducible exact Below.refl _ _ | with_reducible assumption | with_reducible refine below_alloc ?_ _ | with_reducible refine Below.setCell ?_ (by first | exact Nat.le_refl _ | (simp; done) | (simp; omega)) _ | with_reducible refine Below.drew ?_ | with_reducible refine below_drewN ?_ _ | with_reducible refine below_then ?_ (by with_reducible assumption)))⟩
  · by_cases hs : f 3 < 4096
    · have hG : allowB (lit4 [f 0, f 1, f 2, f 3 + 1, f 4]) (floorI ma mb mc 1) k = true := more_ok hA ⟨by omega, by omega⟩ ⟨by omega, by omega⟩ ⟨by omega, by omega⟩ ⟨by omega, by omega⟩ ⟨by omega, by omega⟩
      go_wp2_with (go_at_call 19; refine Calls.mono (allowed_any _ _ _ (lit4 [f 0, f 1, f 2, f 3 + 1, f 4]) _ _ _ _ _ _ (lit5_ok ?_)) ?_; (simp [go_sem, *]); rintro e w3 ⟨rfl, hb⟩; rw [hG])
      go_ret
      exact ⟨rfl, (by repeat (first | with_reducible exact Below.refl _ _ | with_reducible assumption | with_reducible refine below_alloc ?_ _ | with_reducible refine Below.setCell ?_ (by first | exact Nat.le_refl _ | (simp; done) | (simp; omega)) _ | with_reducible refine Below.drew ?_ | with_reducible refine below_drewN ?_ _ | with_reducible refine below_then ?_ (by with_reducible assumption)))⟩
    · have hG : allowB (lit4 [f 0, f 1, f 2, f 3, f 4]) (floorI ma mb mc 1) k = true := more_ok hA ⟨by omega, by omega⟩ ⟨by omega, by omega⟩ ⟨by omega, by omega⟩ ⟨by omega, by omega⟩ ⟨by omega, by omega⟩
      go_wp2_with (go_at_call 19; refine Calls.mono (allowed_any _ _ _ (lit4 [f 0, f 1, f 2, f 3, f 4]) _ _ _ _ _ _ (lit5_ok ?_)) ?_; (simp [go_sem, *]); rintro e w3 ⟨rfl, hb⟩; rw [hG])
      go_ret
      exact ⟨rfl, (by repeat (first | with_reducible exact Below.refl _ _ | with_reducible assumption | with_reducible refine below_alloc ?_ _ | with_reducible refine Below.setCell ?_ (by first | exact Nat.le_refl _ | (simp; done) | (simp; omega)) _ | with_reducible refine Below.drew ?_ | with_reducible refine below_drewN ?_ _ | with_reducible refine below_then ?_ (by with_reducible assumption)))⟩
  · by_cases hs : f 4 < 4096
    · have hG : allowB (lit4 [f 0, f 1, f 2, f 3, f 4 + 1]) (floorI ma mb mc 1) k = true := more_ok hA ⟨by omega, by omega⟩ ⟨by omega, by omega⟩ ⟨by omega, by omega⟩ ⟨by omega, by omega⟩ ⟨by omega, by omega⟩
      go_wp2_with (go_at_call 19; refine Calls.mono (allowed_any _ _ _ (lit4 [f 0, f 1, f 2, f 3, f 4 + 1]) _ _ _ _ _ _ (lit5_ok ?_)) ?_; (simp [go_sem, *]); rintro e w3 ⟨rfl, hb⟩; rw [hG])
      go_ret
      exact ⟨rfl, (by repeat (first | with_reducible exact Below.refl _ _ | with_reducible assumption | with_reducible refine below_alloc ?_ _ | with_reducible refine Below.setCell ?_ (by first | exact Nat.le_refl _ | (simp; done) | (simp; omega)) _ | with_reducible refine Below.drew ?_ | with_reducible refine below_drewN ?_ _ | with_reducible refine below_then ?_ (by with_reducible assumption)))⟩
    · have hG : allowB (lit4 [f 0, f 1, f 2, f 3, f 4]) (floorI ma mb mc 1) k = true := more_ok hA ⟨by omega, by omega⟩ ⟨by omega, by omega⟩ ⟨by omega, by omega⟩ ⟨by omega, by omega⟩ ⟨by omega, by omega⟩
      go_wp2_with (go_at_call 19; refine Calls.mono (allowed_any _ _ _ (lit4 [f 0, f 1, f 2, f 3, f 4]) _ _ _ _ _ _ (lit5_ok ?_)) ?_; (simp [go_sem, *]); rintro e w3 ⟨rfl, hb⟩; rw [hG])
      go_ret
      exact ⟨rfl, (by repeat (first | with_reducible exact Below.refl _ _ | with_reducible assumption | with_reducible refine below_alloc ?_ _ | with_reducible refine Below.setCell ?_ (by first | exact Nat.le_refl _ | (simp; done) | (simp; omega)) _ | with_reducible refine Below.drew ?_ | with_reducible refine below_drewN ?_ _ | with_reducible refine below_then ?_ (by with_reducible assumption)))⟩
set_option maxHeartbeats 1600000 in
theorem law_order_2 (a : Option Addr) (n c : Nat) (f : Nat → Int) (ma mb mc x0 x1 x2 k o : Int) (w : World) (hn : n ≤ 20) (H : SliceInts w a n f) (hv : validB f = true)
    (b0 : 0 ≤ x0 ∧ x0 ≤ 255) (b1 : 0 ≤ x1 ∧ x1 ≤ 255) (b2 : 0 ≤ x2 ∧ x2 ≤ 255) (e0 : x0.tmod 5 = k) (e1 : x1.tmod 3 = 2) (e2 : x2.tmod 5 = o) (hk : 0 ≤ k ∧ k ≤ 4) (ho : 0 ≤ o ∧ o ≤ 4) (hA : allowB f (floorI ma mb mc 2) k = true) :
    Calls Try.prog 7 #[.slice a n c, .agg #[.int .i64 ma, .int .i64 mb, .int .i64 mc], .agg #[.int .u8 x0, .int .u8 x1, .int .u8 x2]] w fun e w' => e = .returned (.bool true) ∧ Below w.heap.size w w' := by
  have hn' : (n : Int) ≤ 20 := by omega
  have hm := H.1
  have hfl := ((allowB_iff _ _ _).1 hA).1.1
  have A1 : allowB f (floorI ma mb mc (max 2 1)) k = true := allow_less hA (floor_less hfl (by decide) (by decide)).1 (floor_less hfl (by decide) (by decide)).2
  have A2 : allowB f (floorI ma mb mc 2) k = true := allow_less hA (floor_less hfl (by decide) (by decide)).1 (floor_less hfl (by decide) (by decide)).2
  rw [show (max 2 1 : Int) = 2 by decide] at A1
  clear hfl
  have one := fcs_one f n
  have ONE := Lib.hid one; clear one
  go_enter Try.func7, Try.ntmps7
  (go_wp2_with (first | (go_at_call 10; refine (awake_any _).mono ?_; rintro e w1 ⟨rfl, hb⟩; obtain ⟨hc, hf, hz⟩ := bcell2 hb; try simp only [World.size_alloc] at hc hf hz) | (go_at_call 21; refine (valid_law _ _ _ f _ (H.below (by first | assumption | exact below_then (below_alloc (below_alloc (Below.refl _ _) _) _) hb))).mono ?_; rintro e w' ⟨rfl, rfl⟩; rw [hv])))
  refine wp_forget (Three w ma mb mc (.int .u8 x0) (.int .u8 x1) (.int .u8 x2)) ?_ ?_
  · refine ⟨(by repeat (first | with_reducible exact Below.refl _ _ | with_reducible assumption | with_reducible refine below_alloc ?_ _ | with_reducible refine Below.setCell ?_ (by first | exact Nat.le_refl _ | (simp; done) | (simp; omega)) _ | with_reducible refine Below.drew ?_ | with_reducible refine below_drewN ?_ _ | with_reducible refine below_then ?_ (by with_reducible assumption))), by omega, ?_, ?_, ?_, ?_, ?_, ?_⟩ <;> (first | (simp [go_sem, *]; done) | (simp [go_sem, ↓IntWalk.iteOmega, *]; done))
  intro W0 hT0
  clear hb hc hf hz
  have hT1 := hT0
  obtain ⟨_, _, h1, h2, h3, h4, h5, h6⟩ := hT1
  have v0 : IntKind.i64.wrap x0 = x0 := IntWalk.i64_in _ (by omega)
  have v1 : IntKind.i64.wrap x1 = x1 := IntWalk.i64_in _ (by omega)
  have v2 : IntKind.i64.wrap k = k := IntWalk.i64_in _ (by omega)
  go_quiet (fail)
  obtain ⟨W, hW, hT⟩ := hT0.drawn nq
  rw [← hW]
  clear hW hT0 h1 h2 h3 h4 h5 h6 v0 v1 v2
  have hT2 := hT
  obtain ⟨hB, hZ, h1, h2, h3, h4, h5, h6⟩ := hT2
  go_wp2_with (go_at_call 19; refine Calls.mono (allowed_any _ _ _ f _ _ _ _ _ _ ?_) ?_; (exact H.below (by repeat (first | with_reducible exact Below.refl _ _ | with_reducible assumption | with_reducible refine below_alloc ?_ _ | with_reducible refine Below.setCell ?_ (by first | exact Nat.le_refl _ | (simp; done) | (simp; omega)) _ | with_reducible refine Below.drew ?_ | with_reducible refine below_drewN ?_ _ | with_reducible refine below_then ?_ (by with_reducible assumption)))); rintro e w1 ⟨rfl, hb⟩; obtain ⟨hc, hf, hz⟩ := bcell2 hb)
  have hmk := make5
  refine wp_loop_rounds 4 ?_
  repeat any_goals (rw [rounds_succ]; go_wp2_with (first | (go_at_call 19; refine Calls.mono (allowed_any _ _ _ f _ _ _ _ _ _ ?_) ?_; (exact H.below (by repeat (first | with_reducible exact Below.refl _ _ | with_reducible assumption | with_reducible refine below_alloc ?_ _ | with_reducible refine Below.setCell ?_ (by first | exact Nat.le_refl _ | (simp; done) | (simp; omega)) _ | with_reducible refine Below.drew ?_ | with_reducible refine below_drewN ?_ _ | with_reducible refine below_then ?_ (by with_reducible assumption)))); rintro e w1 ⟨rfl, hb⟩; obtain ⟨hc, hf, hz⟩ := bcell2 hb) | (refine wpList_copy_splice rfl (.tmp 55) (.tmp 56) 33 33 rfl 3 Try.underlying33 (by kernel_rfl) (some ⟨w1.heap.size, 0, none⟩) a 5 5 n c rfl rfl w1.heap.size 0 (List.replicate 5 (Value.int .i64 0)) 3 ?hg (fcs f n) ?hn ?hpos ?hfit ONE.out w1.heap.size w1 ?hb (Nat.le_refl _) ?_)))
  case hg => exact heap_at _ _ _ rfl
  case hn => exact fcs_length f n
  case hfit => simp [fcs_length]; omega
  case hb => exact (Below.refl _ _).alloc (Nat.le_refl _) _
  case hpos =>
    intro h0
    rw [fcs_length] at h0
    have HX : SliceInts w1 a n f := H.below (by repeat (first | with_reducible exact Below.refl _ _ | with_reducible assumption | with_reducible refine below_alloc ?_ _ | with_reducible refine Below.setCell ?_ (by first | exact Nat.le_refl _ | (simp; done) | (simp; omega)) _ | with_reducible refine Below.drew ?_ | with_reducible refine below_drewN ?_ _ | with_reducible refine below_then ?_ (by with_reducible assumption)))
    obtain ⟨b, off, rfl, hcc⟩ := HX.2.1 (by omega)
    refine ⟨_, rfl, fun j v hj => ?_⟩
    obtain ⟨j1, j2, rfl⟩ := fcs_get hj
    rw [show (⟨b, off, none⟩ : Addr).add j = ⟨b, off + j, none⟩ by simp [Addr.add]]
    exact cell_later ((Below.refl _ _).alloc (Nat.le_refl _) _) (hcc j j1)
  intro w2 HG2 HB2
  have e := HG2.out
  rw [show ([Value.int IntKind.i64 0, Value.int IntKind.i64 0, Value.int IntKind.i64 0, Value.int IntKind.i64 0, Value.int IntKind.i64 0]) = List.replicate 5 (Value.int IntKind.i64 0) from rfl, fcs_splice H] at e
  have hb1 : Below w.heap.size w w1 := (by repeat (first | with_reducible exact Below.refl _ _ | with_reducible assumption | with_reducible refine below_alloc ?_ _ | with_reducible refine Below.setCell ?_ (by first | exact Nat.le_refl _ | (simp; done) | (simp; omega)) _ | with_reducible refine Below.drew ?_ | with_reducible refine below_drewN ?_ _ | with_reducible refine below_then ?_ (by with_reducible assumption)))
  have hb2 : Below w.heap.size w w2 := below_then hb1 HB2
  have hT3 : Three w ma mb mc (.int .u8 x0) (.int .u8 x1) (.int .u8 x2) w1 := hT.next (by clear hB hb1 hb2; exact (by repeat (first | with_reducible exact Below.refl _ _ | with_reducible assumption | with_reducible refine below_alloc ?_ _ | with_reducible refine Below.setCell ?_ (by first | exact Nat.le_refl _ | (simp; done) | (simp; omega)) _ | with_reducible refine Below.drew ?_ | with_reducible refine below_drewN ?_ _ | with_reducible refine below_then ?_ (by with_reducible assumption))))
  have hT4 := hT3.next HB2
  have hsz : w.heap.size + 2 ≤ w1.heap.size := hT3.2.1
  have hlt : w1.heap.size < w2.heap.size := by
    rcases Nat.lt_or_ge w1.heap.size w2.heap.size with h | h
    · exact h
    · rw [Array.getElem?_eq_none (by omega)] at e; cases e
  have c0 : ∀ j v, [Value.int .i64 (f 0), Value.int .i64 (f 1), Value.int .i64 (f 2), Value.int .i64 (f 3), Value.int .i64 (f 4)][j]? = some v → w2.cell? ⟨w1.heap.size, j, none⟩ = some v := by
    intro j v hj
    simp [World.cell?, e, hj]
  have hfr : ∀ j, w2.frozen? ⟨w1.heap.size, j, none⟩ = false := by
    intro j
    simp [World.frozen?, e]
  have c1 := c0 0 _ rfl
  have c2 := c0 1 _ rfl
  have c3 := c0 2 _ rfl
  have c4 := c0 3 _ rfl
  have c5 := c0 4 _ rfl
  have hle := HB2.size
  have hbd := (validB_iff f).1 hv
  obtain ⟨hB4, hZ4, g1, g2, g3, g4, g5, g6⟩ := hT4
  clear e c0 HB2 HG2 hc hf hz hmk A1 A2 h1 h2 h3 h4 h5 h6 hT hT3 hB hZ hb
  have hblk : w.heap.size ≤ w1.heap.size := by omega
  obtain ⟨G, hG⟩ : ∃ G, G = w1.heap.size := ⟨_, rfl⟩
  rw [← hG] at c1 c2 c3 c4 c5 hsz hlt hfr hblk ⊢
  clear hG
  rcases (by omega : o = 0 ∨ o = 1 ∨ o = 2 ∨ o = 3 ∨ o = 4) with rfl | rfl | rfl | rfl | rfl
  · by_cases hs : f 0 < 4096
    · have hG : allowB (lit4 [f 0 + 1, f 1, f 2, f 3, f 4]) (floorI ma mb mc 2) k = true := more_ok hA ⟨by omega, by omega⟩ ⟨by omega, by omega⟩ ⟨by omega, by omega⟩ ⟨by omega, by omega⟩ ⟨by omega, by omega⟩
      go_wp2_with (go_at_call 19; refine Calls.mono (allowed_any _ _ _ (lit4 [f 0 + 1, f 1, f 2, f 3, f 4]) _ _ _ _ _ _ (lit5_ok ?_)) ?_; (simp [go_sem, *]); rintro e w3 ⟨rfl, hb⟩; rw [hG])
      go_ret
      exact ⟨rfl, (by repeat (first | with_reducible exact Below.refl _ _ | with_reducible assumption | with_reducible refine below_alloc ?_ _ | with_reducible refine Below.setCell ?_ (by first | exact Nat.le_refl _ | (simp; done) | (simp; omega)) _ | with_reducible refine Below.drew ?_ | with_reducible refine below_drewN ?_ _ | with_reducible refine below_then ?_ (by with_reducible assumption)))⟩
    · have hG : allowB (lit4 [f 0, f 1, f 2, f 3, f 4]) (floorI ma mb mc 2) k = true := more_ok hA ⟨by omega, by omega⟩ ⟨by omega, by omega⟩ ⟨by omega, by omega⟩ ⟨by omega, by omega⟩ ⟨by omega, by omega⟩
      go_wp2_with (go_at_call 19; refine Calls.mono (allowed_any _ _ _ (lit4 [f 0, f 1, f 2, f 3, f 4]) _ _ _ _ _ _ (lit5_ok ?_)) ?_; (simp [go_sem, *]); rintro e w3 ⟨rfl, hb⟩; rw [hG])
      go_ret
      exact ⟨rfl, (by repeat (first | with_reducible exact Below.refl _ _ | with_reducible assumption | with_reducible refine below_alloc ?_ _ | with_reducible refine Below.setCell ?_ (by first | exact Nat.le_refl _ | (simp; done) | (simp; omega)) _ | with_reducible refine Below.drew ?_ | with_reducible refine below_drewN ?_ _ | with_reducible refine below_then ?_ (by with_reducible assumption)))⟩
  · by_cases hs : f 1 < 4096
    · have hG : allowB (lit4 [f 0, f 1 + 1, f 2, f 3, f 4]) (floorI ma mb mc 2) k = true := more_ok hA ⟨by omega, by omega⟩ ⟨by omega, by omega⟩ ⟨by omega, by omega⟩ ⟨by omega, by omega⟩ ⟨by omega, by omega⟩
      go_wp2_with (go_at_call 19; refine Calls.mono (allowed_any _ _ _ (lit4 [f 0, f 1 + 1, f 2, f 3, f 4]) _ _ _ _ _ _ (lit5_ok ?_)) ?_; (simp [go_sem, *]); rintro e w3 ⟨rfl, hb⟩; rw [hG])
      go_ret
      exact ⟨rfl, (by repeat (first | with_reducible exact Below.refl _ _ | with_reducible assumption | with_reducible refine below_alloc ?_ _ | with_reducible refine Below.setCell ?_ (by first | exact Nat.le_refl _ | (simp; done) | (simp; omega)) _ | with_reducible refine Below.drew ?_ | with_reducible refine below_drewN ?_ _ | with_reducible refine below_then ?_ (by with_reducible assumption)))⟩
    · have hG : allowB (lit4 [f 0, f 1, f 2, f 3, f 4]) (floorI ma mb mc 2) k = true := more_ok hA ⟨by omega, by omega⟩ ⟨by omega, by omega⟩ ⟨by omega, by omega⟩ ⟨by omega, by omega⟩ ⟨by omega, by omega⟩
      go_wp2_with (go_at_call 19; refine Calls.mono (allowed_any _ _ _ (lit4 [f 0, f 1, f 2, f 3, f 4]) _ _ _ _ _ _ (lit5_ok ?_)) ?_; (simp [go_sem, *]); rintro e w3 ⟨rfl, hb⟩; rw [hG])
      go_ret
      exact ⟨rfl, (by repeat (first | with_reducible exact Below.refl _ _ | with_reducible assumption | with_reducible refine below_alloc ?_ _ | with_reducible refine Below.setCell ?_ (by first | exact Nat.le_refl _ | (simp; done) | (simp; omega)) _ | with_reducible refine Below.drew ?_ | with_reducible refine below_drewN ?_ _ | with_reducible refine below_then ?_ (by with_reducible assumption)))⟩
  · by_cases hs : f 2 < 4096
    · have hG : allowB (lit4 [f 0, f 1, f 2 + 1, f 3, f 4]) (floorI ma mb mc 2) k = true := more_ok hA ⟨by omega, by omega⟩ ⟨by omega, by omega⟩ ⟨by omega, by omega⟩ ⟨by omega, by omega⟩ ⟨by omega, by omega⟩
      go_wp2_with (go_at_call 19; refine Calls.mono (allowed_any _ _ _ (lit4 [f 0, f 1, f 2 + 1, f 3, f 4]) _ _ _ _ _ _ (lit5_ok ?_)) ?_; (simp [go_sem, *]); rintro e w3 ⟨rfl, hb⟩; rw [hG])
      go_ret
      exact ⟨rfl, (by repeat (first | with_reducible exact Below.refl _ _ | with_reducible assumption | with_reducible refine below_alloc ?_ _ | with_reducible refine Below.setCell ?_ (by first | exact Nat.le_refl _ | (simp; done) | (simp; omega)) _ | with_reducible refine Below.drew ?_ | with_reducible refine below_drewN ?_ _ | with_reducible refine below_then ?_ (by with_reducible assumption)))⟩
    · have hG : allowB (lit4 [f 0, f 1, f 2, f 3, f 4]) (floorI ma mb mc 2) k = true := more_ok hA ⟨by omega, by omega⟩ ⟨by omega, by omega⟩ ⟨by omega, by omega⟩ ⟨by omega, by omega⟩ ⟨by omega, by omega⟩
      go_wp2_with (go_at_call 19; refine Calls.mono (allowed_any _ _ _ (lit4 [f 0, f 1, f 2, f 3, f 4]) _ _ _ _ _ _ (lit5_ok ?_)) ?_; (simp [go_sem, *]); rintro e w3 ⟨rfl, hb⟩; rw [hG])
      go_ret
      exact ⟨rfl, (by repeat (first | with_reducible exact Below.refl _ _ | with_reducible assumption | with_reducible refine below_alloc ?_ _ | with_reducible refine Below.setCell ?_ (by first | exact Nat.le_refl _ | (simp; done) | (simp; omega)) _ | with_reducible refine Below.drew ?_ | with_reducible refine below_drewN ?_ _ | with_reducible refine below_then ?_ (by with_reducible assumption)))⟩
  · by_cases hs : f 3 < 4096
    · have hG : allowB (lit4 [f 0, f 1, f 2, f 3 + 1, f 4]) (floorI ma mb mc 2) k = true := more_ok hA ⟨by omega, by omega⟩ ⟨by omega, by omega⟩ ⟨by omega, by omega⟩ ⟨by omega, by omega⟩ ⟨by omega, by omega⟩
      go_wp2_with (go_at_call 19; refine Calls.mono (allowed_any _ _ _ (lit4 [f 0, f 1, f 2, f 3 + 1, f 4]) _ _ _ _ _ _ (lit5_ok ?_)) ?_; (simp [go_sem, *]); rintro e w3 ⟨rfl, hb⟩; rw [hG])
      go_ret
      exact ⟨rfl, (by repeat (first | with_reducible exact Below.refl _ _ | with_reducible assumption | with_reducible refine below_alloc ?_ _ | with_reducible refine Below.setCell ?_ (by first | exact Nat.le_refl _ | (simp; done) | (simp; omega)) _ | with_reducible refine Below.drew ?_ | with_reducible refine below_drewN ?_ _ | with_reducible refine below_then ?_ (by with_reducible assumption)))⟩
    · have hG : allowB (lit4 [f 0, f 1, f 2, f 3, f 4]) (floorI ma mb mc 2) k = true := more_ok hA ⟨by omega, by omega⟩ ⟨by omega, by omega⟩ ⟨by omega, by omega⟩ ⟨by omega, by omega⟩ ⟨by omega, by omega⟩
      go_wp2_with (go_at_call 19; refine Calls.mono (allowed_any _ _ _ (lit4 [f 0, f 1, f 2, f 3, f 4]) _ _ _ _ _ _ (lit5_ok ?_)) ?_; (simp [go_sem, *]); rintro e w3 ⟨rfl, hb⟩; rw [hG])
      go_ret
      exact ⟨rfl, (by repeat (first | with_reducible exact Below.refl _ _ | with_reducible assumption | with_reducible refine below_alloc ?_ _ | with_reducible refine Below.setCell ?_ (by first | exact Nat.le_refl _ | (simp; done) | (simp; omega)) _ | with_reducible refine Below.drew ?_ | with_reducible refine below_drewN ?_ _ | with_reducible refine below_then ?_ (by with_reducible assumption)))⟩
  · by_cases hs : f 4 < 4096
    · have hG : allowB (lit4 [f 0, f 1, f 2, f 3, f 4 + 1]) (floorI ma mb mc 2) k = true := more_ok hA ⟨by omega, by omega⟩ ⟨by omega, by omega⟩ ⟨by omega, by omega⟩ ⟨by omega, by omega⟩ ⟨by omega, by omega⟩
      go_wp2_with (go_at_call 19; refine Calls.mono (allowed_any _ _ _ (lit4 [f 0, f 1, f 2, f 3, f 4 + 1]) _ _ _ _ _ _ (lit5_ok ?_)) ?_; (simp [go_sem, *]); rintro e w3 ⟨rfl, hb⟩; rw [hG])
      go_ret
      exact ⟨rfl, (by repeat (first | with_reducible exact Below.refl _ _ | with_reducible assumption | with_reducible refine below_alloc ?_ _ | with_reducible refine Below.setCell ?_ (by first | exact Nat.le_refl _ | (simp; done) | (simp; omega)) _ | with_reducible refine Below.drew ?_ | with_reducible refine below_drewN ?_ _ | with_reducible refine below_then ?_ (by with_reducible assumption)))⟩
    · have hG : allowB (lit4 [f 0, f 1, f 2, f 3, f 4]) (floorI ma mb mc 2) k = true := more_ok hA ⟨by omega, by omega⟩ ⟨by omega, by omega⟩ ⟨by omega, by omega⟩ ⟨by omega, by omega⟩ ⟨by omega, by omega⟩
      go_wp2_with (go_at_call 19; refine Calls.mono (allowed_any _ _ _ (lit4 [f 0, f 1, f 2, f 3, f 4]) _ _ _ _ _ _ (lit5_ok ?_)) ?_; (simp [go_sem, *]); rintro e w3 ⟨rfl, hb⟩; rw [hG])
      go_ret
      exact ⟨rfl, (by repeat (first | with_reducible exact Below.refl _ _ | with_reducible assumption | with_reducible refine below_alloc ?_ _ | with_reducible refine Below.setCell ?_ (by first | exact Nat.le_refl _ | (simp; done) | (simp; omega)) _ | with_reducible refine Below.drew ?_ | with_reducible refine below_drewN ?_ _ | with_reducible refine below_then ?_ (by with_reducible assumption)))⟩
theorem law_order (a : Option Addr) (n c : Nat) (f : Nat → Int) (ma mb mc x0 x1 x2 : Int) (w : World) (H : SliceInts w a n f) (b0 : 0 ≤ x0 ∧ x0 ≤ 255) (b1 : 0 ≤ x1 ∧ x1 ≤ 255) (b2 : 0 ≤ x2 ∧ x2 ≤ 255) :
    Calls Try.prog 7 #[.slice a n c, .agg #[.int .i64 ma, .int .i64 mb, .int .i64 mc], .agg #[.int .u8 x0, .int .u8 x1, .int .u8 x2]] w fun e w' => e = .returned (.bool true) ∧ Below w.heap.size w w' := by
  rcases Nat.lt_or_ge 20 n with hn | hn
  · exact law_order_out a n c f ma mb mc x0 x1 x2 w hn H
  · cases hv : validB f with
    | false => exact law_order_no a n c f ma mb mc x0 x1 x2 w H hv
    | true =>
      have t0 : x0.tmod 5 = x0 % 5 := Int.tmod_eq_emod_of_nonneg b0.1
      have t1 : x1.tmod 3 = x1 % 3 := Int.tmod_eq_emod_of_nonneg b1.1
      have t2 : x2.tmod 5 = x2 % 5 := Int.tmod_eq_emod_of_nonneg b2.1
      have hk : 0 ≤ x0.tmod 5 ∧ x0.tmod 5 ≤ 4 := by rw [t0]; omega
      have hy : 0 ≤ x1.tmod 3 ∧ x1.tmod 3 ≤ 2 := by rw [t1]; omega
      have ho : 0 ≤ x2.tmod 5 ∧ x2.tmod 5 ≤ 4 := by rw [t2]; omega
      cases hA : allowB f (floorI ma mb mc (x1.tmod 3)) (x0.tmod 5) with
      | false => exact law_order_not a n c f ma mb mc x0 x1 x2 _ _ w hn H hv b0 b1 rfl rfl hk hy hA
      | true =>
        rcases (by omega : x1.tmod 3 = 0 ∨ x1.tmod 3 = 1 ∨ x1.tmod 3 = 2) with h | h | h
        · rw [h] at hA; exact law_order_0 a n c f ma mb mc x0 x1 x2 _ _ w hn H hv b0 b1 b2 rfl h rfl hk ho hA
        · rw [h] at hA; exact law_order_1 a n c f ma mb mc x0 x1 x2 _ _ w hn H hv b0 b1 b2 rfl h rfl hk ho hA
        · rw [h] at hA; exact law_order_2 a n c f ma mb mc x0 x1 x2 _ _ w hn H hv b0 b1 b2 rfl h rfl hk ho hA
end Go.Proofs.Ytneibbefkjjlnaa
