/- Allowed whole, and the chapter's examples. -/
import Derived.Test.YtneibbefkjjlnaaWalks3
import Derived.Test.YtneibbefkjjlnaaOver
namespace Go.Proofs.Ytneibbefkjjlnaa
open Go.RowKit Go.Over
set_option maxHeartbeats 1600000 in
theorem allowed_ref_no (a : Option Addr) (n c : Nat) (f : Nat → Int) (ma mb mc k x : Int) (w : World) (H : SliceInts w a n f) (h : ¬ (0 ≤ floorI ma mb mc x ∧ validB f = true ∧ 0 ≤ k ∧ k ≤ 4)) :
    Calls Try.prog 20 #[.slice a n c, .agg #[.int .i64 ma, .int .i64 mb, .int .i64 mc], .int .i64 k, .int .i64 x] w fun e w' => e = .returned (.bool false) ∧ Below w.heap.size w w' := by
  have HN := Lib.hid h; clear h
  go_enter Try.func20, Try.ntmps20
  go_wp2_with (first | (go_at_call 16; refine (floor_ref _ _ _ _ _).mono ?_; rintro e w1 ⟨rfl, hb⟩; have hb1 : Below w.heap.size w w1 := (by repeat (first | with_reducible exact Below.refl _ _ | with_reducible assumption | with_reducible refine below_alloc ?_ _ | with_reducible refine Below.setCell ?_ (by first | exact Nat.le_refl _ | (simp; done) | (simp; omega)) _ | with_reducible refine Below.drew ?_ | with_reducible refine below_drewN ?_ _ | with_reducible refine below_then ?_ (by with_reducible assumption))); have H1 := H.below hb1; clear hb) | (go_at_call 29; refine (valid_ref _ _ _ _ _ H1).mono ?_; rintro e w' ⟨rfl, rfl⟩))
  all_goals first
    | (exfalso; refine HN.out ⟨?_, ?_, ?_, ?_⟩ <;> first | assumption | omega)
    | (go_ret; exact ⟨rfl, (by repeat (first | with_reducible exact Below.refl _ _ | with_reducible assumption | with_reducible refine below_alloc ?_ _ | with_reducible refine Below.setCell ?_ (by first | exact Nat.le_refl _ | (simp; done) | (simp; omega)) _ | with_reducible refine Below.drew ?_ | with_reducible refine below_drewN ?_ _ | with_reducible refine below_then ?_ (by with_reducible assumption)))⟩)
/-- What both Alloweds answer. -/
def allowB (f : Nat → Int) (fl k : Int) : Bool := if 0 ≤ fl ∧ validB f = true ∧ 0 ≤ k ∧ k ≤ 4 then allow4 f fl k else false
theorem allowed_ref_any (a : Option Addr) (n c : Nat) (f : Nat → Int) (ma mb mc k x : Int) (w : World) (H : SliceInts w a n f) :
    Calls Try.prog 20 #[.slice a n c, .agg #[.int .i64 ma, .int .i64 mb, .int .i64 mc], .int .i64 k, .int .i64 x] w fun e w' => e = .returned (.bool (allowB f (floorI ma mb mc x) k)) ∧ Below w.heap.size w w' := by
  by_cases h : 0 ≤ floorI ma mb mc x ∧ validB f = true ∧ 0 ≤ k ∧ k ≤ 4
  · rw [allowB, if_pos h]
    exact allowed_ref a n c f ma mb mc k x w H h.2.1 h.1 h.2.2.1 h.2.2.2
  · rw [allowB, if_neg h]
    exact allowed_ref_no a n c f ma mb mc k x w H h
theorem allowed_any (a : Option Addr) (n c : Nat) (f : Nat → Int) (ma mb mc k x : Int) (w : World) (H : SliceInts w a n f) :
    Calls Try.prog 19 #[.slice a n c, .agg #[.int .i64 ma, .int .i64 mb, .int .i64 mc], .int .i64 k, .int .i64 x] w fun e w' => e = .returned (.bool (allowB f (floorI ma mb mc x) k)) ∧ Below w.heap.size w w' := by
  by_cases h : 0 ≤ floorI ma mb mc x ∧ validB f = true ∧ 0 ≤ k ∧ k ≤ 4
  · rw [allowB, if_pos h]
    obtain ⟨h1, h2, h3, h4⟩ := h
    obtain rfl | rfl | rfl | rfl | rfl : k = 0 ∨ k = 1 ∨ k = 2 ∨ k = 3 ∨ k = 4 := by omega
    · exact allowed_0 a n c f ma mb mc x w H h1 h2
    · exact allowed_1 a n c f ma mb mc x w H h1 h2
    · exact allowed_2 a n c f ma mb mc x w H h1 h2
    · exact allowed_3 a n c f ma mb mc x w H h1 h2
    · exact allowed_4 a n c f ma mb mc x w H h1 h2
  · rw [allowB, if_neg h]
    exact allowed_no a n c f ma mb mc k x w H h
/-- A literal list of ints, read by place. -/
def lit4 (l : List Int) (i : Nat) : Int := l.getD i 0
theorem lit1_ok {w : World} {b : Nat} {x : Int} (h : w.cell? ⟨b, 0, none⟩ = some (.int .i64 x)) : SliceInts w (some ⟨b, 0, none⟩) 1 (lit4 [x]) := by
  refine ⟨by omega, fun _ => ⟨b, 0, rfl, fun i hi => ?_⟩, fun i hi => ?_⟩
  · obtain rfl : i = 0 := by omega
    exact h
  · unfold lit4
    rw [List.getD_eq_getElem?_getD, List.getElem?_eq_none (by simpa using hi)]; rfl
theorem lit4_ok {w : World} {b : Nat} {x y z u : Int} (h : w.cell? ⟨b, 0, none⟩ = some (.int .i64 x) ∧ w.cell? ⟨b, 1, none⟩ = some (.int .i64 y) ∧ w.cell? ⟨b, 2, none⟩ = some (.int .i64 z) ∧ w.cell? ⟨b, 3, none⟩ = some (.int .i64 u)) : SliceInts w (some ⟨b, 0, none⟩) 4 (lit4 [x, y, z, u]) := by
  refine ⟨by omega, fun _ => ⟨b, 0, rfl, fun i hi => ?_⟩, fun i hi => ?_⟩
  · obtain rfl | rfl | rfl | rfl : i = 0 ∨ i = 1 ∨ i = 2 ∨ i = 3 := by omega
    · exact h.1
    · exact h.2.1
    · exact h.2.2.1
    · exact h.2.2.2
  · unfold lit4
    rw [List.getD_eq_getElem?_getD, List.getElem?_eq_none (by simpa using hi)]; rfl
set_option maxHeartbeats 1600000 in
theorem awake_any (w : World) : Calls Try.prog 10 #[] w fun e w' => e = .returned (.bool true) ∧ Below w.heap.size w w' := by
  have l1 : levA 64 6 = 6 := by decide
  have l2 : levB 64 6 = 8 := by decide
  have l3 : levC 64 6 = 9 := by decide
  have l4 : levE 64 6 = 0 := by decide
  have l5 : levA 4 4 = 4 := by decide
  have l6 : levB 4 4 = 4 := by decide
  have l7 : levC 4 4 = 4 := by decide
  have l8 : levE 4 4 = 0 := by decide
  have l9 : checkI 6 8 9 = 0 := by decide
  have a1 : allowB (lit4 [7]) (floorI 6 8 9 0) 0 = true := by decide
  have a2 : allowB (lit4 [6]) (floorI 6 8 9 0) 0 = false := by decide
  have a3 : allowB (lit4 [6]) (floorI 6 8 9 1) 0 = true := by decide
  have a4 : allowB (lit4 [0, 0, 0, 1]) (floorI 6 8 9 1) 3 = false := by decide
  have a5 : allowB (lit4 [0, 0, 0, 1]) (floorI 6 8 9 2) 3 = true := by decide
  have a6 : allowB (lit4 [6, 0, 0, 1]) (floorI 6 8 9 0) 3 = false := by decide
  have a7 : allowB (lit4 [6, 0, 0, 1]) (floorI 6 8 9 1) 3 = false := by decide
  have k1 : wakeB 6 8 9 7 false = true := by decide
  have k2 : wakeB 6 8 9 8 false = false := by decide
  have k3 : wakeB 6 8 9 8 true = true := by decide
  have k4 : wakeB 6 8 9 9 true = false := by decide
  go_enter Try.func10, Try.ntmps10
  go_wp2_with (first | (go_at_call 11; refine (levels_any _ _ _).mono ?_; rintro e w1 ⟨rfl, hb⟩; obtain ⟨hc, hf, hz⟩ := bcell2 hb; try simp only [World.size_alloc] at hc hf hz) | (go_at_call 13; refine (check_any _ _ _ _).mono ?_; rintro e w1 ⟨rfl, hb⟩; obtain ⟨hc, hf, hz⟩ := bcell2 hb; try simp only [World.size_alloc] at hc hf hz) | (go_at_call 17; refine (wake_any _ _ _ _ _ _).mono ?_; rintro e w1 ⟨rfl, hb⟩; obtain ⟨hc, hf, hz⟩ := bcell2 hb; try simp only [World.size_alloc] at hc hf hz) | (go_at_call 19; refine Calls.mono (allowed_any _ _ _ (lit4 [7]) _ _ _ _ _ _ (lit1_ok ?_)) ?_; (go_simp); rintro e w1 ⟨rfl, hb⟩; obtain ⟨hc, hf, hz⟩ := bcell2 hb; try simp only [World.size_alloc] at hc hf hz) | (go_at_call 19; refine Calls.mono (allowed_any _ _ _ (lit4 [6]) _ _ _ _ _ _ (lit1_ok ?_)) ?_; (go_simp); rintro e w1 ⟨rfl, hb⟩; obtain ⟨hc, hf, hz⟩ := bcell2 hb; try simp only [World.size_alloc] at hc hf hz) | (go_at_call 19; refine Calls.mono (allowed_any _ _ _ (lit4 [0, 0, 0, 1]) _ _ _ _ _ _ (lit4_ok ?_)) ?_; (simp [go_sem, ↓IntWalk.iteOmega, *]); rintro e w1 ⟨rfl, hb⟩; obtain ⟨hc, hf, hz⟩ := bcell2 hb; try simp only [World.size_alloc] at hc hf hz) | (go_at_call 19; refine Calls.mono (allowed_any _ _ _ (lit4 [6, 0, 0, 1]) _ _ _ _ _ _ (lit4_ok ?_)) ?_; (simp [go_sem, ↓IntWalk.iteOmega, *]); rintro e w1 ⟨rfl, hb⟩; obtain ⟨hc, hf, hz⟩ := bcell2 hb; try simp only [World.size_alloc] at hc hf hz))
  go_ret
  exact ⟨rfl, (by repeat (first | with_reducible exact Below.refl _ _ | with_reducible assumption | with_reducible refine below_alloc ?_ _ | with_reducible refine Below.setCell ?_ (by first | exact Nat.le_refl _ | (simp; done) | (simp; omega)) _ | with_reducible refine Below.drew ?_ | with_reducible refine below_drewN ?_ _ | with_reducible refine below_then ?_ (by with_reducible assumption)))⟩
end Go.Proofs.Ytneibbefkjjlnaa
