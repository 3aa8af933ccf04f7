/- The searches for a match, of the program and of the reference, and the reference's Filled. -/
import Derived.Test.YtaapgfhcnfaemaaRuns
namespace Go.Proofs.Ytaapgfhcnfaemaa
open Go.RowKit Go.Over Go.Zip Go.Seg
/-- The first j bytes from i on are those o places before. -/
def Len (l : List Int) (i o j : Nat) : Prop := i + j ≤ l.length ∧ ∀ m, m < j → lenP l i o m = true
theorem Len.step {l : List Int} {i o j : Nat} (h : Len l i o j) (h1 : i + j < l.length) (h2 : get l (i + j) = get l (i + j - o)) : Len l i o (j + 1) := by
  refine ⟨by omega, fun m hm => ?_⟩
  by_cases hm2 : m < j
  · exact h.2 m hm2
  · obtain rfl : m = j := by omega
    simp only [lenP, Bool.and_eq_true, decide_eq_true_eq, beq_iff_eq]
    exact ⟨h1, h2⟩
theorem Len.stop {l : List Int} {i o j : Nat} (h : Len l i o j) (hs : ¬ (i + j < l.length ∧ get l (i + j) = get l (i + j - o))) : lenAt l i o = j := by
  refine lenAt_eq h.2 ?_ (by have := h.1; omega)
  rw [Bool.eq_false_iff]
  intro hc
  simp only [lenP, Bool.and_eq_true, decide_eq_true_eq, beq_iff_eq] at hc
  exact hs hc
theorem Len.zero {l : List Int} {i o : Nat} (h : i ≤ l.length) : Len l i o 0 := ⟨by omega, fun m hm => by omega⟩
theorem Len.le {l : List Int} {i o j : Nat} (h : Len l i o j) : j ≤ lenAt l i o := by
  apply Classical.byContradiction
  intro hc
  have h1 := h.2 (lenAt l i o) (by omega)
  have h2 : lenP l i o l.length = false := by
    rw [Bool.eq_false_iff]; intro h3
    simp only [lenP, Bool.and_eq_true, decide_eq_true_eq] at h3
    omega
  have := (firstNot_no l.length (lenP l i o) h2).1
  rw [show firstNot (lenP l i o) l.length = lenAt l i o from rfl, h1] at this
  cases this
set_option maxHeartbeats 1600000 in
theorem length_any (a : Option Addr) (l : List Int) (c i o : Nat) (w : World) (H : Bytes w a l) (h : l.length = 32) (ho : 1 ≤ o) (hoi : o ≤ i) (hi : i < 32) :
    Calls Try.prog 36 #[.slice a 32 c, .int .i64 i, .int .i64 o] w fun e w' => e = .returned (.int .i64 (lenAt l i o)) ∧ Below w.heap.size w w' := by
  obtain ⟨b, off, rfl, _⟩ := H.2.1 (by omega)
  have HL := Lib.hid h; clear h
  go_enter Try.func36, Try.ntmps36
  go_wp2
  go_loopw [7] (fun n wr => ∃ j : Nat, n = .int .i64 j ∧ Len l i o j ∧ Below w.heap.size w wr) (fun n _ => 32 - (intOf n).toNat)
  case atStart => exact ⟨0, rfl, .zero (by have := HL.out; omega), (by repeat (first | with_reducible exact Below.refl _ _ | with_reducible assumption | with_reducible refine below_alloc ?_ _ | with_reducible refine Below.setCell ?_ (by first | exact Nat.le_refl _ | (simp; done) | (simp; omega)) _ | with_reducible refine Below.drew ?_ | with_reducible refine below_drewN ?_ _ | with_reducible refine below_then ?_ (by with_reducible assumption)))⟩
  case round =>
    obtain ⟨j, rfl, hj, hB⟩ := hrel
    have hL := HL.out
    obtain ⟨b', off', hab, hcell⟩ := (H.below hB).2.1 (by omega)
    cases hab
    obtain ⟨s, hs⟩ : ∃ s, s = i + j := ⟨_, rfl⟩
    obtain ⟨q, hq⟩ : ∃ q, q = s - o := ⟨_, rfl⟩
    have hj1 := hj.1
    have hj2 : j ≤ 32 := by omega
    have e1 : IntKind.i64.wrap ((i : Int) + (j : Int)) = (s : Int) := by rw [IntWalk.i64_in _ (by omega)]; omega
    have e2 : IntKind.i64.wrap ((s : Int) - (o : Int)) = (q : Int) := by rw [IntWalk.i64_in _ (by omega)]; omega
    by_cases h1 : s < 32
    · have cs := hcell s (by omega)
      have cq := hcell q (by omega)
      clear hcell hL
      have d1 : decide ((s : Int) < 32) = true := by simp; omega
      have hlt1 : ¬ ((q : Int) < 0) := by omega
      have hlt2 : ((q : Int) < 32) := by omega
      by_cases h2 : get l s = get l q
      · have HJ := Lib.hid (hj.step (by have := HL.out; omega) (by rw [← hs, ← hq]; exact h2))
        have b2 : (get l s == get l q) = true := by simp [h2]
        have HS := Lib.hid hs; have HQ := Lib.hid hq; clear hs hq h2 hj
        go_wp2
        go_quiet (fail)
        go_wp2
        go_roundw
        case rel => exact ⟨j + 1, by go_num, HJ.out, below_drewN hB _⟩
        case measure => have := HS.out; simp [intOf]; omega
      · have hr := hj.stop (fun hc => h2 (by rw [hq, hs]; exact hc.2))
        have b2 : (get l s == get l q) = false := by simp [h2]
        have HS := Lib.hid hs; have HR := Lib.hid hr; clear hs hq h2 hj hr
        go_wp2
        go_quiet (fail)
        go_wp2
        go_ret
        exact ⟨by rw [HR.out]; rfl, below_drewN hB _⟩
    · have hr := hj.stop (fun hc => h1 (by have := HL.out; omega))
      have d1 : decide ((s : Int) < 32) = false := by simp; omega
      have HS := Lib.hid hs; have HR := Lib.hid hr; clear hs hq h1 hj hr hcell hL e2
      go_wp2
      go_quiet (fail)
      go_wp2
      go_ret
      exact ⟨by rw [HR.out]; rfl, below_drewN hB _⟩
theorem best_bound {l : List Int} {i : Nat} (h : l.length = 32) (hi : i < 32) : ∀ o, (best l i o).1 ≤ 32 - i ∧ (best l i o).2 ≤ o
  | 0 => by simp [best]
  | o + 1 => by
    have h1 := best_bound h hi o
    have h2 := lenAt_le (l := l) (i := i) (o := o + 1) (by omega)
    unfold best
    split
    · constructor <;> (try simp) <;> omega
    · omega
theorem best_succ (l : List Int) (i o : Nat) : best l i (o + 1) = if (best l i o).1 < lenAt l i (o + 1) then (lenAt l i (o + 1), o + 1) else best l i o := rfl
set_option maxHeartbeats 1600000 in
theorem match_33 (a : Option Addr) (l : List Int) (c i : Nat) (w : World) (H : Bytes w a l) (h : l.length = 32) (hi : i < 32) :
    Calls Try.prog 33 #[.slice a 32 c, .int .i64 i] w fun e w' => e = .returned (.tuple #[.int .i64 (matchL l i).1, .int .i64 (matchL l i).2]) ∧ Below w.heap.size w w' := by
  go_enter Try.func33, Try.ntmps33
  go_wp2
  go_loopw [6, 7, 8] (fun x y z wr => ∃ o m p : Nat, x = .int .i64 m ∧ y = .int .i64 p ∧ z = .int .i64 ((o : Int) + 1) ∧ o ≤ i ∧ best l i o = (m, p) ∧ Below w.heap.size w wr) (fun _ _ z _ => 33 - (intOf z).toNat)
  case atStart => exact ⟨0, 0, 0, rfl, rfl, rfl, by omega, rfl, (by repeat (first | with_reducible exact Below.refl _ _ | with_reducible assumption | with_reducible refine below_alloc ?_ _ | with_reducible refine Below.setCell ?_ (by first | exact Nat.le_refl _ | (simp; done) | (simp; omega)) _ | with_reducible refine Below.drew ?_ | with_reducible refine below_drewN ?_ _ | with_reducible refine below_then ?_ (by with_reducible assumption)))⟩
  case round =>
    obtain ⟨o, m, p, rfl, rfl, rfl, hoi, hb, hB⟩ := hrel
    have hbb := best_bound h hi o
    rw [hb] at hbb
    by_cases h1 : o < i
    · have hl1 := lenAt_le (l := l) (i := i) (o := o + 1) (by omega)
      obtain ⟨k, hk⟩ : ∃ k, k = lenAt l i (o + 1) := ⟨_, rfl⟩
      rw [← hk] at hl1
      have hs := best_succ l i o
      rw [hb, ← hk] at hs
      have HQ := Lib.hid (show ((o : Int) + 1) = ((o + 1 : Nat) : Int) by omega)
      have HB := Lib.hid hb
      have HK := Lib.hid hk
      by_cases h2 : m < k
      · rw [if_pos h2] at hs
        have HS := Lib.hid hs; clear hs hb hk
        go_wp2_with (go_at_call 36; rw [HQ.out]; refine (length_any a l c i (o + 1) _ (H.below hB) h (by omega) (by omega) hi).mono ?_; rintro e w1 ⟨rfl, hb2⟩; rw [← HK.out])
        go_roundw
        case rel => exact ⟨o + 1, k, o + 1, rfl, by go_num, by go_num, by omega, HS.out, below_then hB hb2⟩
        case measure => simp [intOf]; omega
      · rw [if_neg h2] at hs
        have HS := Lib.hid hs; clear hs hb hk
        go_wp2_with (go_at_call 36; rw [HQ.out]; refine (length_any a l c i (o + 1) _ (H.below hB) h (by omega) (by omega) hi).mono ?_; rintro e w1 ⟨rfl, hb2⟩; rw [← HK.out])
        go_roundw
        case rel => exact ⟨o + 1, m, p, rfl, rfl, by go_num, by omega, HS.out, below_then hB hb2⟩
        case measure => simp [intOf]; omega
    · obtain rfl : o = i := by omega
      go_wp2
      go_ret2
      unfold matchL
      rw [hb]
      exact ⟨rfl, hB⟩
end Go.Proofs.Ytaapgfhcnfaemaa
