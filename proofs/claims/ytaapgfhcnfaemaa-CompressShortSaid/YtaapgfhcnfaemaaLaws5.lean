/- The walk of the law on the length of encodings. -/
import Derived.Test.YtaapgfhcnfaemaaLaws2
import Derived.Test.YtaapgfhcnfaemaaPure3
namespace Go.Proofs.Ytaapgfhcnfaemaa
open Go.RowKit Go.Over Go.Zip Go.Seg
set_option maxRecDepth 100000 in set_option maxHeartbeats 1600000 in
theorem law_short (l : List Int) (hl : l.length = 32) (hb : ∀ x ∈ l, 0 ≤ x ∧ x ≤ 255) (cs : Array Value) (hcs : cs = (l.map (Value.int .u8)).toArray) (w : World) :
    Calls Try.prog 6 #[.agg cs] w fun e w' => e = .returned (.bool true) ∧ Below w.heap.size w w' := by
  obtain ⟨w0, hw0⟩ : ∃ w0, w0 = w.alloc (.cells cs 29) := ⟨_, rfl⟩
  have HB := bytes_box w 29 l cs hcs (by omega) hb
  have hb0 : Below w.heap.size w w0 := by rw [hw0]; exact below_alloc (Below.refl _ _) _
  have hsz : w.heap.size < w0.heap.size := by rw [hw0]; simp
  rw [← hw0] at HB
  obtain ⟨q, hq⟩ : ∃ q, (packL l).length = q := ⟨_, rfl⟩
  obtain ⟨r, hr⟩ : ∃ r, chg l 31 = r := ⟨_, rfl⟩
  obtain ⟨y, hy⟩ : ∃ y, (if fullB l = true then Zip.get l 0 else 0) = y := ⟨_, rfl⟩
  have hF := full_chg hl
  have hP := pack_short hl
  have hr31 : r ≤ 31 := by
    rw [← hr]
    have : ∀ k, chg l k ≤ k := by
      intro k
      induction k with
      | zero => exact Nat.le_refl _
      | succ k ih => simp only [chg]; split <;> omega
    exact this 31
  rw [hr] at hF
  rw [hq, hr] at hP
  have hq1 := hP.1
  have hq2 : (decide (q = 2) == decide (r = 0)) = true := by
    rw [beq_iff_eq, Bool.eq_iff_iff, decide_eq_true_eq, decide_eq_true_eq]; exact hP.2
  have HQ := Lib.hid hq; have HL := Lib.hid hl; have HR := Lib.hid hr; have HY := Lib.hid hy; have HF := Lib.hid hF; have HW := Lib.hid hw0; have HQ2 := Lib.hid hP.2
  clear hl hq hcs hb hr hF hP hy hw0 hq2
  go_enter Try.func6, Try.ntmps6
  go_wp2
  rw [← HW.out]
  clear HW
  go_loopg [3, 4] 31 (fun g r0 i0 wr => ∃ (j k : Nat), j + g = 32 ∧ 1 ≤ j ∧ k = 1 + chg l (j - 1) ∧ k ≤ j ∧ r0 = .int .i64 k ∧ i0 = .int .i64 j ∧ Below w0.heap.size w0 wr)
  case atStart => exact ⟨1, 1, by omega, by omega, rfl, by omega, rfl, rfl, Below.refl _ _⟩
  case round =>
    obtain ⟨j, k, hjg, hj1, hk, hkj, rfl, rfl, hbr⟩ := hrel
    cases gk with
    | succ g =>
      have hj : j < 32 := by omega
      obtain ⟨b', off', hab, hcell⟩ := (HB.below hbr).2.1 (by rw [HL.out]; decide)
      cases hab
      have c1 := hcell j (by rw [HL.out]; exact hj)
      have c2 := hcell (j - 1) (by rw [HL.out]; omega)
      rw [Nat.zero_add] at c1 c2
      have e1 : (j : Int) - 1 = ((j - 1 : Nat) : Int) := by omega
      have hch : chg l j = chg l (j - 1) + if get l j = get l (j - 1) then 0 else 1 := by
        obtain ⟨i, rfl⟩ : ∃ i, j = i + 1 := ⟨j - 1, by omega⟩
        rfl
      have HJ := Lib.hid hjg; have HK := Lib.hid hk; clear hjg hk hcell
      by_cases hc : get l j = get l (j - 1)
      · rw [if_pos hc] at hch
        have HC := Lib.hid hch
        have t1 : (get l j != get l (j - 1)) = false := by simp [hc]
        clear hch hc
        go_wp2
        go_quiet (fail)
        clear e1
        go_wp2
        go_roundg g
        case rel => exact ⟨j + 1, k, by have := HJ.out; omega, by omega, by rw [HK.out, Nat.add_sub_cancel, HC.out]; rfl, by omega, rfl, by go_num, below_drewN hbr _⟩
        case measure => omega
      · rw [if_neg hc] at hch
        have HC := Lib.hid hch
        have t1 : (get l j != get l (j - 1)) = true := by simp [hc]
        clear hch hc
        go_wp2
        go_quiet (fail)
        clear e1
        go_wp2
        go_roundg g
        case rel => exact ⟨j + 1, k + 1, by have := HJ.out; omega, by omega, by rw [HK.out, Nat.add_sub_cancel, HC.out]; omega, by omega, by go_num, by go_num, below_drewN hbr _⟩
        case measure => omega
    | zero =>
      obtain rfl : j = 32 := by omega
      have hkr : k = r + 1 := by
        have := HR.out
        rw [hk, show 32 - 1 = 31 from rfl, this]; omega
      subst hkr
      clear hk hjg hj1
      go_wp2_with fail
      refine (pack_any_12 _ l 32 _ (HB.below hbr) HL.out (by decide) (by unfold maxLen; omega)).mono ?_
      rintro e w2 ⟨v, rfl, hN, b2⟩
      obtain ⟨a2, c2, rfl, g2, m2, _⟩ := hN.open HQ.out
      clear hN
      go_wp2_with fail
      refine (filled_32 _ l 32 _ (HB.below (below_then hbr b2)) HL.out (by decide) (by unfold maxLen; omega)).mono ?_
      rintro e w3 ⟨rfl, b3⟩
      rw [HY.out, HF.out]
      have hB3 : Below w.heap.size w w3 := below_then hb0 (below_then (below_then hbr b2) b3)
      clear hbr b2 b3 hb0
      have hrq := HQ2.out
      have hq5 : q ≤ 1 + 2 * (1 + r) := hq1
      have i1 : IntKind.i64.wrap (2 * ((r : Int) + 1)) = 2 * ((r : Int) + 1) := IntWalk.i64_in _ (by omega)
      by_cases h0 : r = 0
      · subst h0
        have hq2 : q = 2 := hrq.2 rfl
        subst hq2
        clear hrq i1
        go_wp2_with (go_at_call 11; refine (awake_any _).mono ?_; rintro e w' ⟨rfl, hz⟩)
        go_ret
        exact ⟨rfl, (by repeat (first | with_reducible exact Below.refl _ _ | with_reducible assumption | with_reducible refine below_alloc ?_ _ | with_reducible refine Below.drew ?_ | with_reducible refine below_drewN ?_ _ | with_reducible refine below_then ?_ (by with_reducible assumption)))⟩
      · have hq2 : ((q : Int) == 2) = false := by simp; omega
        have hr1 : ((r : Int) + 1 == 1) = false := by simp; omega
        have hr2 : decide (r = 0) = false := by simp; omega
        have hle : decide ((q : Int) ≤ 1 + 2 * ((r : Int) + 1)) = true := by simp; omega
        rw [hr2]
        clear hrq h0 hq1 hr2
        go_wp2_with (go_at_call 11; refine (awake_any _).mono ?_; rintro e w' ⟨rfl, hz⟩)
        go_ret
        exact ⟨rfl, (by repeat (first | with_reducible exact Below.refl _ _ | with_reducible assumption | with_reducible refine below_alloc ?_ _ | with_reducible refine Below.drew ?_ | with_reducible refine below_drewN ?_ _ | with_reducible refine below_then ?_ (by with_reducible assumption)))⟩
end Go.Proofs.Ytaapgfhcnfaemaa
