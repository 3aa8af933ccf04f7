/- Walks: the number of choices; a new device; of both. -/
import Derived.Test.YtlhbjmoncdljoaaD10
namespace Go.Dev
def newD (dp : Int) (bl : List (List Int)) : D × Int := if chk ⟨dp, 0, bl, [], []⟩ = 0 then (⟨dp, 0, bl, [], []⟩, 0) else (zero, chk ⟨dp, 0, bl, [], []⟩)
theorem newD_no {dp : Int} {bl : List (List Int)} {R : Int} (h : chk ⟨dp, 0, bl, [], []⟩ = R) (h0 : R ≠ 0) : newD dp bl = (zero, R) := by unfold newD; rw [if_neg (by rw [h]; exact h0), h]
theorem newD_yes {dp : Int} {bl : List (List Int)} (h : chk ⟨dp, 0, bl, [], []⟩ = 0) : newD dp bl = (⟨dp, 0, bl, [], []⟩, 0) := by unfold newD; rw [if_pos h]
end Go.Dev
namespace Go.Proofs.Ytlhbjmoncdljoaa
open Go.RowKit Go.Over Go.Dev Go.Seg Go.Grow

set_option maxRecDepth 100000 in set_option maxHeartbeats 3200000 in
theorem choices_20 (dp nx : Int) (aB aC aQ : Option Addr) (bl : List (List Int)) (ca : List Ca) (qu : List Rq) (nB cB nC cC nQ cQ : Nat) (w : World) (HB : Bls w aB bl) (HC : Cas w aC ca) (HQ : Rqs w aQ qu) (hB : bl.length = nB) (hC : ca.length = nC) (hQ : qu.length = nQ) (mB : nB ≤ 1000000) (mC : nC ≤ 1000000) (mQ : nQ ≤ 1000000) :
    Calls Try.prog 20 #[.agg #[.int .i64 dp, .int .i64 nx, .slice aB nB cB, .slice aC nC cC, .slice aQ nQ cQ]] w fun e w' => e = .returned (.int .i64 (chN ⟨dp, nx, bl, ca, qu⟩)) ∧ Below w.heap.size w w' := by
  have B1 := below_box w (.cells #[.int .i64 dp, .int .i64 nx, .slice aB nB cB, .slice aC nC cC, .slice aQ nQ cQ] 26)
  have z0 : (w.alloc (.cells #[.int .i64 dp, .int .i64 nx, .slice aB nB cB, .slice aC nC cC, .slice aQ nQ cQ] 26)).cell? ⟨w.heap.size, 0, none⟩ = some (.int .i64 dp) := zcell w _ _ 0
  have z1 : (w.alloc (.cells #[.int .i64 dp, .int .i64 nx, .slice aB nB cB, .slice aC nC cC, .slice aQ nQ cQ] 26)).cell? ⟨w.heap.size, 1, none⟩ = some (.int .i64 nx) := zcell w _ _ 1
  have z2 : (w.alloc (.cells #[.int .i64 dp, .int .i64 nx, .slice aB nB cB, .slice aC nC cC, .slice aQ nQ cQ] 26)).cell? ⟨w.heap.size, 2, none⟩ = some (.slice aB nB cB) := zcell w _ _ 2
  have z3 : (w.alloc (.cells #[.int .i64 dp, .int .i64 nx, .slice aB nB cB, .slice aC nC cC, .slice aQ nQ cQ] 26)).cell? ⟨w.heap.size, 3, none⟩ = some (.slice aC nC cC) := zcell w _ _ 3
  have z4 : (w.alloc (.cells #[.int .i64 dp, .int .i64 nx, .slice aB nB cB, .slice aC nC cC, .slice aQ nQ cQ] 26)).cell? ⟨w.heap.size, 4, none⟩ = some (.slice aQ nQ cQ) := zcell w _ _ 4
  obtain ⟨w1, hw1⟩ : ∃ W, W = w.alloc (.cells #[.int .i64 dp, .int .i64 nx, .slice aB nB cB, .slice aC nC cC, .slice aQ nQ cQ] 26) := ⟨_, rfl⟩
  have hsz1 : w.heap.size < w1.heap.size := by rw [hw1]; simp
  rw [← hw1] at B1 z0 z1 z2 z3 z4
  have Z0 := Lib.hid z0
  have Z1 := Lib.hid z1
  have Z2 := Lib.hid z2
  have Z3 := Lib.hid z3
  have Z4 := Lib.hid z4
  have GB := HB.below B1
  have GC := HC.below B1
  have GQ := HQ.below B1
  have NB := Lib.hid hB; have NC := Lib.hid hC; have NQ := Lib.hid hQ; have HW := Lib.hid hw1
  clear hw1
  obtain ⟨R, hR⟩ : ∃ R, chk ⟨dp, nx, bl, ca, qu⟩ = R := ⟨_, rfl⟩
  by_cases h0 : R = 0
  · subst h0
    rw [chN_yes hR]
    simp only [hC]
    obtain ⟨N, hN⟩ : ∃ N, wrN qu = N := ⟨_, rfl⟩
    have hNQ : N ≤ nQ := by rw [← hN, ← hQ]; exact wrN_le _
    rw [hN]
    have HN := Lib.hid hN
    have HR := Lib.hid hR
    clear hR hB hC hQ z0 z1 z2 z3 z4 hN
    go_enter Try.func20, Try.ntmps20
    go_wp2_with fail
    rw [← HW.out]
    clear HW
    refine (check_13 dp nx aB aC aQ bl ca qu nB cB nC cC nQ cQ w1 GB GC GQ NB.out NC.out NQ.out mB mC mQ).mono ?_
    rintro e w2 ⟨rfl, hb2⟩
    rw [HR.out]
    have y3 := cell_later hb2 Z3.out
    have y4 := cell_later hb2 Z4.out
    go_wp2
    go_loopg [3, 15] nQ (fun g n0 i0 wr => ∃ (i m : Nat), i + g = nQ ∧ n0 = .int .i64 ((nC + m : Nat) : Int) ∧ i0 = .int .i64 i ∧ m + wrN (qu.drop i) = N ∧ Below w1.heap.size w1 wr)
    case atStart => exact ⟨0, 0, by omega, rfl, rfl, by rw [Nat.zero_add]; exact HN.out, hb2⟩
    case round =>
      clear y3 y4 hb2
      obtain ⟨i, m, hg, rfl, rfl, hE, hb⟩ := hrel
      have y4 := cell_later hb Z4.out
      cases gk with
      | zero =>
        obtain rfl : i = nQ := by omega
        have H1 := Lib.hid (show m = N by rw [List.drop_eq_nil_of_le (by rw [NQ.out]; exact Nat.le_refl _)] at hE; exact hE)
        clear hg hE
        go_wp2
        go_ret
        exact ⟨by rw [← H1.out]; rfl, below_then B1 hb⟩
      | succ g =>
        have hin : i < nQ := by omega
        obtain ⟨⟨q1, q2, q3, s⟩, hs⟩ := get_some NQ.out hin
        obtain ⟨b, off, rfl, hc⟩ := (GQ.below hb) (by rw [NQ.out]; omega)
        obtain ⟨s1, s2, s3, a', c', s0, _⟩ := hc i _ hs
        rw [wrN_step hs] at hE
        simp only at hE
        have HG := Lib.hid hg; have HE := Lib.hid hE
        have hmle : m + wrN (qu.drop (i + 1)) ≤ N := by split at hE <;> omega
        clear hc hs hg hE
        by_cases hq : q2 = 2
        · have H1 := Lib.hid (show m + 1 + wrN (qu.drop (i + 1)) = N by have := HE.out; rw [if_pos hq] at this; omega)
          have t1 : (q2 == 2) = true := by simpa using hq
          subst hq
          go_wp2
          go_roundg g
          case rel => exact ⟨i + 1, m + 1, by have := HG.out; omega, by go_num, by go_num, H1.out, below_alloc hb _⟩
          case measure => omega
        · have H1 := Lib.hid (show m + wrN (qu.drop (i + 1)) = N by have := HE.out; rw [if_neg hq] at this; omega)
          have t1 : (q2 == 2) = false := by simpa using hq
          go_wp2
          go_roundg g
          case rel => exact ⟨i + 1, m, by have := HG.out; omega, by go_num, by go_num, H1.out, below_alloc hb _⟩
          case measure => omega
  · have t0 : (R != 0) = true := by simpa using h0
    rw [chN_no (by rw [hR]; exact h0)]
    have HR := Lib.hid hR
    clear hR hB hC hQ z0 z1 z2 z3 z4
    go_enter Try.func20, Try.ntmps20
    go_wp2_with fail
    rw [← HW.out]
    clear HW
    refine (check_13 dp nx aB aC aQ bl ca qu nB cB nC cC nQ cQ w1 GB GC GQ NB.out NC.out NQ.out mB mC mQ).mono ?_
    rintro e w2 ⟨rfl, hb2⟩
    rw [HR.out]
    go_wp2
    go_ret
    exact ⟨rfl, below_then B1 hb2⟩
set_option maxRecDepth 100000 in set_option maxHeartbeats 3200000 in
theorem choices_21 (dp nx : Int) (aB aC aQ : Option Addr) (bl : List (List Int)) (ca : List Ca) (qu : List Rq) (nB cB nC cC nQ cQ : Nat) (w : World) (HB : Bls w aB bl) (HC : Cas w aC ca) (HQ : Rqs w aQ qu) (hB : bl.length = nB) (hC : ca.length = nC) (hQ : qu.length = nQ) (mB : nB ≤ 1000000) (mC : nC ≤ 1000000) (mQ : nQ ≤ 1000000) :
    Calls Try.prog 21 #[.agg #[.int .i64 dp, .int .i64 nx, .slice aB nB cB, .slice aC nC cC, .slice aQ nQ cQ]] w fun e w' => e = .returned (.int .i64 (chN ⟨dp, nx, bl, ca, qu⟩)) ∧ Below w.heap.size w w' := by
  have B1 := below_box w (.cells #[.int .i64 dp, .int .i64 nx, .slice aB nB cB, .slice aC nC cC, .slice aQ nQ cQ] 26)
  have z0 : (w.alloc (.cells #[.int .i64 dp, .int .i64 nx, .slice aB nB cB, .slice aC nC cC, .slice aQ nQ cQ] 26)).cell? ⟨w.heap.size, 0, none⟩ = some (.int .i64 dp) := zcell w _ _ 0
  have z1 : (w.alloc (.cells #[.int .i64 dp, .int .i64 nx, .slice aB nB cB, .slice aC nC cC, .slice aQ nQ cQ] 26)).cell? ⟨w.heap.size, 1, none⟩ = some (.int .i64 nx) := zcell w _ _ 1
  have z2 : (w.alloc (.cells #[.int .i64 dp, .int .i64 nx, .slice aB nB cB, .slice aC nC cC, .slice aQ nQ cQ] 26)).cell? ⟨w.heap.size, 2, none⟩ = some (.slice aB nB cB) := zcell w _ _ 2
  have z3 : (w.alloc (.cells #[.int .i64 dp, .int .i64 nx, .slice aB nB cB, .slice aC nC cC, .slice aQ nQ cQ] 26)).cell? ⟨w.heap.size, 3, none⟩ = some (.slice aC nC cC) := zcell w _ _ 3
  have z4 : (w.alloc (.cells #[.int .i64 dp, .int .i64 nx, .slice aB nB cB, .slice aC nC cC, .slice aQ nQ cQ] 26)).cell? ⟨w.heap.size, 4, none⟩ = some (.slice aQ nQ cQ) := zcell w _ _ 4
  obtain ⟨w1, hw1⟩ : ∃ W, W = w.alloc (.cells #[.int .i64 dp, .int .i64 nx, .slice aB nB cB, .slice aC nC cC, .slice aQ nQ cQ] 26) := ⟨_, rfl⟩
  have hsz1 : w.heap.size < w1.heap.size := by rw [hw1]; simp
  rw [← hw1] at B1 z0 z1 z2 z3 z4
  have Z0 := Lib.hid z0
  have Z1 := Lib.hid z1
  have Z2 := Lib.hid z2
  have Z3 := Lib.hid z3
  have Z4 := Lib.hid z4
  have GB := HB.below B1
  have GC := HC.below B1
  have GQ := HQ.below B1
  have NB := Lib.hid hB; have NC := Lib.hid hC; have NQ := Lib.hid hQ; have HW := Lib.hid hw1
  clear hw1
  obtain ⟨R, hR⟩ : ∃ R, chk ⟨dp, nx, bl, ca, qu⟩ = R := ⟨_, rfl⟩
  by_cases h0 : R = 0
  · subst h0
    rw [chN_yes hR]
    simp only [hC]
    obtain ⟨N, hN⟩ : ∃ N, wrN qu = N := ⟨_, rfl⟩
    have hNQ : N ≤ nQ := by rw [← hN, ← hQ]; exact wrN_le _
    rw [hN]
    have HN := Lib.hid hN
    have HR := Lib.hid hR
    clear hR hB hC hQ z0 z1 z2 z3 z4 hN
    go_enter Try.func21, Try.ntmps21
    go_wp2_with fail
    rw [← HW.out]
    clear HW
    refine (check_14 dp nx aB aC aQ bl ca qu nB cB nC cC nQ cQ w1 GB GC GQ NB.out NC.out NQ.out mB mC mQ).mono ?_
    rintro e w2 ⟨rfl, hb2⟩
    rw [HR.out]
    have y3 := cell_later hb2 Z3.out
    have y4 := cell_later hb2 Z4.out
    go_wp2
    go_loopg [3, 4] nQ (fun g n0 i0 wr => ∃ (i m : Nat), i + g = nQ ∧ n0 = .int .i64 ((nC + m : Nat) : Int) ∧ i0 = .int .i64 i ∧ m + wrN (qu.drop i) = N ∧ Below w1.heap.size w1 wr)
    case atStart => exact ⟨0, 0, by omega, rfl, rfl, by rw [Nat.zero_add]; exact HN.out, hb2⟩
    case round =>
      clear y3 y4 hb2
      obtain ⟨i, m, hg, rfl, rfl, hE, hb⟩ := hrel
      have y4 := cell_later hb Z4.out
      cases gk with
      | zero =>
        obtain rfl : i = nQ := by omega
        have H1 := Lib.hid (show m = N by rw [List.drop_eq_nil_of_le (by rw [NQ.out]; exact Nat.le_refl _)] at hE; exact hE)
        clear hg hE
        go_wp2
        go_ret
        exact ⟨by rw [← H1.out]; rfl, below_then B1 hb⟩
      | succ g =>
        have hin : i < nQ := by omega
        obtain ⟨⟨q1, q2, q3, s⟩, hs⟩ := get_some NQ.out hin
        obtain ⟨b, off, rfl, hc⟩ := (GQ.below hb) (by rw [NQ.out]; omega)
        obtain ⟨s1, s2, s3, a', c', s0, _⟩ := hc i _ hs
        rw [wrN_step hs] at hE
        simp only at hE
        have HG := Lib.hid hg; have HE := Lib.hid hE
        have hmle : m + wrN (qu.drop (i + 1)) ≤ N := by split at hE <;> omega
        clear hc hs hg hE
        by_cases hq : q2 = 2
        · have H1 := Lib.hid (show m + 1 + wrN (qu.drop (i + 1)) = N by have := HE.out; rw [if_pos hq] at this; omega)
          have t1 : (q2 == 2) = true := by simpa using hq
          subst hq
          go_wp2
          go_roundg g
          case rel => exact ⟨i + 1, m + 1, by have := HG.out; omega, by go_num, by go_num, H1.out, hb⟩
          case measure => omega
        · have H1 := Lib.hid (show m + wrN (qu.drop (i + 1)) = N by have := HE.out; rw [if_neg hq] at this; omega)
          have t1 : (q2 == 2) = false := by simpa using hq
          go_wp2
          go_roundg g
          case rel => exact ⟨i + 1, m, by have := HG.out; omega, by go_num, by go_num, H1.out, hb⟩
          case measure => omega
  · have t0 : (R != 0) = true := by simpa using h0
    rw [chN_no (by rw [hR]; exact h0)]
    have HR := Lib.hid hR
    clear hR hB hC hQ z0 z1 z2 z3 z4
    go_enter Try.func21, Try.ntmps21
    go_wp2_with fail
    rw [← HW.out]
    clear HW
    refine (check_14 dp nx aB aC aQ bl ca qu nB cB nC cC nQ cQ w1 GB GC GQ NB.out NC.out NQ.out mB mC mQ).mono ?_
    rintro e w2 ⟨rfl, hb2⟩
    rw [HR.out]
    go_wp2
    go_ret
    exact ⟨rfl, below_then B1 hb2⟩
/-- The results of a function whose first result is a device in a cell. -/
theorem results_cell_one {fn : Func} {p q : Tmp} (h : fn.results = #[.cell p 26, .tmp q]) (tmps : Array Value) (w : World) (g : Nat) (x1 x2 x3 x4 x5 v : Value)
    (hp : tmps.getD p undef = .pointer (some ⟨g, 0, none⟩)) (hg : Blk w g 26 [x1, x2, x3, x4, x5]) (hv : tmps.getD q undef = v) :
    (results fn tmps).run Try.prog w = .ok (.tuple #[.agg #[x1, x2, x3, x4, x5], v]) w := by
  have hp' : tmps[p]?.getD undef = .pointer (some ⟨g, 0, none⟩) := by simpa using hp
  have hv' : tmps[q]?.getD undef = v := by simpa using hv
  have hl := run_loadVar_row (P := Try.prog) w g 26 26 #[x1, x2, x3, x4, x5] (0, 0) _ hg Try.underlying26 rfl (by kernel_rfl)
  simp [results, h, hp', hv', asAddr, hl]
theorem results_cell_two {fn : Func} {p q r : Tmp} (h : fn.results = #[.cell p 26, .tmp q, .tmp r]) (tmps : Array Value) (w : World) (g : Nat) (x1 x2 x3 x4 x5 v z : Value)
    (hp : tmps.getD p undef = .pointer (some ⟨g, 0, none⟩)) (hg : Blk w g 26 [x1, x2, x3, x4, x5]) (hv : tmps.getD q undef = v) (hz : tmps.getD r undef = z) :
    (results fn tmps).run Try.prog w = .ok (.tuple #[.agg #[x1, x2, x3, x4, x5], v, z]) w := by
  have hp' : tmps[p]?.getD undef = .pointer (some ⟨g, 0, none⟩) := by simpa using hp
  have hv' : tmps[q]?.getD undef = v := by simpa using hv
  have hz' : tmps[r]?.getD undef = z := by simpa using hz
  have hl := run_loadVar_row (P := Try.prog) w g 26 26 #[x1, x2, x3, x4, x5] (0, 0) _ hg Try.underlying26 rfl (by kernel_rfl)
  simp [results, h, hp', hv', hz', asAddr, hl]
theorem results_cell_cell {fn : Func} {p q r : Tmp} (h : fn.results = #[.cell p 26, .cell q 39, .tmp r]) (tmps : Array Value) (w : World) (g g' : Nat) (x1 x2 x3 x4 x5 y1 y2 y3 y4 z : Value)
    (hp : tmps.getD p undef = .pointer (some ⟨g, 0, none⟩)) (hg : Blk w g 26 [x1, x2, x3, x4, x5]) (hq : tmps.getD q undef = .pointer (some ⟨g', 0, none⟩)) (hg' : Blk w g' 39 [y1, y2, y3, y4]) (hz : tmps.getD r undef = z) :
    (results fn tmps).run Try.prog w = .ok (.tuple #[.agg #[x1, x2, x3, x4, x5], .agg #[y1, y2, y3, y4], z]) w := by
  have hp' : tmps[p]?.getD undef = .pointer (some ⟨g, 0, none⟩) := by simpa using hp
  have hq' : tmps[q]?.getD undef = .pointer (some ⟨g', 0, none⟩) := by simpa using hq
  have hz' : tmps[r]?.getD undef = z := by simpa using hz
  have hl := run_loadVar_row (P := Try.prog) w g 26 26 #[x1, x2, x3, x4, x5] (0, 0) _ hg Try.underlying26 rfl (by kernel_rfl)
  have hl' := run_loadVar_row (P := Try.prog) w g' 39 39 #[y1, y2, y3, y4] (0, 0) _ hg' Try.underlying39 rfl (by kernel_rfl)
  simp [results, h, hp', hq', hz', asAddr, hl, hl']
theorem OwnD.zero (w : World) (B : Nat) : OwnD w B (.agg #[.int .i64 0, .int .i64 0, .slice none 0 0, .slice none 0 0, .slice none 0 0]) Dev.zero := ⟨_, _, _, rfl, Row.nil _ _, Row.nil _ _, Row.nil _ _⟩
theorem bls_nil (w : World) : Bls w none [] := fun h => absurd h (by simp)
theorem cas_nil (w : World) : Cas w none [] := fun h => absurd h (by simp)
theorem rqs_nil (w : World) : Rqs w none [] := fun h => absurd h (by simp)
/-- All five cells of a device's cell are written. -/
theorem OwnD.cells {w : World} {B : Nat} {v : Value} {d : D} (h : OwnD w B v d) : ∃ VB VC VQ aB cB aC cC aQ cQ, v = .agg #[.int .i64 d.dp, .int .i64 d.nx, VB, VC, VQ] ∧ VB = .slice aB d.bl.length cB ∧ VC = .slice aC d.ca.length cC ∧ VQ = .slice aQ d.qu.length cQ ∧ Row 31 1 RB w B VB d.bl ∧ Row 64 2 RC w B VC d.ca ∧ Row 39 4 RQ w B VQ d.qu := by
  obtain ⟨VB, VC, VQ, rfl, h1, h2, h3⟩ := h
  obtain ⟨aB, cB, e1, _⟩ := h1.form rfl
  obtain ⟨aC, cC, e2, _⟩ := h2.form rfl
  obtain ⟨aQ, cQ, e3, _⟩ := h3.form rfl
  exact ⟨_, _, _, aB, cB, aC, cC, aQ, cQ, rfl, e1, e2, e3, h1, h2, h3⟩
theorem set5 {w : World} {g : Nat} {y1 y2 y3 y4 y5 : Value} (h : Blk w g 26 [y1, y2, y3, y4, y5]) (x1 x2 x3 x4 x5 : Value) : Blk (((((w.setCell ⟨g, 0, none⟩ x1).setCell ⟨g, 1, none⟩ x2).setCell ⟨g, 2, none⟩ x3).setCell ⟨g, 3, none⟩ x4).setCell ⟨g, 4, none⟩ x5) g 26 [x1, x2, x3, x4, x5] :=
  ((((h.set 0 x1).set 1 x2).set 2 x3).set 3 x4).set 4 x5
theorem far5 {α : Type} {e size B : Nat} {R : World → List Value → α → Prop} {V : Value} {l : List α} (E : Ent size R) {w : World} {g : Nat} {y1 y2 y3 y4 y5 : Value} (hr : Row e size R w B V l) (h : Blk w g 26 [y1, y2, y3, y4, y5]) (he : 26 ≠ e) (x1 x2 x3 x4 x5 : Value) : Row e size R (((((w.setCell ⟨g, 0, none⟩ x1).setCell ⟨g, 1, none⟩ x2).setCell ⟨g, 2, none⟩ x3).setCell ⟨g, 3, none⟩ x4).setCell ⟨g, 4, none⟩ x5) B V l :=
  ((((hr.far E h he (by decide) 0 _).far E (h.set 0 x1) he (by decide) 1 _).far E ((h.set 0 x1).set 1 x2) he (by decide) 2 _).far E (((h.set 0 x1).set 1 x2).set 2 x3) he (by decide) 3 _).far E ((((h.set 0 x1).set 1 x2).set 2 x3).set 3 x4) he (by decide) 4 _
theorem k5_5 {w : World} {g : Nat} {y1 y2 y3 y4 y5 : Value} (h : Blk w g 26 [y1, y2, y3, y4, y5]) (x1 x2 x3 x4 x5 : Value) : K5 w (((((w.setCell ⟨g, 0, none⟩ x1).setCell ⟨g, 1, none⟩ x2).setCell ⟨g, 2, none⟩ x3).setCell ⟨g, 3, none⟩ x4).setCell ⟨g, 4, none⟩ x5) :=
  ((((K5.set h (by decide) 0 x1).trans (K5.set (h.set 0 x1) (by decide) 1 x2)).trans (K5.set ((h.set 0 x1).set 1 x2) (by decide) 2 x3)).trans (K5.set (((h.set 0 x1).set 1 x2).set 2 x3) (by decide) 3 x4)).trans (K5.set ((((h.set 0 x1).set 1 x2).set 2 x3).set 3 x4) (by decide) 4 x5)
theorem below5 {B : Nat} {w0 w : World} {g : Nat} (h : Below B w0 w) (hg : B ≤ g) (x1 x2 x3 x4 x5 : Value) : Below B w0 (((((w.setCell ⟨g, 0, none⟩ x1).setCell ⟨g, 1, none⟩ x2).setCell ⟨g, 2, none⟩ x3).setCell ⟨g, 3, none⟩ x4).setCell ⟨g, 4, none⟩ x5) :=
  ((((h.setCell hg _).setCell hg _).setCell hg _).setCell hg _).setCell hg _
theorem own5 {w : World} {g B : Nat} {y1 y2 y3 y4 y5 VB VC VQ : Value} {d : D} (h : Blk w g 26 [y1, y2, y3, y4, y5]) (hB : Row 31 1 RB w B VB d.bl) (hC : Row 64 2 RC w B VC d.ca) (hQ : Row 39 4 RQ w B VQ d.qu) (x1 x2 x3 x4 x5 : Value) :
    OwnD (((((w.setCell ⟨g, 0, none⟩ x1).setCell ⟨g, 1, none⟩ x2).setCell ⟨g, 2, none⟩ x3).setCell ⟨g, 3, none⟩ x4).setCell ⟨g, 4, none⟩ x5) B (.agg #[.int .i64 d.dp, .int .i64 d.nx, VB, VC, VQ]) d :=
  ⟨_, _, _, rfl, far5 EB hB h (by decide) .., far5 EC hC h (by decide) .., far5 EQ hQ h (by decide) ..⟩
/-- What a call that makes a device gives. -/
def DevAns (p : D × Int) (w : World) (e : Ending) (w' : World) : Prop := ∃ v, e = .returned (.tuple #[v, .int .i64 p.2]) ∧ OwnD w' w.heap.size v p.1 ∧ Below w.heap.size w w'
theorem OwnD.later {w w' : World} {B : Nat} {v : Value} {d : D} (h : OwnD w B v d) (hb : Below w.heap.size w w') : OwnD w' B v d := by
  obtain ⟨VB, VC, VQ, rfl, h1, h2, h3⟩ := h
  exact ⟨_, _, _, rfl, h1.later EB hb, h2.later EC hb, h3.later EQ hb⟩
theorem OwnD.weaken {w : World} {B B' : Nat} {v : Value} {d : D} (h : OwnD w B v d) (hb : B' ≤ B) : OwnD w B' v d := by
  obtain ⟨VB, VC, VQ, rfl, h1, h2, h3⟩ := h
  exact ⟨_, _, _, rfl, h1.weaken hb, h2.weaken hb, h3.weaken hb⟩
set_option maxRecDepth 100000 in set_option maxHeartbeats 3200000 in
theorem new_22 (dp : Int) (aB : Option Addr) (bl : List (List Int)) (nB cB : Nat) (w : World) (HB : Bls w aB bl) (hB : bl.length = nB) (mB : nB ≤ 1000000) :
    Calls Try.prog 22 #[.int .i64 dp, .slice aB nB cB] w (DevAns (newD dp bl) w) := by
  subst hB
  obtain ⟨R, hR⟩ : ∃ R, chk ⟨dp, 0, bl, [], []⟩ = R := ⟨_, rfl⟩
  have hA : Blk (w.alloc (.cells #[.int .i64 0, .int .i64 0, .slice none 0 0, .slice none 0 0, .slice none 0 0] 26)) w.heap.size 26 zD := Blk.new w 26 _ _ rfl
  have hB' := hA.alloc (.cells #[.int .i64 dp, .int .i64 0, .slice aB bl.length cB, .slice none 0 0, .slice none 0 0] 26)
  have hb := below_alloc (below_box w (.cells #[.int .i64 0, .int .i64 0, .slice none 0 0, .slice none 0 0, .slice none 0 0] 26)) (.cells #[.int .i64 dp, .int .i64 0, .slice aB bl.length cB, .slice none 0 0, .slice none 0 0] 26)
  have hX := Blk.new (w.alloc (.cells #[.int .i64 0, .int .i64 0, .slice none 0 0, .slice none 0 0, .slice none 0 0] 26)) 26 #[.int .i64 dp, .int .i64 0, .slice aB bl.length cB, .slice none 0 0, .slice none 0 0] [.int .i64 dp, .int .i64 0, .slice aB bl.length cB, .slice none 0 0, .slice none 0 0] rfl
  obtain ⟨w1, hw1⟩ : ∃ W, W = (w.alloc (.cells #[.int .i64 0, .int .i64 0, .slice none 0 0, .slice none 0 0, .slice none 0 0] 26)).alloc (.cells #[.int .i64 dp, .int .i64 0, .slice aB bl.length cB, .slice none 0 0, .slice none 0 0] 26) := ⟨_, rfl⟩
  rw [← hw1] at hB' hb hX
  have hC := check_13 dp 0 aB none none bl [] [] bl.length cB 0 0 0 0 w1 (HB.below hb) (cas_nil _) (rqs_nil _) rfl rfl rfl mB (by omega) (by omega)
  rw [hR] at hC
  have HC := Lib.hid hC; have HW := Lib.hid hw1
  clear hC hw1 hA
  by_cases h0 : R = 0
  · subst h0
    rw [newD_yes hR]
    have O := chk_ok.1 hR
    have hcl := fun w2 (hb2 : Below w1.heap.size w1 w2) => clone_45 dp 0 aB none none bl [] [] bl.length cB 0 0 0 0 w2 (HB.below (below_then hb hb2)) (cas_nil _) (rqs_nil _) rfl rfl rfl (by have := O.b2; simp only at this; omega) (by omega) (by omega) (ok_bl O) (by simp) (by simp)
    have HL := Lib.hid hcl
    clear hcl O hR
    go_enter Try.func22, Try.ntmps22
    go_wp2_with fail
    rw [← HW.out]
    clear HW
    refine HC.out.mono ?_
    rintro e w2 ⟨rfl, hb2⟩
    have hX2 := hX.later hb2
    have x0 := hX2.cell 0
    have x1 := hX2.cell 1
    have x2 := hX2.cell 2
    have x3 := hX2.cell 3
    have x4 := hX2.cell 4
    simp only [List.getElem?_cons_zero, List.getElem?_cons_succ] at x0 x1 x2 x3 x4
    rw [show (w.alloc (.cells #[.int .i64 0, .int .i64 0, .slice none 0 0, .slice none 0 0, .slice none 0 0] 26)).heap.size = w.heap.size + 1 by simp] at x0 x1 x2 x3 x4
    go_wp2_with fail
    refine (HL.out w2 hb2).mono ?_
    rintro e w3 ⟨v, rfl, hO, hb3⟩
    obtain ⟨VB, VC, VQ, a1, k1, a2, k2, a3, k3, rfl, rfl, rfl, rfl, r1, r2, r3⟩ := hO.cells
    have hR3 := (hB'.later hb2).later hb3
    have y0 := hR3.cell 0
    have y1 := hR3.cell 1
    have y2 := hR3.cell 2
    have y3 := hR3.cell 3
    have y4 := hR3.cell 4
    have f0 := hR3.frozen 0
    have f1 := hR3.frozen 1
    have f2 := hR3.frozen 2
    have f3 := hR3.frozen 3
    have f4 := hR3.frozen 4
    simp only [zD, List.getElem?_cons_zero, List.getElem?_cons_succ] at y0 y1 y2 y3 y4
    clear x0 x1 x2 x3 x4
    go_wp2
    have hs2 := hb2.size
    have hs1 := hb.size
    refine bodyPost_ret (results_cell_one rfl _ _ w.heap.size _ _ _ _ _ _ rfl (set5 hR3 _ _ _ _ _) rfl) rfl ⟨_, rfl, own5 (d := ⟨dp, 0, bl, [], []⟩) hR3 (r1.weaken (by omega)) (r2.weaken (by omega)) (r3.weaken (by omega)) _ _ _ _ _, below5 (below_then hb (below_then hb2 hb3)) (Nat.le_refl _) _ _ _ _ _⟩
  · have t0 : (R != 0) = true := by simpa using h0
    rw [newD_no hR h0]
    clear hR
    go_enter Try.func22, Try.ntmps22
    go_wp2_with fail
    rw [← HW.out]
    clear HW
    refine HC.out.mono ?_
    rintro e w2 ⟨rfl, hb2⟩
    have hR3 := hB'.later hb2
    have y0 := hR3.cell 0
    have y1 := hR3.cell 1
    have y2 := hR3.cell 2
    have y3 := hR3.cell 3
    have y4 := hR3.cell 4
    have f0 := hR3.frozen 0
    have f1 := hR3.frozen 1
    have f2 := hR3.frozen 2
    have f3 := hR3.frozen 3
    have f4 := hR3.frozen 4
    simp only [zD, List.getElem?_cons_zero, List.getElem?_cons_succ] at y0 y1 y2 y3 y4
    go_wp2
    refine bodyPost_ret (results_cell_one rfl _ _ w.heap.size _ _ _ _ _ _ rfl (set5 hR3 _ _ _ _ _) rfl) rfl ⟨_, rfl, OwnD.zero _ _, below5 (below_then hb hb2) (Nat.le_refl _) _ _ _ _ _⟩
end Go.Proofs.Ytlhbjmoncdljoaa
