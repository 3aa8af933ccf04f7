/- Walks: what is durable, what is read, of both; the number of choices. -/
import Derived.Test.YtlhbjmoncdljoaaD9
namespace Go.Dev
theorem contD_no {d : D} {f : Int} (h : ¬ (chk d = 0 ∧ 0 ≤ f ∧ f < d.bl.length)) : contD d f = [] := by unfold contD; rw [if_neg h]
theorem contD_yes {d : D} {f : Int} (h : chk d = 0 ∧ 0 ≤ f ∧ f < d.bl.length) : contD d f = cont d f := by unfold contD; rw [if_pos h]
theorem durD_no {d : D} {f : Int} (h : ¬ (chk d = 0 ∧ 0 ≤ f ∧ f < d.bl.length)) : durD d f = [] := by unfold durD; rw [if_neg h]
theorem durD_yes {d : D} {f : Int} (h : chk d = 0 ∧ 0 ≤ f ∧ f < d.bl.length) : durD d f = d.bl.getD f.toNat [] := by unfold durD; rw [if_pos h]
theorem chN_no {d : D} (h : chk d ≠ 0) : chN d = 0 := by unfold chN; rw [if_neg h]
theorem chN_yes {d : D} (h : chk d = 0) : chN d = ((d.ca.length + wrN d.qu : Nat) : Int) := by unfold chN; rw [if_pos h]
end Go.Dev
namespace Go.Proofs.Ytlhbjmoncdljoaa
open Go.RowKit Go.Over Go.Dev Go.Seg Go.Grow

set_option maxRecDepth 100000 in set_option maxHeartbeats 3200000 in
theorem cached_42 (dp nx : Int) (aB aC aQ : Option Addr) (bl : List (List Int)) (ca : List Ca) (qu : List Rq) (nB cB nC cC nQ cQ : Nat) (f : Int) (w : World) (HB : Bls w aB bl) (HC : Cas w aC ca) (HQ : Rqs w aQ qu) (hB : bl.length = nB) (hC : ca.length = nC) (hQ : qu.length = nQ) (mC : nC ≤ 1000000) (lC : ∀ c ∈ ca, c.2.length ≤ 1000) :
    Calls Try.prog 42 #[.agg #[.int .i64 dp, .int .i64 nx, .slice aB nB cB, .slice aC nC cC, .slice aQ nQ cQ], .int .i64 f] w fun e w' => ∃ v, e = .returned (.tuple #[v, .bool (hasC f ca)]) ∧ SlV w' v ((conL f ca).getD []) ∧ Below w.heap.size w w' := by
  have B1 := below_box w (.cells #[.int .i64 dp, .int .i64 nx, .slice aB nB cB, .slice aC nC cC, .slice aQ nQ cQ] 26)
  have z0 : (w.alloc (.cells #[.int .i64 dp, .int .i64 nx, .slice aB nB cB, .slice aC nC cC, .slice aQ nQ cQ] 26)).cell? ⟨w.heap.size, 0, none⟩ = some (.int .i64 dp) := zcell w _ _ 0
  have z1 : (w.alloc (.cells #[.int .i64 dp, .int .i64 nx, .slice aB nB cB, .slice aC nC cC, .slice aQ nQ cQ] 26)).cell? ⟨w.heap.size, 1, none⟩ = some (.int .i64 nx) := zcell w _ _ 1
  have z2 : (w.alloc (.cells #[.int .i64 dp, .int .i64 nx, .slice aB nB cB, .slice aC nC cC, .slice aQ nQ cQ] 26)).cell? ⟨w.heap.size, 2, none⟩ = some (.slice aB nB cB) := zcell w _ _ 2
  have z3 : (w.alloc (.cells #[.int .i64 dp, .int .i64 nx, .slice aB nB cB, .slice aC nC cC, .slice aQ nQ cQ] 26)).cell? ⟨w.heap.size, 3, none⟩ = some (.slice aC nC cC) := zcell w _ _ 3
  have z4 : (w.alloc (.cells #[.int .i64 dp, .int .i64 nx, .slice aB nB cB, .slice aC nC cC, .slice aQ nQ cQ] 26)).cell? ⟨w.heap.size, 4, none⟩ = some (.slice aQ nQ cQ) := zcell w _ _ 4
  obtain ⟨w1, hw1⟩ : ∃ W, W = w.alloc (.cells #[.int .i64 dp, .int .i64 nx, .slice aB nB cB, .slice aC nC cC, .slice aQ nQ cQ] 26) := ⟨_, rfl⟩
  have hsz1 : w.heap.size < w1.heap.size := by rw [hw1]; simp
  rw [← hw1] at B1 z0 z1 z2 z3 z4
  have Z0 := Lib.hid z0
  have Z1 := Lib.hid z1
  have Z2 := Lib.hid z2
  have Z3 := Lib.hid z3
  have Z4 := Lib.hid z4
  have GB := HB.below B1
  have GC := HC.below B1
  have GQ := HQ.below B1
  have NB := Lib.hid hB; have NC := Lib.hid hC; have NQ := Lib.hid hQ; have HW := Lib.hid hw1
  clear hw1
  obtain ⟨F, hF⟩ : ∃ F, hasC f ca = F := ⟨_, rfl⟩
  obtain ⟨L, hL⟩ : ∃ L, conL f ca = L := ⟨_, rfl⟩
  rw [hF, hL]
  have HF := Lib.hid hF; have HL := Lib.hid hL; have LC := Lib.hid lC
  clear hF hL hB hC hQ z0 z1 z2 z3 z4 lC
  go_enter Try.func42, Try.ntmps42
  go_wp2
  rw [← HW.out]
  clear HW
  go_loopg [6] nC (fun g i0 wr => ∃ (i : Nat), i + g = nC ∧ i0 = .int .i64 i ∧ hasC f (ca.drop i) = F ∧ conL f (ca.drop i) = L ∧ w1 = wr)
  case atStart => exact ⟨0, by omega, rfl, HF.out, HL.out, rfl⟩
  case round =>
    obtain ⟨i, hg, rfl, hF, hL, rfl⟩ := hrel
    have y3 := Z3.out
    cases gk with
    | zero =>
      obtain rfl : i = nC := by omega
      rw [List.drop_eq_nil_of_le (by rw [NC.out]; exact Nat.le_refl _)] at hF hL
      have H1 := Lib.hid (show F = false from hF.symm)
      have H2 := Lib.hid (show L = none from hL.symm)
      clear hg hF hL
      go_wp2
      go_ret2
      refine ⟨_, by rw [H1.out]; rfl, ?_, B1⟩
      rw [H2.out]; exact SlV.nil _
    | succ g =>
      have hin : i < nC := by omega
      obtain ⟨⟨x, s⟩, hs⟩ := get_some NC.out hin
      obtain ⟨b, off, rfl, hc⟩ := GC (by rw [NC.out]; omega)
      obtain ⟨s1, a', c', s0, hc1, hc2, hc3, hbt⟩ := hc i _ hs
      have hsl := LC.out _ (List.mem_of_getElem? hs)
      obtain ⟨m, hm⟩ : ∃ m, s.length = m := ⟨_, rfl⟩
      simp only [hm] at s0 s1 hc1 hsl
      rw [conL_step hs] at hL
      have hF2 : (decide (x = f) || hasC f (ca.drop (i + 1))) = F := by rw [← hF, drop_get hs]; rfl
      have HM := Lib.hid hm; have HG := Lib.hid hg; have HFF := Lib.hid hF2; have HLL := Lib.hid hL
      clear hc hs hm hg hF hF2 hL
      by_cases hx : x = f
      · subst hx
        have t1 : (x == x) = true := by simp
        have H1 := Lib.hid (show F = true by rw [← HFF.out]; simp)
        have H2 := Lib.hid (show L = some s by rw [← HLL.out]; simp)
        go_wp2_with fail
        refine (bytes_43 a' s m c' w1 hbt HM.out hc3 hc1 (by omega)).mono ?_
        rintro e w3 ⟨v, rfl, hv, hb3⟩
        obtain ⟨a2, k2, rfl, _, _, _, _⟩ := hv.form HM.out
        go_wp2
        go_ret2
        refine ⟨_, by rw [H1.out]; rfl, ?_, below_then B1 hb3⟩
        rw [H2.out]; exact hv
      · have t1 : (x == f) = false := by simpa using hx
        go_wp2
        go_roundg g
        case rel => exact ⟨i + 1, by have := HG.out; omega, by go_num, by rw [← HFF.out, decide_eq_false hx, Bool.false_or], by rw [← HLL.out, if_neg hx], rfl⟩
        case measure => omega
set_option maxRecDepth 100000 in set_option maxHeartbeats 3200000 in
theorem durable_18 (dp nx : Int) (aB aC aQ : Option Addr) (bl : List (List Int)) (ca : List Ca) (qu : List Rq) (nB cB nC cC nQ cQ : Nat) (f : Int) (w : World) (HB : Bls w aB bl) (HC : Cas w aC ca) (HQ : Rqs w aQ qu) (hB : bl.length = nB) (hC : ca.length = nC) (hQ : qu.length = nQ) (mB : nB ≤ 1000000) (mC : nC ≤ 1000000) (mQ : nQ ≤ 1000000) :
    Calls Try.prog 18 #[.agg #[.int .i64 dp, .int .i64 nx, .slice aB nB cB, .slice aC nC cC, .slice aQ nQ cQ], .int .i64 f] w fun e w' => ∃ v, e = .returned v ∧ SlV w' v (durD ⟨dp, nx, bl, ca, qu⟩ f) ∧ Below w.heap.size w w' := by
  have B1 := below_box w (.cells #[.int .i64 dp, .int .i64 nx, .slice aB nB cB, .slice aC nC cC, .slice aQ nQ cQ] 26)
  have z0 : (w.alloc (.cells #[.int .i64 dp, .int .i64 nx, .slice aB nB cB, .slice aC nC cC, .slice aQ nQ cQ] 26)).cell? ⟨w.heap.size, 0, none⟩ = some (.int .i64 dp) := zcell w _ _ 0
  have z1 : (w.alloc (.cells #[.int .i64 dp, .int .i64 nx, .slice aB nB cB, .slice aC nC cC, .slice aQ nQ cQ] 26)).cell? ⟨w.heap.size, 1, none⟩ = some (.int .i64 nx) := zcell w _ _ 1
  have z2 : (w.alloc (.cells #[.int .i64 dp, .int .i64 nx, .slice aB nB cB, .slice aC nC cC, .slice aQ nQ cQ] 26)).cell? ⟨w.heap.size, 2, none⟩ = some (.slice aB nB cB) := zcell w _ _ 2
  have z3 : (w.alloc (.cells #[.int .i64 dp, .int .i64 nx, .slice aB nB cB, .slice aC nC cC, .slice aQ nQ cQ] 26)).cell? ⟨w.heap.size, 3, none⟩ = some (.slice aC nC cC) := zcell w _ _ 3
  have z4 : (w.alloc (.cells #[.int .i64 dp, .int .i64 nx, .slice aB nB cB, .slice aC nC cC, .slice aQ nQ cQ] 26)).cell? ⟨w.heap.size, 4, none⟩ = some (.slice aQ nQ cQ) := zcell w _ _ 4
  obtain ⟨w1, hw1⟩ : ∃ W, W = w.alloc (.cells #[.int .i64 dp, .int .i64 nx, .slice aB nB cB, .slice aC nC cC, .slice aQ nQ cQ] 26) := ⟨_, rfl⟩
  have hsz1 : w.heap.size < w1.heap.size := by rw [hw1]; simp
  rw [← hw1] at B1 z0 z1 z2 z3 z4
  have Z0 := Lib.hid z0
  have Z1 := Lib.hid z1
  have Z2 := Lib.hid z2
  have Z3 := Lib.hid z3
  have Z4 := Lib.hid z4
  have GB := HB.below B1
  have GC := HC.below B1
  have GQ := HQ.below B1
  have NB := Lib.hid hB; have NC := Lib.hid hC; have NQ := Lib.hid hQ; have HW := Lib.hid hw1
  clear hw1
  obtain ⟨R, hR⟩ : ∃ R, chk ⟨dp, nx, bl, ca, qu⟩ = R := ⟨_, rfl⟩
  by_cases h0 : R = 0
  · subst h0
    by_cases h1 : f < 0
    · have t1 : decide (f < 0) = true := by simpa using h1
      rw [durD_no (by show ¬ (chk ⟨dp, nx, bl, ca, qu⟩ = 0 ∧ _); rw [hR, hB]; omega)]
      have HR := Lib.hid hR
      clear hR hB hC hQ z0 z1 z2 z3 z4
      go_enter Try.func18, Try.ntmps18
      go_wp2_with fail
      rw [← HW.out]
      clear HW
      refine (check_13 dp nx aB aC aQ bl ca qu nB cB nC cC nQ cQ w1 GB GC GQ NB.out NC.out NQ.out mB mC mQ).mono ?_
      rintro e w2 ⟨rfl, hb2⟩
      rw [HR.out]
      have hb := hb2
      have z0 := cell_later hb Z0.out
      have z1 := cell_later hb Z1.out
      have z2 := cell_later hb Z2.out
      have z3 := cell_later hb Z3.out
      have z4 := cell_later hb Z4.out
      clear hb
      go_wp2
      go_ret
      exact ⟨_, rfl, SlV.nil _, below_then B1 hb2⟩
    · by_cases h2 : (nB : Int) ≤ f
      · have t1 : decide (f < 0) = false := by simpa using h1
        have t2 : decide ((nB : Int) ≤ f) = true := by simpa using h2
        rw [durD_no (by show ¬ (chk ⟨dp, nx, bl, ca, qu⟩ = 0 ∧ _); rw [hR, hB]; omega)]
        have HR := Lib.hid hR
        clear hR hB hC hQ z0 z1 z2 z3 z4
        go_enter Try.func18, Try.ntmps18
        go_wp2_with fail
        rw [← HW.out]
        clear HW
        refine (check_13 dp nx aB aC aQ bl ca qu nB cB nC cC nQ cQ w1 GB GC GQ NB.out NC.out NQ.out mB mC mQ).mono ?_
        rintro e w2 ⟨rfl, hb2⟩
        rw [HR.out]
        have hb := hb2
        have z0 := cell_later hb Z0.out
        have z1 := cell_later hb Z1.out
        have z2 := cell_later hb Z2.out
        have z3 := cell_later hb Z3.out
        have z4 := cell_later hb Z4.out
        clear hb
        go_wp2
        go_ret
        exact ⟨_, rfl, SlV.nil _, below_then B1 hb2⟩
      · obtain ⟨k, rfl⟩ : ∃ k : Nat, f = k := ⟨f.toNat, by omega⟩
        have hk : k < nB := by omega
        rw [durD_yes (by show chk ⟨dp, nx, bl, ca, qu⟩ = 0 ∧ _; rw [hR, hB]; omega)]
        obtain ⟨s, hs⟩ := get_some hB hk
        have hsl : s.length = 32 := (chk_ok.1 hR).bl _ (List.mem_of_getElem? hs)
        have hgd : bl.getD (k : Int).toNat [] = s := by rw [Int.toNat_natCast]; exact getD_of hs
        simp only [hgd]
        have HR := Lib.hid hR; have HS := Lib.hid hs
        have t1 : decide ((k : Int) < 0) = false := by simp
        have t2 : decide ((nB : Int) ≤ (k : Int)) = false := by simp; omega
        clear hR hB hC hQ z0 z1 z2 z3 z4 hgd hs
        go_enter Try.func18, Try.ntmps18
        go_wp2_with fail
        rw [← HW.out]
        clear HW
        refine (check_13 dp nx aB aC aQ bl ca qu nB cB nC cC nQ cQ w1 GB GC GQ NB.out NC.out NQ.out mB mC mQ).mono ?_
        rintro e w2 ⟨rfl, hb2⟩
        rw [HR.out]
        have hb := hb2
        have z0 := cell_later hb Z0.out
        have z1 := cell_later hb Z1.out
        have z2 := cell_later hb Z2.out
        have z3 := cell_later hb Z3.out
        have z4 := cell_later hb Z4.out
        clear hb
        obtain ⟨b, off, rfl, hc⟩ := (GB.below hb2) (by rw [NB.out]; omega)
        obtain ⟨a', c', s0, hc1, hc2, hc3, hbt⟩ := hc k _ HS.out
        simp only [hsl] at s0 hc1
        clear hc
        go_wp2_with fail
        refine (clone_44 a' s 32 c' w2 hbt hsl hc3 hc1 (by omega)).mono ?_
        rintro e w3 ⟨v, rfl, hv, hb3⟩
        obtain ⟨a2, k2, rfl, _, _, _, _⟩ := hv.form hsl
        go_wp2
        go_ret
        exact ⟨_, rfl, hv, below_then B1 (below_then hb2 hb3)⟩
  · have t0 : (R != 0) = true := by simpa using h0
    rw [durD_no (by show ¬ (chk ⟨dp, nx, bl, ca, qu⟩ = 0 ∧ _); rw [hR, hB]; omega)]
    have HR := Lib.hid hR
    clear hR hB hC hQ z0 z1 z2 z3 z4
    go_enter Try.func18, Try.ntmps18
    go_wp2_with fail
    rw [← HW.out]
    clear HW
    refine (check_13 dp nx aB aC aQ bl ca qu nB cB nC cC nQ cQ w1 GB GC GQ NB.out NC.out NQ.out mB mC mQ).mono ?_
    rintro e w2 ⟨rfl, hb2⟩
    rw [HR.out]
    have hb := hb2
    have z0 := cell_later hb Z0.out
    have z1 := cell_later hb Z1.out
    have z2 := cell_later hb Z2.out
    have z3 := cell_later hb Z3.out
    have z4 := cell_later hb Z4.out
    clear hb
    go_wp2
    go_ret
    exact ⟨_, rfl, SlV.nil _, below_then B1 hb2⟩
set_option maxRecDepth 100000 in set_option maxHeartbeats 3200000 in
theorem durable_19 (dp nx : Int) (aB aC aQ : Option Addr) (bl : List (List Int)) (ca : List Ca) (qu : List Rq) (nB cB nC cC nQ cQ : Nat) (f : Int) (w : World) (HB : Bls w aB bl) (HC : Cas w aC ca) (HQ : Rqs w aQ qu) (hB : bl.length = nB) (hC : ca.length = nC) (hQ : qu.length = nQ) (mB : nB ≤ 1000000) (mC : nC ≤ 1000000) (mQ : nQ ≤ 1000000) :
    Calls Try.prog 19 #[.agg #[.int .i64 dp, .int .i64 nx, .slice aB nB cB, .slice aC nC cC, .slice aQ nQ cQ], .int .i64 f] w fun e w' => ∃ v, e = .returned v ∧ SlV w' v (durD ⟨dp, nx, bl, ca, qu⟩ f) ∧ Below w.heap.size w w' := by
  have B1 := below_box w (.cells #[.int .i64 dp, .int .i64 nx, .slice aB nB cB, .slice aC nC cC, .slice aQ nQ cQ] 26)
  have z0 : (w.alloc (.cells #[.int .i64 dp, .int .i64 nx, .slice aB nB cB, .slice aC nC cC, .slice aQ nQ cQ] 26)).cell? ⟨w.heap.size, 0, none⟩ = some (.int .i64 dp) := zcell w _ _ 0
  have z1 : (w.alloc (.cells #[.int .i64 dp, .int .i64 nx, .slice aB nB cB, .slice aC nC cC, .slice aQ nQ cQ] 26)).cell? ⟨w.heap.size, 1, none⟩ = some (.int .i64 nx) := zcell w _ _ 1
  have z2 : (w.alloc (.cells #[.int .i64 dp, .int .i64 nx, .slice aB nB cB, .slice aC nC cC, .slice aQ nQ cQ] 26)).cell? ⟨w.heap.size, 2, none⟩ = some (.slice aB nB cB) := zcell w _ _ 2
  have z3 : (w.alloc (.cells #[.int .i64 dp, .int .i64 nx, .slice aB nB cB, .slice aC nC cC, .slice aQ nQ cQ] 26)).cell? ⟨w.heap.size, 3, none⟩ = some (.slice aC nC cC) := zcell w _ _ 3
  have z4 : (w.alloc (.cells #[.int .i64 dp, .int .i64 nx, .slice aB nB cB, .slice aC nC cC, .slice aQ nQ cQ] 26)).cell? ⟨w.heap.size, 4, none⟩ = some (.slice aQ nQ cQ) := zcell w _ _ 4
  obtain ⟨w1, hw1⟩ : ∃ W, W = w.alloc (.cells #[.int .i64 dp, .int .i64 nx, .slice aB nB cB, .slice aC nC cC, .slice aQ nQ cQ] 26) := ⟨_, rfl⟩
  have hsz1 : w.heap.size < w1.heap.size := by rw [hw1]; simp
  rw [← hw1] at B1 z0 z1 z2 z3 z4
  have Z0 := Lib.hid z0
  have Z1 := Lib.hid z1
  have Z2 := Lib.hid z2
  have Z3 := Lib.hid z3
  have Z4 := Lib.hid z4
  have GB := HB.below B1
  have GC := HC.below B1
  have GQ := HQ.below B1
  have NB := Lib.hid hB; have NC := Lib.hid hC; have NQ := Lib.hid hQ; have HW := Lib.hid hw1
  clear hw1
  obtain ⟨R, hR⟩ : ∃ R, chk ⟨dp, nx, bl, ca, qu⟩ = R := ⟨_, rfl⟩
  by_cases h0 : R = 0
  · subst h0
    by_cases h1 : f < 0
    · have t1 : decide (f < 0) = true := by simpa using h1
      rw [durD_no (by show ¬ (chk ⟨dp, nx, bl, ca, qu⟩ = 0 ∧ _); rw [hR, hB]; omega)]
      have HR := Lib.hid hR
      clear hR hB hC hQ z0 z1 z2 z3 z4
      go_enter Try.func19, Try.ntmps19
      go_wp2_with fail
      rw [← HW.out]
      clear HW
      refine (check_14 dp nx aB aC aQ bl ca qu nB cB nC cC nQ cQ w1 GB GC GQ NB.out NC.out NQ.out mB mC mQ).mono ?_
      rintro e w2 ⟨rfl, hb2⟩
      rw [HR.out]
      have hb := hb2
      have z0 := cell_later hb Z0.out
      have z1 := cell_later hb Z1.out
      have z2 := cell_later hb Z2.out
      have z3 := cell_later hb Z3.out
      have z4 := cell_later hb Z4.out
      clear hb
      go_wp2
      go_ret
      exact ⟨_, rfl, SlV.nil _, below_then B1 hb2⟩
    · by_cases h2 : (nB : Int) ≤ f
      · have t1 : decide (f < 0) = false := by simpa using h1
        have t2 : decide ((nB : Int) ≤ f) = true := by simpa using h2
        rw [durD_no (by show ¬ (chk ⟨dp, nx, bl, ca, qu⟩ = 0 ∧ _); rw [hR, hB]; omega)]
        have HR := Lib.hid hR
        clear hR hB hC hQ z0 z1 z2 z3 z4
        go_enter Try.func19, Try.ntmps19
        go_wp2_with fail
        rw [← HW.out]
        clear HW
        refine (check_14 dp nx aB aC aQ bl ca qu nB cB nC cC nQ cQ w1 GB GC GQ NB.out NC.out NQ.out mB mC mQ).mono ?_
        rintro e w2 ⟨rfl, hb2⟩
        rw [HR.out]
        have hb := hb2
        have z0 := cell_later hb Z0.out
        have z1 := cell_later hb Z1.out
        have z2 := cell_later hb Z2.out
        have z3 := cell_later hb Z3.out
        have z4 := cell_later hb Z4.out
        clear hb
        go_wp2
        go_ret
        exact ⟨_, rfl, SlV.nil _, below_then B1 hb2⟩
      · obtain ⟨k, rfl⟩ : ∃ k : Nat, f = k := ⟨f.toNat, by omega⟩
        have hk : k < nB := by omega
        rw [durD_yes (by show chk ⟨dp, nx, bl, ca, qu⟩ = 0 ∧ _; rw [hR, hB]; omega)]
        obtain ⟨s, hs⟩ := get_some hB hk
        have hsl : s.length = 32 := (chk_ok.1 hR).bl _ (List.mem_of_getElem? hs)
        have hgd : bl.getD (k : Int).toNat [] = s := by rw [Int.toNat_natCast]; exact getD_of hs
        simp only [hgd]
        have HR := Lib.hid hR; have HS := Lib.hid hs
        have t1 : decide ((k : Int) < 0) = false := by simp
        have t2 : decide ((nB : Int) ≤ (k : Int)) = false := by simp; omega
        clear hR hB hC hQ z0 z1 z2 z3 z4 hgd hs
        go_enter Try.func19, Try.ntmps19
        go_wp2_with fail
        rw [← HW.out]
        clear HW
        refine (check_14 dp nx aB aC aQ bl ca qu nB cB nC cC nQ cQ w1 GB GC GQ NB.out NC.out NQ.out mB mC mQ).mono ?_
        rintro e w2 ⟨rfl, hb2⟩
        rw [HR.out]
        have hb := hb2
        have z0 := cell_later hb Z0.out
        have z1 := cell_later hb Z1.out
        have z2 := cell_later hb Z2.out
        have z3 := cell_later hb Z3.out
        have z4 := cell_later hb Z4.out
        clear hb
        obtain ⟨b, off, rfl, hc⟩ := (GB.below hb2) (by rw [NB.out]; omega)
        obtain ⟨a', c', s0, hc1, hc2, hc3, hbt⟩ := hc k _ HS.out
        simp only [hsl] at s0 hc1
        clear hc
        go_wp2_with fail
        refine (bytes_43 a' s 32 c' w2 hbt hsl hc3 hc1 (by omega)).mono ?_
        rintro e w3 ⟨v, rfl, hv, hb3⟩
        obtain ⟨a2, k2, rfl, _, _, _, _⟩ := hv.form hsl
        go_wp2
        go_ret
        exact ⟨_, rfl, hv, below_then B1 (below_then hb2 hb3)⟩
  · have t0 : (R != 0) = true := by simpa using h0
    rw [durD_no (by show ¬ (chk ⟨dp, nx, bl, ca, qu⟩ = 0 ∧ _); rw [hR, hB]; omega)]
    have HR := Lib.hid hR
    clear hR hB hC hQ z0 z1 z2 z3 z4
    go_enter Try.func19, Try.ntmps19
    go_wp2_with fail
    rw [← HW.out]
    clear HW
    refine (check_14 dp nx aB aC aQ bl ca qu nB cB nC cC nQ cQ w1 GB GC GQ NB.out NC.out NQ.out mB mC mQ).mono ?_
    rintro e w2 ⟨rfl, hb2⟩
    rw [HR.out]
    have hb := hb2
    have z0 := cell_later hb Z0.out
    have z1 := cell_later hb Z1.out
    have z2 := cell_later hb Z2.out
    have z3 := cell_later hb Z3.out
    have z4 := cell_later hb Z4.out
    clear hb
    go_wp2
    go_ret
    exact ⟨_, rfl, SlV.nil _, below_then B1 hb2⟩
set_option maxRecDepth 100000 in set_option maxHeartbeats 3200000 in
theorem content_16 (dp nx : Int) (aB aC aQ : Option Addr) (bl : List (List Int)) (ca : List Ca) (qu : List Rq) (nB cB nC cC nQ cQ : Nat) (f : Int) (w : World) (HB : Bls w aB bl) (HC : Cas w aC ca) (HQ : Rqs w aQ qu) (hB : bl.length = nB) (hC : ca.length = nC) (hQ : qu.length = nQ) (mB : nB ≤ 1000000) (mC : nC ≤ 1000000) (mQ : nQ ≤ 1000000) :
    Calls Try.prog 16 #[.agg #[.int .i64 dp, .int .i64 nx, .slice aB nB cB, .slice aC nC cC, .slice aQ nQ cQ], .int .i64 f] w fun e w' => ∃ v, e = .returned v ∧ SlV w' v (contD ⟨dp, nx, bl, ca, qu⟩ f) ∧ Below w.heap.size w w' := by
  have B1 := below_box w (.cells #[.int .i64 dp, .int .i64 nx, .slice aB nB cB, .slice aC nC cC, .slice aQ nQ cQ] 26)
  have z0 : (w.alloc (.cells #[.int .i64 dp, .int .i64 nx, .slice aB nB cB, .slice aC nC cC, .slice aQ nQ cQ] 26)).cell? ⟨w.heap.size, 0, none⟩ = some (.int .i64 dp) := zcell w _ _ 0
  have z1 : (w.alloc (.cells #[.int .i64 dp, .int .i64 nx, .slice aB nB cB, .slice aC nC cC, .slice aQ nQ cQ] 26)).cell? ⟨w.heap.size, 1, none⟩ = some (.int .i64 nx) := zcell w _ _ 1
  have z2 : (w.alloc (.cells #[.int .i64 dp, .int .i64 nx, .slice aB nB cB, .slice aC nC cC, .slice aQ nQ cQ] 26)).cell? ⟨w.heap.size, 2, none⟩ = some (.slice aB nB cB) := zcell w _ _ 2
  have z3 : (w.alloc (.cells #[.int .i64 dp, .int .i64 nx, .slice aB nB cB, .slice aC nC cC, .slice aQ nQ cQ] 26)).cell? ⟨w.heap.size, 3, none⟩ = some (.slice aC nC cC) := zcell w _ _ 3
  have z4 : (w.alloc (.cells #[.int .i64 dp, .int .i64 nx, .slice aB nB cB, .slice aC nC cC, .slice aQ nQ cQ] 26)).cell? ⟨w.heap.size, 4, none⟩ = some (.slice aQ nQ cQ) := zcell w _ _ 4
  obtain ⟨w1, hw1⟩ : ∃ W, W = w.alloc (.cells #[.int .i64 dp, .int .i64 nx, .slice aB nB cB, .slice aC nC cC, .slice aQ nQ cQ] 26) := ⟨_, rfl⟩
  have hsz1 : w.heap.size < w1.heap.size := by rw [hw1]; simp
  rw [← hw1] at B1 z0 z1 z2 z3 z4
  have Z0 := Lib.hid z0
  have Z1 := Lib.hid z1
  have Z2 := Lib.hid z2
  have Z3 := Lib.hid z3
  have Z4 := Lib.hid z4
  have GB := HB.below B1
  have GC := HC.below B1
  have GQ := HQ.below B1
  have NB := Lib.hid hB; have NC := Lib.hid hC; have NQ := Lib.hid hQ; have HW := Lib.hid hw1
  clear hw1
  obtain ⟨R, hR⟩ : ∃ R, chk ⟨dp, nx, bl, ca, qu⟩ = R := ⟨_, rfl⟩
  by_cases h0 : R = 0
  · subst h0
    by_cases h1 : f < 0
    · have t1 : decide (f < 0) = true := by simpa using h1
      rw [contD_no (by show ¬ (chk ⟨dp, nx, bl, ca, qu⟩ = 0 ∧ _); rw [hR, hB]; omega)]
      have HR := Lib.hid hR
      clear hR hB hC hQ z0 z1 z2 z3 z4
      go_enter Try.func16, Try.ntmps16
      go_wp2_with fail
      rw [← HW.out]
      clear HW
      refine (check_13 dp nx aB aC aQ bl ca qu nB cB nC cC nQ cQ w1 GB GC GQ NB.out NC.out NQ.out mB mC mQ).mono ?_
      rintro e w2 ⟨rfl, hb2⟩
      rw [HR.out]
      have hb := hb2
      have z0 := cell_later hb Z0.out
      have z1 := cell_later hb Z1.out
      have z2 := cell_later hb Z2.out
      have z3 := cell_later hb Z3.out
      have z4 := cell_later hb Z4.out
      clear hb
      go_wp2
      go_ret
      exact ⟨_, rfl, SlV.nil _, below_then B1 hb2⟩
    · by_cases h2 : (nB : Int) ≤ f
      · have t1 : decide (f < 0) = false := by simpa using h1
        have t2 : decide ((nB : Int) ≤ f) = true := by simpa using h2
        rw [contD_no (by show ¬ (chk ⟨dp, nx, bl, ca, qu⟩ = 0 ∧ _); rw [hR, hB]; omega)]
        have HR := Lib.hid hR
        clear hR hB hC hQ z0 z1 z2 z3 z4
        go_enter Try.func16, Try.ntmps16
        go_wp2_with fail
        rw [← HW.out]
        clear HW
        refine (check_13 dp nx aB aC aQ bl ca qu nB cB nC cC nQ cQ w1 GB GC GQ NB.out NC.out NQ.out mB mC mQ).mono ?_
        rintro e w2 ⟨rfl, hb2⟩
        rw [HR.out]
        have hb := hb2
        have z0 := cell_later hb Z0.out
        have z1 := cell_later hb Z1.out
        have z2 := cell_later hb Z2.out
        have z3 := cell_later hb Z3.out
        have z4 := cell_later hb Z4.out
        clear hb
        go_wp2
        go_ret
        exact ⟨_, rfl, SlV.nil _, below_then B1 hb2⟩
      · obtain ⟨k, rfl⟩ : ∃ k : Nat, f = k := ⟨f.toNat, by omega⟩
        have hk : k < nB := by omega
        rw [contD_yes (by show chk ⟨dp, nx, bl, ca, qu⟩ = 0 ∧ _; rw [hR, hB]; omega)]
        have HO := Lib.hid (chk_ok.1 hR)
        have HR := Lib.hid hR
        obtain ⟨L, hL⟩ : ∃ L, cont ⟨dp, nx, bl, ca, qu⟩ k = L := ⟨_, rfl⟩
        have hcon := fun w2 (hb2 : Below w1.heap.size w1 w2) => content_41 dp nx aB aC aQ bl ca qu nB cB nC cC nQ cQ k w2 (GB.below hb2) (GC.below hb2) (GQ.below hb2) hB hC hQ HO.out hk
        rw [hL] at hcon ⊢
        have HCON := Lib.hid hcon
        have t1 : decide ((k : Int) < 0) = false := by simp
        have t2 : decide ((nB : Int) ≤ (k : Int)) = false := by simp; omega
        clear hR hB hC hQ z0 z1 z2 z3 z4 hL hcon
        go_enter Try.func16, Try.ntmps16
        go_wp2_with fail
        rw [← HW.out]
        clear HW
        refine (check_13 dp nx aB aC aQ bl ca qu nB cB nC cC nQ cQ w1 GB GC GQ NB.out NC.out NQ.out mB mC mQ).mono ?_
        rintro e w2 ⟨rfl, hb2⟩
        rw [HR.out]
        have hb := hb2
        have z0 := cell_later hb Z0.out
        have z1 := cell_later hb Z1.out
        have z2 := cell_later hb Z2.out
        have z3 := cell_later hb Z3.out
        have z4 := cell_later hb Z4.out
        clear hb
        go_wp2_with fail
        refine (HCON.out w2 hb2).mono ?_
        rintro e w3 ⟨v, rfl, hv, hb3⟩
        go_wp2
        go_ret
        exact ⟨_, rfl, hv, below_then B1 (below_then hb2 hb3)⟩
  · have t0 : (R != 0) = true := by simpa using h0
    rw [contD_no (by show ¬ (chk ⟨dp, nx, bl, ca, qu⟩ = 0 ∧ _); rw [hR, hB]; omega)]
    have HR := Lib.hid hR
    clear hR hB hC hQ z0 z1 z2 z3 z4
    go_enter Try.func16, Try.ntmps16
    go_wp2_with fail
    rw [← HW.out]
    clear HW
    refine (check_13 dp nx aB aC aQ bl ca qu nB cB nC cC nQ cQ w1 GB GC GQ NB.out NC.out NQ.out mB mC mQ).mono ?_
    rintro e w2 ⟨rfl, hb2⟩
    rw [HR.out]
    have hb := hb2
    have z0 := cell_later hb Z0.out
    have z1 := cell_later hb Z1.out
    have z2 := cell_later hb Z2.out
    have z3 := cell_later hb Z3.out
    have z4 := cell_later hb Z4.out
    clear hb
    go_wp2
    go_ret
    exact ⟨_, rfl, SlV.nil _, below_then B1 hb2⟩
set_option maxRecDepth 100000 in set_option maxHeartbeats 3200000 in
theorem content_17 (dp nx : Int) (aB aC aQ : Option Addr) (bl : List (List Int)) (ca : List Ca) (qu : List Rq) (nB cB nC cC nQ cQ : Nat) (f : Int) (w : World) (HB : Bls w aB bl) (HC : Cas w aC ca) (HQ : Rqs w aQ qu) (hB : bl.length = nB) (hC : ca.length = nC) (hQ : qu.length = nQ) (mB : nB ≤ 1000000) (mC : nC ≤ 1000000) (mQ : nQ ≤ 1000000) :
    Calls Try.prog 17 #[.agg #[.int .i64 dp, .int .i64 nx, .slice aB nB cB, .slice aC nC cC, .slice aQ nQ cQ], .int .i64 f] w fun e w' => ∃ v, e = .returned v ∧ SlV w' v (contD ⟨dp, nx, bl, ca, qu⟩ f) ∧ Below w.heap.size w w' := by
  have B1 := below_box w (.cells #[.int .i64 dp, .int .i64 nx, .slice aB nB cB, .slice aC nC cC, .slice aQ nQ cQ] 26)
  have z0 : (w.alloc (.cells #[.int .i64 dp, .int .i64 nx, .slice aB nB cB, .slice aC nC cC, .slice aQ nQ cQ] 26)).cell? ⟨w.heap.size, 0, none⟩ = some (.int .i64 dp) := zcell w _ _ 0
  have z1 : (w.alloc (.cells #[.int .i64 dp, .int .i64 nx, .slice aB nB cB, .slice aC nC cC, .slice aQ nQ cQ] 26)).cell? ⟨w.heap.size, 1, none⟩ = some (.int .i64 nx) := zcell w _ _ 1
  have z2 : (w.alloc (.cells #[.int .i64 dp, .int .i64 nx, .slice aB nB cB, .slice aC nC cC, .slice aQ nQ cQ] 26)).cell? ⟨w.heap.size, 2, none⟩ = some (.slice aB nB cB) := zcell w _ _ 2
  have z3 : (w.alloc (.cells #[.int .i64 dp, .int .i64 nx, .slice aB nB cB, .slice aC nC cC, .slice aQ nQ cQ] 26)).cell? ⟨w.heap.size, 3, none⟩ = some (.slice aC nC cC) := zcell w _ _ 3
  have z4 : (w.alloc (.cells #[.int .i64 dp, .int .i64 nx, .slice aB nB cB, .slice aC nC cC, .slice aQ nQ cQ] 26)).cell? ⟨w.heap.size, 4, none⟩ = some (.slice aQ nQ cQ) := zcell w _ _ 4
  obtain ⟨w1, hw1⟩ : ∃ W, W = w.alloc (.cells #[.int .i64 dp, .int .i64 nx, .slice aB nB cB, .slice aC nC cC, .slice aQ nQ cQ] 26) := ⟨_, rfl⟩
  have hsz1 : w.heap.size < w1.heap.size := by rw [hw1]; simp
  rw [← hw1] at B1 z0 z1 z2 z3 z4
  have Z0 := Lib.hid z0
  have Z1 := Lib.hid z1
  have Z2 := Lib.hid z2
  have Z3 := Lib.hid z3
  have Z4 := Lib.hid z4
  have GB := HB.below B1
  have GC := HC.below B1
  have GQ := HQ.below B1
  have NB := Lib.hid hB; have NC := Lib.hid hC; have NQ := Lib.hid hQ; have HW := Lib.hid hw1
  clear hw1
  obtain ⟨R, hR⟩ : ∃ R, chk ⟨dp, nx, bl, ca, qu⟩ = R := ⟨_, rfl⟩
  by_cases h0 : R = 0
  · subst h0
    by_cases h1 : f < 0
    · have t1 : decide (f < 0) = true := by simpa using h1
      rw [contD_no (by show ¬ (chk ⟨dp, nx, bl, ca, qu⟩ = 0 ∧ _); rw [hR, hB]; omega)]
      have HR := Lib.hid hR
      clear hR hB hC hQ z0 z1 z2 z3 z4
      go_enter Try.func17, Try.ntmps17
      go_wp2_with fail
      rw [← HW.out]
      clear HW
      refine (check_14 dp nx aB aC aQ bl ca qu nB cB nC cC nQ cQ w1 GB GC GQ NB.out NC.out NQ.out mB mC mQ).mono ?_
      rintro e w2 ⟨rfl, hb2⟩
      rw [HR.out]
      have hb := hb2
      have z0 := cell_later hb Z0.out
      have z1 := cell_later hb Z1.out
      have z2 := cell_later hb Z2.out
      have z3 := cell_later hb Z3.out
      have z4 := cell_later hb Z4.out
      clear hb
      go_wp2
      go_ret
      exact ⟨_, rfl, SlV.nil _, below_then B1 hb2⟩
    · by_cases h2 : (nB : Int) ≤ f
      · have t1 : decide (f < 0) = false := by simpa using h1
        have t2 : decide ((nB : Int) ≤ f) = true := by simpa using h2
        rw [contD_no (by show ¬ (chk ⟨dp, nx, bl, ca, qu⟩ = 0 ∧ _); rw [hR, hB]; omega)]
        have HR := Lib.hid hR
        clear hR hB hC hQ z0 z1 z2 z3 z4
        go_enter Try.func17, Try.ntmps17
        go_wp2_with fail
        rw [← HW.out]
        clear HW
        refine (check_14 dp nx aB aC aQ bl ca qu nB cB nC cC nQ cQ w1 GB GC GQ NB.out NC.out NQ.out mB mC mQ).mono ?_
        rintro e w2 ⟨rfl, hb2⟩
        rw [HR.out]
        have hb := hb2
        have z0 := cell_later hb Z0.out
        have z1 := cell_later hb Z1.out
        have z2 := cell_later hb Z2.out
        have z3 := cell_later hb Z3.out
        have z4 := cell_later hb Z4.out
        clear hb
        go_wp2
        go_ret
        exact ⟨_, rfl, SlV.nil _, below_then B1 hb2⟩
      · obtain ⟨k, rfl⟩ : ∃ k : Nat, f = k := ⟨f.toNat, by omega⟩
        have hk : k < nB := by omega
        rw [contD_yes (by show chk ⟨dp, nx, bl, ca, qu⟩ = 0 ∧ _; rw [hR, hB]; omega)]
        have O := chk_ok.1 hR
        have HR := Lib.hid hR
        have t1 : decide ((k : Int) < 0) = false := by simp
        have t2 : decide ((nB : Int) ≤ (k : Int)) = false := by simp; omega
        have hcon := fun w2 (hb2 : Below w1.heap.size w1 w2) => cached_42 dp nx aB aC aQ bl ca qu nB cB nC cC nQ cQ k w2 (GB.below hb2) (GC.below hb2) (GQ.below hb2) hB hC hQ mC (ok_cl O)
        cases hF : hasC (k : Int) ca with
        | true =>
          obtain ⟨⟨x, s⟩, hs, hx⟩ := posC_get O.asc hF
          have hsl : s.length = 32 := O.cd _ (List.mem_of_getElem? hs)
          rw [cont_has (d := ⟨dp, nx, bl, ca, qu⟩) O.asc hs hx]
          have hcl : (conL (k : Int) ca).getD [] = s := by rw [conL_some O.asc hs hx]; rfl
          rw [hF, hcl] at hcon
          have HCON := Lib.hid hcon
          clear hR hB hC hQ z0 z1 z2 z3 z4 hF hs hx hcl O hcon
          go_enter Try.func17, Try.ntmps17
          go_wp2_with fail
          rw [← HW.out]
          clear HW
          refine (check_14 dp nx aB aC aQ bl ca qu nB cB nC cC nQ cQ w1 GB GC GQ NB.out NC.out NQ.out mB mC mQ).mono ?_
          rintro e w2 ⟨rfl, hb2⟩
          rw [HR.out]
          have hb := hb2
          have z0 := cell_later hb Z0.out
          have z1 := cell_later hb Z1.out
          have z2 := cell_later hb Z2.out
          have z3 := cell_later hb Z3.out
          have z4 := cell_later hb Z4.out
          clear hb
          go_wp2_with fail
          refine (HCON.out w2 hb2).mono ?_
          rintro e w3 ⟨v, rfl, hv, hb3⟩
          go_wp2
          go_ret
          exact ⟨_, rfl, hv, below_then B1 (below_then hb2 hb3)⟩
        | false =>
          obtain ⟨s, hs⟩ := get_some hB hk
          have hsl : s.length = 32 := O.bl _ (List.mem_of_getElem? hs)
          rw [cont_not (d := ⟨dp, nx, bl, ca, qu⟩) hF]
          have hgd : bl.getD (k : Int).toNat [] = s := by rw [Int.toNat_natCast]; exact getD_of hs
          simp only [hgd]
          rw [hF] at hcon
          have HCON := Lib.hid hcon; have HS := Lib.hid hs
          clear hR hB hC hQ z0 z1 z2 z3 z4 hF hs hgd O hcon
          go_enter Try.func17, Try.ntmps17
          go_wp2_with fail
          rw [← HW.out]
          clear HW
          refine (check_14 dp nx aB aC aQ bl ca qu nB cB nC cC nQ cQ w1 GB GC GQ NB.out NC.out NQ.out mB mC mQ).mono ?_
          rintro e w2 ⟨rfl, hb2⟩
          rw [HR.out]
          have hb := hb2
          have z0 := cell_later hb Z0.out
          have z1 := cell_later hb Z1.out
          have z2 := cell_later hb Z2.out
          have z3 := cell_later hb Z3.out
          have z4 := cell_later hb Z4.out
          clear hb
          go_wp2_with fail
          refine (HCON.out w2 hb2).mono ?_
          rintro e w3 ⟨v, rfl, hv, hb3⟩
          obtain ⟨b, off, rfl, hc⟩ := (GB.below (below_then hb2 hb3)) (by rw [NB.out]; omega)
          obtain ⟨a', c', s0, hc1, hc2, hc3, hbt⟩ := hc k _ HS.out
          simp only [hsl] at s0 hc1
          have y2 := cell_later (below_then hb2 hb3) Z2.out
          clear hc
          go_wp2_with fail
          refine (bytes_43 a' s 32 c' w3 hbt hsl hc3 hc1 (by omega)).mono ?_
          rintro e w4 ⟨v4, rfl, hv4, hb4⟩
          obtain ⟨a2, k2, rfl, _, _, _, _⟩ := hv4.form hsl
          go_wp2
          go_ret
          exact ⟨_, rfl, hv4, below_then B1 (below_then hb2 (below_then hb3 hb4))⟩
  · have t0 : (R != 0) = true := by simpa using h0
    rw [contD_no (by show ¬ (chk ⟨dp, nx, bl, ca, qu⟩ = 0 ∧ _); rw [hR, hB]; omega)]
    have HR := Lib.hid hR
    clear hR hB hC hQ z0 z1 z2 z3 z4
    go_enter Try.func17, Try.ntmps17
    go_wp2_with fail
    rw [← HW.out]
    clear HW
    refine (check_14 dp nx aB aC aQ bl ca qu nB cB nC cC nQ cQ w1 GB GC GQ NB.out NC.out NQ.out mB mC mQ).mono ?_
    rintro e w2 ⟨rfl, hb2⟩
    rw [HR.out]
    have hb := hb2
    have z0 := cell_later hb Z0.out
    have z1 := cell_later hb Z1.out
    have z2 := cell_later hb Z2.out
    have z3 := cell_later hb Z3.out
    have z4 := cell_later hb Z4.out
    clear hb
    go_wp2
    go_ret
    exact ⟨_, rfl, SlV.nil _, below_then B1 hb2⟩
end Go.Proofs.Ytlhbjmoncdljoaa
