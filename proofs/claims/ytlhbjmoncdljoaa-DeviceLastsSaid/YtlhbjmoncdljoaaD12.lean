/- Walks: a new device of the reference; equal requests and devices. -/
import Derived.Test.YtlhbjmoncdljoaaD11
namespace Go.Dev
theorem newD_bad {dp : Int} {bl : List (List Int)} (h : dp < 1 ∨ 16 < dp ∨ bl.length < 1 ∨ 256 < bl.length) : newD dp bl = (zero, 2) := by
  refine newD_no (chk_rng ?_) (by decide)
  unfold rng
  rw [decide_eq_false_iff_not]
  simp only
  omega
theorem newD_good {dp : Int} {bl : List (List Int)} (h : ¬ (dp < 1 ∨ 16 < dp ∨ bl.length < 1 ∨ 256 < bl.length)) : chk ⟨dp, 0, bl, [], []⟩ = blE bl := by
  have hr : rng ⟨dp, 0, bl, [], []⟩ = true := by
    unfold rng
    rw [decide_eq_true_eq]
    simp only
    omega
  by_cases hb : blE bl = 0
  · rw [hb, chk_qu hr hb rfl rfl (by simp only [List.length_nil]; omega)]; rfl
  · exact chk_bl hr hb
def sameD (d d' : D) : Bool := decide (d.dp = d'.dp ∧ d.nx = d'.nx ∧ d.bl = d'.bl ∧ d.ca = d'.ca ∧ d.qu = d'.qu)
theorem ext_upto {α : Type} {l l' : List α} {n : Nat} (h : l.length = n) (h' : l'.length = n) (he : ∀ j, j < n → l[j]? = l'[j]?) : l = l' := by
  refine List.ext_getElem? fun j => ?_
  rcases Nat.lt_or_ge j n with hj | hj
  · exact he j hj
  · rw [List.getElem?_eq_none (by omega), List.getElem?_eq_none (by omega)]
theorem sameD_refl (d : D) : sameD d d = true := by simp [sameD]
theorem sameD_eq {d d' : D} (h : sameD d d' = true) : d = d' := by
  unfold sameD at h
  rw [decide_eq_true_eq] at h
  cases d; cases d'
  simp at h
  simp [h]
end Go.Dev
namespace Go.Proofs.Ytlhbjmoncdljoaa
open Go.RowKit Go.Over Go.Dev Go.Seg Go.Grow
set_option maxRecDepth 100000 in set_option maxHeartbeats 3200000 in
theorem new_23 (dp : Int) (aB : Option Addr) (bl : List (List Int)) (nB cB : Nat) (w : World) (HB : Bls w aB bl) (hB : bl.length = nB) (mB : nB ≤ 1000000) :
    Calls Try.prog 23 #[.int .i64 dp, .slice aB nB cB] w (DevAns (newD dp bl) w) := by
  subst hB
  have hA : Blk (w.alloc (.cells #[.int .i64 0, .int .i64 0, .slice none 0 0, .slice none 0 0, .slice none 0 0] 26)) w.heap.size 26 zD := Blk.new w 26 _ _ rfl
  have hb := below_box w (.cells #[.int .i64 0, .int .i64 0, .slice none 0 0, .slice none 0 0, .slice none 0 0] 26)
  obtain ⟨w1, hw1⟩ : ∃ W, W = w.alloc (.cells #[.int .i64 0, .int .i64 0, .slice none 0 0, .slice none 0 0, .slice none 0 0] 26) := ⟨_, rfl⟩
  rw [← hw1] at hA hb
  have HW := Lib.hid hw1
  obtain ⟨P, hP⟩ : ∃ P, newD dp bl = P := ⟨_, rfl⟩
  rw [hP]
  have HP := Lib.hid hP
  clear hw1 hP
  by_cases hbad : dp < 1 ∨ 16 < dp ∨ bl.length < 1 ∨ 256 < bl.length
  · obtain rfl := HP.out.symm.trans (newD_bad hbad)
    have hcase : dp < 1 ∨ (1 ≤ dp ∧ 16 < dp) ∨ (1 ≤ dp ∧ dp ≤ 16 ∧ bl.length < 1) ∨ (1 ≤ dp ∧ dp ≤ 16 ∧ 1 ≤ bl.length ∧ 256 < bl.length) := by omega
    clear hbad
    have y0 := hA.cell 0
    have y1 := hA.cell 1
    have y2 := hA.cell 2
    have y3 := hA.cell 3
    have y4 := hA.cell 4
    have f0 := hA.frozen 0
    have f1 := hA.frozen 1
    have f2 := hA.frozen 2
    have f3 := hA.frozen 3
    have f4 := hA.frozen 4
    simp only [zD, List.getElem?_cons_zero, List.getElem?_cons_succ] at y0 y1 y2 y3 y4
    rcases hcase with h1 | ⟨h1, h2⟩ | ⟨h1, h2, h3⟩ | ⟨h1, h2, h3, h4⟩
    all_goals
      go_enter Try.func23, Try.ntmps23
      go_wp2_with fail
      rw [← HW.out]
      clear HW
      go_wp2
      have hA' : Blk w1 w.heap.size 26 [.int .i64 0, .int .i64 0, .slice none 0 0, .slice none 0 0, .slice none 0 0] := hA
      refine bodyPost_ret (results_cell_one rfl _ _ w.heap.size _ _ _ _ _ _ rfl hA' rfl) rfl ⟨_, rfl, OwnD.zero _ _, hb⟩
  · have hg := newD_good hbad
    obtain ⟨R, hR⟩ : ∃ R, blE bl = R := ⟨_, rfl⟩
    rw [hR] at hg
    have h1 : 1 ≤ dp := by omega
    have h2 : dp ≤ 16 := by omega
    have h3 : 1 ≤ bl.length := by omega
    have h4 : bl.length ≤ 256 := by omega
    have hC := blE_38 aB bl bl.length cB w1 (HB.below hb) rfl mB
    rw [hR] at hC
    have HC := Lib.hid hC
    have HB1 := HB.below hb
    clear hbad hC hR
    by_cases h0 : R = 0
    · subst h0
      obtain rfl := HP.out.symm.trans (newD_yes hg)
      have O := chk_ok.1 hg
      have hcl := copy_46 dp 0 aB none none bl [] [] bl.length cB 0 0 0 0 w1 HB1 (cas_nil _) (rqs_nil _) rfl rfl rfl (by omega) (by omega) (by omega) (ok_bl O) (by simp) (by simp)
      have HL := Lib.hid hcl
      clear hcl O hg
      go_enter Try.func23, Try.ntmps23
      go_wp2_with fail
      rw [← HW.out]
      clear HW
      go_wp2_with fail
      refine HC.out.mono ?_
      rintro e w2 ⟨rfl, rfl⟩
      go_wp2_with fail
      refine HL.out.mono ?_
      rintro e w3 ⟨v, rfl, hO, hb3⟩
      obtain ⟨VB, VC, VQ, a1, k1, a2, k2, a3, k3, rfl, rfl, rfl, rfl, r1, r2, r3⟩ := hO.cells
      have hR3 := hA.later hb3
      have y0 := hR3.cell 0
      have y1 := hR3.cell 1
      have y2 := hR3.cell 2
      have y3 := hR3.cell 3
      have y4 := hR3.cell 4
      have f0 := hR3.frozen 0
      have f1 := hR3.frozen 1
      have f2 := hR3.frozen 2
      have f3 := hR3.frozen 3
      have f4 := hR3.frozen 4
      simp only [zD, List.getElem?_cons_zero, List.getElem?_cons_succ] at y0 y1 y2 y3 y4
      go_wp2
      have hs1 := hb.size
      refine bodyPost_ret (results_cell_one rfl _ _ w.heap.size _ _ _ _ _ _ rfl (set5 hR3 _ _ _ _ _) rfl) rfl ⟨_, rfl, own5 (d := ⟨dp, 0, bl, [], []⟩) hR3 (r1.weaken (by omega)) (r2.weaken (by omega)) (r3.weaken (by omega)) _ _ _ _ _, below5 (below_then hb hb3) (Nat.le_refl _) _ _ _ _ _⟩
    · have t0 : (R != 0) = true := by simpa using h0
      obtain rfl := HP.out.symm.trans (newD_no hg h0)
      clear hg
      have y0 := hA.cell 0
      have y1 := hA.cell 1
      have y2 := hA.cell 2
      have y3 := hA.cell 3
      have y4 := hA.cell 4
      have f0 := hA.frozen 0
      have f1 := hA.frozen 1
      have f2 := hA.frozen 2
      have f3 := hA.frozen 3
      have f4 := hA.frozen 4
      simp only [zD, List.getElem?_cons_zero, List.getElem?_cons_succ] at y0 y1 y2 y3 y4
      go_enter Try.func23, Try.ntmps23
      go_wp2_with fail
      rw [← HW.out]
      clear HW
      go_wp2_with fail
      refine HC.out.mono ?_
      rintro e w2 ⟨rfl, rfl⟩
      go_wp2
      refine bodyPost_ret (results_cell_one rfl _ _ w.heap.size _ _ _ _ _ _ rfl (set5 hA _ _ _ _ _) rfl) rfl ⟨_, rfl, OwnD.zero _ _, below5 hb (Nat.le_refl _) _ _ _ _ _⟩
set_option maxRecDepth 100000 in set_option maxHeartbeats 3200000 in
theorem sameq_29 (p1 p2 p3 q1 q2 q3 : Int) (a a' : Option Addr) (s t : List Int) (n n' c c' : Nat) (w : World) (H : Bt w a s) (H' : Bt w a' t) (hn : s.length = n) (hn' : t.length = n') (hm : n ≤ 1000000) (hm' : n' ≤ 1000000) :
    Calls Try.prog 29 #[.agg #[.int .i64 p1, .int .i64 p2, .int .i64 p3, .slice a n c], .agg #[.int .i64 q1, .int .i64 q2, .int .i64 q3, .slice a' n' c']] w fun e w' => e = .returned (.bool (decide ((p1, p2, p3, s) = (q1, q2, q3, t)))) ∧ Below w.heap.size w w' := by
  have hb := below_alloc (below_box w (.cells #[.int .i64 p1, .int .i64 p2, .int .i64 p3, .slice a n c] 39)) (.cells #[.int .i64 q1, .int .i64 q2, .int .i64 q3, .slice a' n' c'] 39)
  have hS := same_15 a a' s t n n' c c' _ (H.below hb) (H'.below hb) hn hn' hm hm'
  obtain ⟨R, hR⟩ : ∃ R, decide ((p1, p2, p3, s) = (q1, q2, q3, t)) = R := ⟨_, rfl⟩
  obtain ⟨E, hE⟩ : ∃ E, decide (s = t) = E := ⟨_, rfl⟩
  rw [hR]
  rw [hE] at hS
  have HS := Lib.hid hS; have HB := Lib.hid hb
  have hRE : R = (decide (p1 = q1) && (decide (p2 = q2) && (decide (p3 = q3) && E))) := by
    rw [← hR, ← hE]
    simp
  have HRE := Lib.hid hRE
  clear hR hE hS hRE hb hn hn'
  by_cases h1 : p1 = q1
  · have t1 : (p1 == q1) = true := by simpa using h1
    by_cases h2 : p2 = q2
    · have t2 : (p2 == q2) = true := by simpa using h2
      by_cases h3 : p3 = q3
      · have t3 : (p3 == q3) = true := by simpa using h3
        have HF := Lib.hid (show R = E by rw [HRE.out, decide_eq_true h1, decide_eq_true h2, decide_eq_true h3]; simp)
        clear h1 h2 h3
        go_enter Try.func29, Try.ntmps29
        go_wp2_with (go_at_call 15; refine (HS.out).mono ?_; rintro e w2 ⟨rfl, hb2⟩)
        go_ret
        exact ⟨by rw [HF.out]; rfl, below_then HB.out (by assumption)⟩
      · have t3 : (p3 == q3) = false := by simpa using h3
        have HF := Lib.hid (show R = false by rw [HRE.out, decide_eq_false h3]; simp)
        clear h1 h2 h3
        go_enter Try.func29, Try.ntmps29
        go_wp2
        go_ret
        exact ⟨by rw [HF.out]; rfl, HB.out⟩
    · have t2 : (p2 == q2) = false := by simpa using h2
      have HF := Lib.hid (show R = false by rw [HRE.out, decide_eq_false h2]; simp)
      clear h1 h2
      go_enter Try.func29, Try.ntmps29
      go_wp2
      go_ret
      exact ⟨by rw [HF.out]; rfl, HB.out⟩
  · have t1 : (p1 == q1) = false := by simpa using h1
    have HF := Lib.hid (show R = false by rw [HRE.out, decide_eq_false h1]; simp)
    clear h1
    go_enter Try.func29, Try.ntmps29
    go_wp2
    go_ret
    exact ⟨by rw [HF.out]; rfl, HB.out⟩
end Go.Proofs.Ytlhbjmoncdljoaa
