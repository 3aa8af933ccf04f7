/- The run encodings of the program and of the reference, and the reference's Filled. -/
import Derived.Test.YtaapgfhcnfaemaaBase
import Derived.OwnWalk
namespace Go.Proofs.Ytaapgfhcnfaemaa
open Go.RowKit Go.Over Go.Zip Go.Seg
theorem runsL_end {l : List Int} {i : Nat} (h : l.length ≤ i) : ∀ f, runsL l f i = []
  | 0 => rfl
  | f + 1 => by simp only [runsL]; rw [if_neg (by omega)]
theorem runsL_step {l : List Int} {i f : Nat} (h : i < l.length) : runsL l (f + 1) i = (runLen l i : Int) :: get l i :: runsL l f (i + runLen l i) := by
  simp only [runsL]; rw [if_pos h]
/-- The inner loop's state: n bytes from i on are equal. -/
def Run (l : List Int) (i n : Nat) : Prop := 1 ≤ n ∧ i + n ≤ l.length ∧ ∀ m, m < n - 1 → runP l i m = true
theorem Run.step {l : List Int} {i n : Nat} (h : Run l i n) (h1 : i + n < l.length) (h2 : get l (i + n) = get l i) : Run l i (n + 1) := by
  refine ⟨by omega, by omega, fun m hm => ?_⟩
  by_cases hm2 : m < n - 1
  · exact h.2.2 m hm2
  · obtain rfl : m = n - 1 := by omega
    have h0 := h.1
    simp only [runP, Bool.and_eq_true, decide_eq_true_eq, beq_iff_eq]
    rw [show i + 1 + (n - 1) = i + n by omega]
    exact ⟨h1, h2⟩
theorem Run.stop {l : List Int} {i n : Nat} (h : Run l i n) (hs : ¬ (i + n < l.length ∧ get l (i + n) = get l i)) : runLen l i = n := by
  have h0 := h.1
  rw [show n = (n - 1) + 1 by omega]
  refine runLen_eq h.2.2 ?_ (by have := h.2.1; omega)
  rw [Bool.eq_false_iff]
  intro hc
  simp only [runP, Bool.and_eq_true, decide_eq_true_eq, beq_iff_eq] at hc
  rw [show i + 1 + (n - 1) = i + n by omega] at hc
  exact hs hc
/-- The outer loop's state. -/
def RunsAt (l : List Int) (i : Nat) (done : List Int) : Prop := i ≤ l.length ∧ done.length ≤ 2 * i ∧ (∀ x ∈ done, 0 ≤ x ∧ x ≤ 255) ∧ ∃ f, l.length ≤ i + f ∧ done ++ runsL l f i = runsL l 32 0
theorem Owns.below {w : World} {v : Value} {l : List Int} {base : Nat} (h : Owns w base v l) (n : Nat) : Owns (w.drewN n) base v l := h
theorem RunsAt.step {l : List Int} {k j : Nat} {done : List Int} (hl : l.length = 32) (hb : ∀ i, i < 32 → 0 ≤ get l i ∧ get l i ≤ 255) (h : RunsAt l k done) (hk : k < 32) (hj : runLen l k = j) :
    RunsAt l (k + j) (done ++ [(j : Int), get l k]) := by
  obtain ⟨h1, h2, h3, f, h4, h5⟩ := h
  have h6 := runLen_le (l := l) (i := k) (by omega)
  have h7 := runLen_pos l k
  rw [hj] at h6 h7
  cases f with
  | zero => omega
  | succ f =>
    rw [runsL_step (by omega), hj] at h5
    refine ⟨by omega, by simp; omega, ?_, f, by omega, by simpa using h5⟩
    intro x hx
    simp only [List.mem_append, List.mem_cons, List.not_mem_nil, or_false] at hx
    rcases hx with hx | rfl | rfl
    · exact h3 x hx
    · omega
    · exact hb k hk
theorem owns_lit (w : World) (x : Int) : Owns (w.alloc (.cells #[.int .u8 x] 5)) w.heap.size (.slice (some ⟨w.heap.size, 0, none⟩) 1 1) [x] :=
  World.ownsRow_lit w #[.int .u8 x] 1 (Nat.le_refl _) (by unfold maxLen; omega) rfl
theorem two_cells (w : World) (x y : Int) : ∀ j u, ([.int .u8 x, .int .u8 y] : List Value)[j]? = some u → (w.alloc (.cells #[.int .u8 x, .int .u8 y] 5)).cell? ((⟨w.heap.size, 0, none⟩ : Addr).add j) = some u := by
  intro j u hj
  rw [show (⟨w.heap.size, 0, none⟩ : Addr).add j = ⟨w.heap.size, j, none⟩ by unfold Addr.add; split <;> simp_all]
  rw [World.cell?, heap_new]
  rw [← List.getElem?_toArray] at hj
  simpa using hj
set_option maxHeartbeats 1600000 in
theorem runs_20 (a : Option Addr) (l : List Int) (c : Nat) (w : World) (H : Bytes w a l) (h : l.length = 32) :
    Calls Try.prog 20 #[.slice a 32 c] w fun e w' => ∃ v, e = .returned v ∧ Owns w' w.heap.size v (1 :: runsL l 32 0) ∧ Below w.heap.size w w' := by
  obtain ⟨b, off, rfl, _⟩ := H.2.1 (by omega)
  obtain ⟨i0, hi, hz0, hz1, hz2⟩ := info_parts Try.info5
  have hbd : ∀ i, i < 32 → 0 ≤ get l i ∧ get l i ≤ 255 := fun i hi => H.bound (by omega)
  have HL := Lib.hid h; clear h
  have HBD := Lib.hid hbd; clear hbd
  go_enter Try.func20, Try.ntmps20
  go_wp2
  go_loopw [3, 4] (fun v0 i wr => ∃ (k : Nat) (done : List Int) (v : Value), v = v0 ∧ i = .int .i64 k ∧ RunsAt l k done ∧ Owns wr w.heap.size v (1 :: done) ∧ Below w.heap.size w wr) (fun _ i _ => 32 - (intOf i).toNat)
  case atStart =>
    refine ⟨0, [], _, rfl, rfl, ⟨by omega, by simp, (fun x hx => by simp at hx), 32, by have := HL.out; omega, rfl⟩, ?_, (by repeat (first | with_reducible exact Below.refl _ _ | with_reducible assumption | with_reducible refine below_alloc ?_ _ | with_reducible refine Below.setCell ?_ (by first | exact Nat.le_refl _ | (simp; done) | (simp; omega)) _ | with_reducible refine Below.drew ?_ | with_reducible refine below_drewN ?_ _ | with_reducible refine below_then ?_ (by with_reducible assumption)))⟩
    exact owns_lit w 1
  case round =>
    obtain ⟨k, done, v, rfl, rfl, hR, hO, hB⟩ := hrel
    have hL := HL.out
    by_cases hlt : k < 32
    · have hbk := HBD.out k hlt
      clear hL
      go_wp2
      go_loopw [5] (fun n wi => ∃ j : Nat, n = .int .i64 j ∧ Run l k j ∧ Owns wi w.heap.size v (1 :: done) ∧ Below w.heap.size w wi) (fun n _ => 32 - (intOf n).toNat)
      case atStart => exact ⟨1, rfl, ⟨Nat.le_refl _, by have := HL.out; omega, fun m hm => by omega⟩, hO, hB⟩
      case round =>
        obtain ⟨j, rfl, hj, hOi, hBi⟩ := hrel
        clear hO hB
        have hL := HL.out
        obtain ⟨b', off', hab, hcell⟩ := (H.below hBi).2.1 (by omega)
        cases hab
        have ck := hcell k (by omega)
        obtain ⟨s, hs⟩ : ∃ s, s = k + j := ⟨_, rfl⟩
        have hj0 := hj.1
        have hj1 := hj.2.1
        have hj2 : j ≤ 32 := by omega
        have e1 : IntKind.i64.wrap ((k : Int) + (j : Int)) = (s : Int) := by rw [IntWalk.i64_in _ (by omega)]; omega
        by_cases h1 : s < 32
        · have cs := hcell s (by omega)
          clear hcell hL
          have d1 : decide ((s : Int) < 32) = true := by simp; omega
          by_cases h2 : get l s = get l k
          · have HJ := Lib.hid (hj.step (by have := HL.out; omega) (by rw [← hs]; exact h2))
            have b2 : (get l s == get l k) = true := by simp [h2]
            have HS := Lib.hid hs; clear hs h2 hj
            go_wp2
            go_quiet (fail)
            go_wp2
            go_roundw
            case rel => exact ⟨j + 1, by go_num, HJ.out, hOi.below _, below_drewN hBi _⟩
            case measure => have := HS.out; simp [intOf]; omega
          · have hr : runLen l k = j := hj.stop (fun hc => h2 (by rw [hs]; exact hc.2))
            have b2 : (get l s == get l k) = false := by simp [h2]
            have HS := Lib.hid hs; have HR := Lib.hid hr; clear hs h2 hj hr
            go_wp2
            go_quiet (fail)
            obtain ⟨W2, hW2⟩ : ∃ W2, W2 = wr.drewN nq := ⟨_, rfl⟩
            rw [← hW2]
            have hO2 : Owns W2 w.heap.size v (1 :: done) := by rw [hW2]; exact hOi.below _
            have hB2 : Below w.heap.size w W2 := by rw [hW2]; exact below_drewN hBi _
            have ck2 : W2.cell? ⟨b, off + k, none⟩ = some (.int .u8 (get l k)) := by rw [hW2]; exact ck
            clear hOi hBi hW2
            have hj9 : (j : Int) ≤ 32 := by omega
            have hlen : (1 :: done).length ≤ 65 := by have := hR.2.1; simp; omega
            go_wp2_with (at_builtin; refine wpList_append_own _ rfl (.tmp 32) (.tmp 39) 22 rfl w.heap.size 5 i0 (.int .u8 0) 1 1 Try.underlying22 hi hz0 hz1 hz2 rfl (by decide) _ _ _ rfl (hO2.alloc _) ⟨W2.heap.size, 0, none⟩ 2 2 [.int .u8 j, .int .u8 (get l k)] rfl ?c1 (two_cells W2 _ _) ?c2 ?c3 ?c4 ?c5 ?_)
            case c1 => rfl
            case c2 => exact u8_one [(j : Int), get l k]
            case c3 => unfold maxLen; omega
            case c4 => omega
            case c5 => have := hB2.size; simp; omega
            intro v' w1 hown hgrow _
            have hB3 : Below w.heap.size w w1 := (below_alloc hB2 _).grown hgrow (by have := hB2.size; simp; omega) (fun g hg => (hO2.lt g hg).1)
            clear hgrow
            have hO3 : Owns w1 w.heap.size v' (1 :: (done ++ [(j : Int), get l k])) := by
              unfold Owns
              simpa using hown
            clear hown
            go_wp2
            go_roundw
            case rel => exact ⟨s, _, v', rfl, by go_num, by rw [HS.out]; exact hR.step HL.out HBD.out hlt HR.out, hO3, hB3⟩
            case measure => have := HS.out; simp [intOf]; omega
        · have hr : runLen l k = j := hj.stop (fun hc => h1 (by have := HL.out; omega))
          have d1 : decide ((s : Int) < 32) = false := by simp; omega
          have HS := Lib.hid hs; have HR := Lib.hid hr; clear hs h1 hj hr hcell hL
          go_wp2
          go_quiet (fail)
          obtain ⟨W2, hW2⟩ : ∃ W2, W2 = wr.drewN nq := ⟨_, rfl⟩
          rw [← hW2]
          have hO2 : Owns W2 w.heap.size v (1 :: done) := by rw [hW2]; exact hOi.below _
          have hB2 : Below w.heap.size w W2 := by rw [hW2]; exact below_drewN hBi _
          have ck2 : W2.cell? ⟨b, off + k, none⟩ = some (.int .u8 (get l k)) := by rw [hW2]; exact ck
          clear hOi hBi hW2
          have hj9 : (j : Int) ≤ 32 := by omega
          have hlen : (1 :: done).length ≤ 65 := by have := hR.2.1; simp; omega
          go_wp2_with (at_builtin; refine wpList_append_own _ rfl (.tmp 32) (.tmp 39) 22 rfl w.heap.size 5 i0 (.int .u8 0) 1 1 Try.underlying22 hi hz0 hz1 hz2 rfl (by decide) _ _ _ rfl (hO2.alloc _) ⟨W2.heap.size, 0, none⟩ 2 2 [.int .u8 j, .int .u8 (get l k)] rfl ?c1 (two_cells W2 _ _) ?c2 ?c3 ?c4 ?c5 ?_)
          case c1 => rfl
          case c2 => exact u8_one [(j : Int), get l k]
          case c3 => unfold maxLen; omega
          case c4 => omega
          case c5 => have := hB2.size; simp; omega
          intro v' w1 hown hgrow _
          have hB3 : Below w.heap.size w w1 := (below_alloc hB2 _).grown hgrow (by have := hB2.size; simp; omega) (fun g hg => (hO2.lt g hg).1)
          clear hgrow
          have hO3 : Owns w1 w.heap.size v' (1 :: (done ++ [(j : Int), get l k])) := by
            unfold Owns
            simpa using hown
          clear hown
          go_wp2
          go_roundw
          case rel => exact ⟨s, _, v', rfl, by go_num, by rw [HS.out]; exact hR.step HL.out HBD.out hlt HR.out, hO3, hB3⟩
          case measure => have := HS.out; simp [intOf]; omega
    · go_wp2
      go_ret
      obtain ⟨h1, h2, h3, f, h4, h5⟩ := hR
      rw [runsL_end (by omega), List.append_nil] at h5
      subst h5
      exact ⟨v, rfl, hO, hB⟩
set_option maxHeartbeats 1600000 in
theorem runs_22 (a : Option Addr) (l : List Int) (c : Nat) (w : World) (H : Bytes w a l) (h : l.length = 32) :
    Calls Try.prog 22 #[.slice a 32 c] w fun e w' => ∃ v, e = .returned v ∧ Owns w' w.heap.size v (1 :: runsL l 32 0) ∧ Below w.heap.size w w' := by
  obtain ⟨b, off, rfl, _⟩ := H.2.1 (by omega)
  obtain ⟨i0, hi, hz0, hz1, hz2⟩ := info_parts Try.info5
  have hbd : ∀ i, i < 32 → 0 ≤ get l i ∧ get l i ≤ 255 := fun i hi => H.bound (by omega)
  have HL := Lib.hid h; clear h
  have HBD := Lib.hid hbd; clear hbd
  go_enter Try.func22, Try.ntmps22
  go_wp2
  go_loopw [3, 4] (fun v0 i wr => ∃ (k : Nat) (done : List Int) (v : Value), v = v0 ∧ i = .int .i64 k ∧ RunsAt l k done ∧ Owns wr w.heap.size v (1 :: done) ∧ Below w.heap.size w wr) (fun _ i _ => 32 - (intOf i).toNat)
  case atStart =>
    refine ⟨0, [], _, rfl, rfl, ⟨by omega, by simp, (fun x hx => by simp at hx), 32, by have := HL.out; omega, rfl⟩, ?_, (by repeat (first | with_reducible exact Below.refl _ _ | with_reducible assumption | with_reducible refine below_alloc ?_ _ | with_reducible refine Below.setCell ?_ (by first | exact Nat.le_refl _ | (simp; done) | (simp; omega)) _ | with_reducible refine Below.drew ?_ | with_reducible refine below_drewN ?_ _ | with_reducible refine below_then ?_ (by with_reducible assumption)))⟩
    exact owns_lit w 1
  case round =>
    obtain ⟨k, done, v, rfl, rfl, hR, hO, hB⟩ := hrel
    have hL := HL.out
    by_cases hlt : k < 32
    · have hbk := HBD.out k hlt
      clear hL
      go_wp2
      go_loopw [5] (fun n wi => ∃ j : Nat, n = .int .i64 j ∧ Run l k j ∧ Owns wi w.heap.size v (1 :: done) ∧ Below w.heap.size w wi) (fun n _ => 32 - (intOf n).toNat)
      case atStart => exact ⟨1, rfl, ⟨Nat.le_refl _, by have := HL.out; omega, fun m hm => by omega⟩, hO, hB⟩
      case round =>
        obtain ⟨j, rfl, hj, hOi, hBi⟩ := hrel
        clear hO hB
        have hL := HL.out
        obtain ⟨b', off', hab, hcell⟩ := (H.below hBi).2.1 (by omega)
        cases hab
        have ck := hcell k (by omega)
        obtain ⟨s, hs⟩ : ∃ s, s = k + j := ⟨_, rfl⟩
        have hj0 := hj.1
        have hj1 := hj.2.1
        have hj2 : j ≤ 32 := by omega
        have e1 : IntKind.i64.wrap ((k : Int) + (j : Int)) = (s : Int) := by rw [IntWalk.i64_in _ (by omega)]; omega
        by_cases h1 : s < 32
        · have cs := hcell s (by omega)
          clear hcell hL
          have d1 : decide ((s : Int) < 32) = true := by simp; omega
          by_cases h2 : get l s = get l k
          · have HJ := Lib.hid (hj.step (by have := HL.out; omega) (by rw [← hs]; exact h2))
            have b2 : (get l s == get l k) = true := by simp [h2]
            have HS := Lib.hid hs; clear hs h2 hj
            go_wp2
            go_quiet (fail)
            go_wp2
            go_roundw
            case rel => exact ⟨j + 1, by go_num, HJ.out, hOi.below _, below_drewN hBi _⟩
            case measure => have := HS.out; simp [intOf]; omega
          · have hr : runLen l k = j := hj.stop (fun hc => h2 (by rw [hs]; exact hc.2))
            have b2 : (get l s == get l k) = false := by simp [h2]
            have HS := Lib.hid hs; have HR := Lib.hid hr; clear hs h2 hj hr
            go_wp2
            go_quiet (fail)
            obtain ⟨W2, hW2⟩ : ∃ W2, W2 = wr.drewN nq := ⟨_, rfl⟩
            rw [← hW2]
            have hO2 : Owns W2 w.heap.size v (1 :: done) := by rw [hW2]; exact hOi.below _
            have hB2 : Below w.heap.size w W2 := by rw [hW2]; exact below_drewN hBi _
            have ck2 : W2.cell? ⟨b, off + k, none⟩ = some (.int .u8 (get l k)) := by rw [hW2]; exact ck
            clear hOi hBi hW2
            have hj9 : (j : Int) ≤ 32 := by omega
            have hlen : (1 :: done).length ≤ 65 := by have := hR.2.1; simp; omega
            go_wp2_with (at_builtin; refine wpList_append_own _ rfl (.tmp 32) (.tmp 39) 22 rfl w.heap.size 5 i0 (.int .u8 0) 1 1 Try.underlying22 hi hz0 hz1 hz2 rfl (by decide) _ _ _ rfl (hO2.alloc _) ⟨W2.heap.size, 0, none⟩ 2 2 [.int .u8 j, .int .u8 (get l k)] rfl ?c1 (two_cells W2 _ _) ?c2 ?c3 ?c4 ?c5 ?_)
            case c1 => rfl
            case c2 => exact u8_one [(j : Int), get l k]
            case c3 => unfold maxLen; omega
            case c4 => omega
            case c5 => have := hB2.size; simp; omega
            intro v' w1 hown hgrow _
            have hB3 : Below w.heap.size w w1 := (below_alloc hB2 _).grown hgrow (by have := hB2.size; simp; omega) (fun g hg => (hO2.lt g hg).1)
            clear hgrow
            have hO3 : Owns w1 w.heap.size v' (1 :: (done ++ [(j : Int), get l k])) := by
              unfold Owns
              simpa using hown
            clear hown
            go_wp2
            go_roundw
            case rel => exact ⟨s, _, v', rfl, by go_num, by rw [HS.out]; exact hR.step HL.out HBD.out hlt HR.out, hO3, hB3⟩
            case measure => have := HS.out; simp [intOf]; omega
        · have hr : runLen l k = j := hj.stop (fun hc => h1 (by have := HL.out; omega))
          have d1 : decide ((s : Int) < 32) = false := by simp; omega
          have HS := Lib.hid hs; have HR := Lib.hid hr; clear hs h1 hj hr hcell hL
          go_wp2
          go_quiet (fail)
          obtain ⟨W2, hW2⟩ : ∃ W2, W2 = wr.drewN nq := ⟨_, rfl⟩
          rw [← hW2]
          have hO2 : Owns W2 w.heap.size v (1 :: done) := by rw [hW2]; exact hOi.below _
          have hB2 : Below w.heap.size w W2 := by rw [hW2]; exact below_drewN hBi _
          have ck2 : W2.cell? ⟨b, off + k, none⟩ = some (.int .u8 (get l k)) := by rw [hW2]; exact ck
          clear hOi hBi hW2
          have hj9 : (j : Int) ≤ 32 := by omega
          have hlen : (1 :: done).length ≤ 65 := by have := hR.2.1; simp; omega
          go_wp2_with (at_builtin; refine wpList_append_own _ rfl (.tmp 32) (.tmp 39) 22 rfl w.heap.size 5 i0 (.int .u8 0) 1 1 Try.underlying22 hi hz0 hz1 hz2 rfl (by decide) _ _ _ rfl (hO2.alloc _) ⟨W2.heap.size, 0, none⟩ 2 2 [.int .u8 j, .int .u8 (get l k)] rfl ?c1 (two_cells W2 _ _) ?c2 ?c3 ?c4 ?c5 ?_)
          case c1 => rfl
          case c2 => exact u8_one [(j : Int), get l k]
          case c3 => unfold maxLen; omega
          case c4 => omega
          case c5 => have := hB2.size; simp; omega
          intro v' w1 hown hgrow _
          have hB3 : Below w.heap.size w w1 := (below_alloc hB2 _).grown hgrow (by have := hB2.size; simp; omega) (fun g hg => (hO2.lt g hg).1)
          clear hgrow
          have hO3 : Owns w1 w.heap.size v' (1 :: (done ++ [(j : Int), get l k])) := by
            unfold Owns
            simpa using hown
          clear hown
          go_wp2
          go_roundw
          case rel => exact ⟨s, _, v', rfl, by go_num, by rw [HS.out]; exact hR.step HL.out HBD.out hlt HR.out, hO3, hB3⟩
          case measure => have := HS.out; simp [intOf]; omega
    · go_wp2
      go_ret
      obtain ⟨h1, h2, h3, f, h4, h5⟩ := hR
      rw [runsL_end (by omega), List.append_nil] at h5
      subst h5
      exact ⟨v, rfl, hO, hB⟩
end Go.Proofs.Ytaapgfhcnfaemaa
