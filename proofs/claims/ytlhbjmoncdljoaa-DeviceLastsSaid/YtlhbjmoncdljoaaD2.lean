/- Devices in memory; the small checks. -/
import Derived.Test.YtlhbjmoncdljoaaOver
import Derived.Test.YtlhbjmoncdljoaaSeg2
import Derived.Test.YtlhbjmoncdljoaaRows
import Derived.Test.YtlhbjmoncdljoaaD1
import Derived.OwnWalk
import Derived.Deep.LoopGhost
namespace Go.Proofs.Ytlhbjmoncdljoaa
open Go.RowKit Go.Over Go.Dev Go.Seg
theorem below_box (w : World) (o : Obj) : Below w.heap.size w (w.alloc o) := below_alloc (Below.refl _ _) o
theorem ret_int {k : IntKind} {a b : Int} (h : a = b) : Ending.returned (.int k a) = .returned (.int k b) := by rw [h]
/-- Bytes that lie at a. -/
def Bt (w : World) (a : Option Addr) (l : List Int) : Prop :=
  0 < l.length → ∃ b off, a = some ⟨b, off, none⟩ ∧ ∀ i, i < l.length → w.cell? ⟨b, off + i, none⟩ = some (.int .u8 (l.getD i 0))
/-- A slice of bytes that lies at place o of block b. -/
def SlAt (w : World) (b o : Nat) (l : List Int) : Prop := ∃ a c, w.cell? ⟨b, o, none⟩ = some (.slice a l.length c) ∧ l.length ≤ c ∧ c ≤ maxLen ∧ (a = none → c = 0) ∧ Bt w a l
def CaAt (w : World) (b o : Nat) (c : Ca) : Prop := w.cell? ⟨b, o, none⟩ = some (.int .i64 c.1) ∧ SlAt w b (o + 1) c.2
def RqAt (w : World) (b o : Nat) (q : Rq) : Prop := w.cell? ⟨b, o, none⟩ = some (.int .i64 q.1) ∧ w.cell? ⟨b, o + 1, none⟩ = some (.int .i64 q.2.1) ∧ w.cell? ⟨b, o + 2, none⟩ = some (.int .i64 q.2.2.1) ∧ SlAt w b (o + 3) q.2.2.2
def Bls (w : World) (a : Option Addr) (l : List (List Int)) : Prop := 0 < l.length → ∃ b off, a = some ⟨b, off, none⟩ ∧ ∀ i s, l[i]? = some s → SlAt w b (off + i) s
def Cas (w : World) (a : Option Addr) (l : List Ca) : Prop := 0 < l.length → ∃ b off, a = some ⟨b, off, none⟩ ∧ ∀ i s, l[i]? = some s → CaAt w b (off + i * 2) s
def Rqs (w : World) (a : Option Addr) (l : List Rq) : Prop := 0 < l.length → ∃ b off, a = some ⟨b, off, none⟩ ∧ ∀ i s, l[i]? = some s → RqAt w b (off + i * 4) s
section
variable {w w' : World} {b o : Nat}
theorem Bt.below {a : Option Addr} {l : List Int} (h : Bt w a l) (hb : Below w.heap.size w w') : Bt w' a l := fun h0 => by
  obtain ⟨b, off, ha, hc⟩ := h h0
  exact ⟨b, off, ha, fun i hi => cell_later hb (hc i hi)⟩
theorem SlAt.below {l : List Int} (h : SlAt w b o l) (hb : Below w.heap.size w w') : SlAt w' b o l := by
  obtain ⟨a, c, h1, h2, h3, h4, h5⟩ := h
  exact ⟨a, c, cell_later hb h1, h2, h3, h4, h5.below hb⟩
theorem CaAt.below {c : Ca} (h : CaAt w b o c) (hb : Below w.heap.size w w') : CaAt w' b o c := ⟨cell_later hb h.1, h.2.below hb⟩
theorem RqAt.below {q : Rq} (h : RqAt w b o q) (hb : Below w.heap.size w w') : RqAt w' b o q := ⟨cell_later hb h.1, cell_later hb h.2.1, cell_later hb h.2.2.1, h.2.2.2.below hb⟩
theorem Bls.below {a : Option Addr} {l : List (List Int)} (h : Bls w a l) (hb : Below w.heap.size w w') : Bls w' a l := fun h0 => by
  obtain ⟨b, off, ha, hc⟩ := h h0
  exact ⟨b, off, ha, fun i s hs => (hc i s hs).below hb⟩
theorem Cas.below {a : Option Addr} {l : List Ca} (h : Cas w a l) (hb : Below w.heap.size w w') : Cas w' a l := fun h0 => by
  obtain ⟨b, off, ha, hc⟩ := h h0
  exact ⟨b, off, ha, fun i s hs => (hc i s hs).below hb⟩
theorem Rqs.below {a : Option Addr} {l : List Rq} (h : Rqs w a l) (hb : Below w.heap.size w w') : Rqs w' a l := fun h0 => by
  obtain ⟨b, off, ha, hc⟩ := h h0
  exact ⟨b, off, ha, fun i s hs => (hc i s hs).below hb⟩
end
set_option maxRecDepth 100000 in set_option maxHeartbeats 1600000 in
theorem page_36 (a : Option Addr) (n c : Nat) (w : World) : Calls Try.prog 36 #[.slice a n c] w fun e w' => e = .returned (.bool (decide (n = 32))) ∧ w = w' := by
  by_cases h : n = 32
  · subst h
    go_enter Try.func36, Try.ntmps36
    go_wp2
    go_ret
    exact ⟨rfl, rfl⟩
  · have t1 : ((n : Int) == 32) = false := by simp; omega
    go_enter Try.func36, Try.ntmps36
    go_wp2
    go_ret
    exact ⟨by rw [decide_eq_false h]; rfl, rfl⟩
set_option maxRecDepth 100000 in set_option maxHeartbeats 1600000 in
theorem reqE_40 (nb k b : Int) (n : Nat) (w : World) (h : 1 ≤ nb) : Calls Try.prog 40 #[.int .i64 k, .int .i64 b, .int .i64 n, .int .i64 nb] w fun e w' => e = .returned (.int .i64 (rqE nb k b n)) ∧ w = w' := by
  obtain ⟨R, hR⟩ : ∃ R, rqE nb k b n = R := ⟨_, rfl⟩
  rw [hR]
  have HR := Lib.hid hR
  clear hR
  go_enter Try.func40, Try.ntmps40
  go_wp2
  all_goals
    go_ret
    refine ⟨ret_int ?_, rfl⟩
    rw [← HR.out]
    unfold rqE
    simp only [bne_iff_ne, ne_eq, bne_eq_false_iff_eq] at *
    repeat' split
    all_goals omega
set_option maxRecDepth 100000 in set_option maxHeartbeats 1600000 in
theorem reqE_37 (dp nx : Int) (sC sQ : Value) (aB : Option Addr) (nB cB : Nat) (id k b : Int) (a : Option Addr) (n c : Nat) (w : World) :
    Calls Try.prog 37 #[.agg #[.int .i64 dp, .int .i64 nx, .slice aB nB cB, sC, sQ], .agg #[.int .i64 id, .int .i64 k, .int .i64 b, .slice a n c]] w fun e w' => e = .returned (.int .i64 (rqE nB k b n)) ∧ Below w.heap.size w w' := by
  obtain ⟨R, hR⟩ : ∃ R, rqE nB k b n = R := ⟨_, rfl⟩
  rw [hR]
  have HR := Lib.hid hR
  clear hR
  go_enter Try.func37, Try.ntmps37
  go_wp2_with (go_at_call 36; refine (page_36 _ _ _ _).mono ?_; rintro e w' ⟨rfl, rfl⟩)
  all_goals
    go_ret
    refine ⟨ret_int ?_, (by repeat (first | with_reducible exact Below.refl _ _ | with_reducible assumption | with_reducible refine below_alloc ?_ _ | with_reducible refine Below.drew ?_ | with_reducible refine below_drewN ?_ _ | with_reducible refine below_then ?_ (by with_reducible assumption)))⟩
    rw [← HR.out]
    unfold rqE
    try simp only [beq_iff_eq, beq_eq_false_iff_ne, bne_iff_ne, ne_eq, bne_eq_false_iff_eq] at *
    repeat' split
    all_goals omega
set_option maxRecDepth 100000 in set_option maxHeartbeats 1600000 in
theorem blE_38 (a : Option Addr) (l : List (List Int)) (n c : Nat) (w : World) (H : Bls w a l) (hn : l.length = n) (hm : n ≤ 1000000) : Calls Try.prog 38 #[.slice a n c] w fun e w' => e = .returned (.int .i64 (blE l)) ∧ w = w' := by
  have HN := Lib.hid hn
  obtain ⟨E, hE⟩ : ∃ E, blE l = E := ⟨_, rfl⟩
  rw [hE]
  have HE := Lib.hid hE
  clear hn hE
  go_enter Try.func38, Try.ntmps38
  go_wp2
  go_loopg [3] n (fun g i0 wr => ∃ (i : Nat), i + g = n ∧ i0 = .int .i64 i ∧ E = blE (l.drop i) ∧ w = wr)
  case atStart => exact ⟨0, by omega, rfl, HE.out.symm, rfl⟩
  case round =>
    obtain ⟨i, hg, rfl, hEi, rfl⟩ := hrel
    cases gk with
    | zero =>
      obtain rfl : i = n := by omega
      have H0 := Lib.hid (show E = 0 by rw [hEi, List.drop_eq_nil_of_le (by rw [HN.out]; exact Nat.le_refl _)]; rfl)
      clear hg hEi
      go_wp2
      go_ret
      exact ⟨ret_int H0.out.symm, rfl⟩
    | succ g =>
      have hin : i < n := by omega
      obtain ⟨s, hs⟩ := get_some HN.out hin
      obtain ⟨b, off, rfl, hc⟩ := H (by rw [HN.out]; omega)
      obtain ⟨a', c', s0, _⟩ := hc i s hs
      obtain ⟨m, hm⟩ : ∃ m, s.length = m := ⟨_, rfl⟩
      rw [hm] at s0
      have HST := Lib.hid (hEi.trans (blE_step hs))
      have HM := Lib.hid hm; have HG := Lib.hid hg
      clear hc hs hm hEi hg
      by_cases h32 : m = 32
      · subst h32
        go_wp2
        go_roundg g
        case rel => exact ⟨i + 1, by have := HG.out; omega, by go_num, by have h := HST.out; rw [if_neg (by rw [HM.out]; simp)] at h; exact h, rfl⟩
        case measure => omega
      · have t1 : ((m : Int) != 32) = true := by simp; omega
        go_wp2
        go_ret
        exact ⟨ret_int (by rw [HST.out, if_pos (by rw [HM.out]; exact h32)]), rfl⟩
set_option maxRecDepth 100000 in set_option maxHeartbeats 1600000 in
theorem caE_39 (a : Option Addr) (l : List Ca) (n c : Nat) (nb : Int) (w : World) (H : Cas w a l) (hn : l.length = n) (hm : n ≤ 1000000) : Calls Try.prog 39 #[.slice a n c, .int .i64 nb] w fun e w' => e = .returned (.int .i64 (if caE nb (-1) l ≠ 0 then caE nb (-1) l else cdE l)) ∧ Below w.heap.size w w' := by
  have HN := Lib.hid hn
  obtain ⟨E, hE⟩ : ∃ E, caE nb (-1) l = E := ⟨_, rfl⟩
  obtain ⟨F, hF⟩ : ∃ F, cdE l = F := ⟨_, rfl⟩
  rw [hE, hF]
  obtain ⟨R, hR⟩ : ∃ R, (if E ≠ 0 then E else F) = R := ⟨_, rfl⟩
  rw [hR]
  have HE := Lib.hid hE; have HF := Lib.hid hF; have HR := Lib.hid hR
  clear hn hE hF hR
  go_enter Try.func39, Try.ntmps39
  go_wp2
  go_loopg [5] n (fun g i0 wr => ∃ (i : Nat) (p : Int), i + g = n ∧ i0 = .int .i64 i ∧ E = caE nb p (l.drop i) ∧ (i = 0 → p = -1) ∧ (0 < i → 0 ≤ p ∧ ∃ x, l[i - 1]? = some (p, x)) ∧ Below w.heap.size w wr)
  case atStart => exact ⟨0, -1, by omega, rfl, HE.out.symm, fun _ => rfl, fun h => absurd h (by omega), Below.refl _ _⟩
  case round =>
    obtain ⟨i, p, hg, rfl, hEi, hp0, hp1, hb⟩ := hrel
    cases gk with
    | zero =>
      obtain rfl : i = n := by omega
      have H0 := Lib.hid (show E = 0 by rw [hEi, List.drop_eq_nil_of_le (by rw [HN.out]; exact Nat.le_refl _)]; rfl)
      clear hg hEi hp0 hp1
      go_wp2
      go_loopg [6] i (fun g i0 wr => ∃ (j : Nat), j + g = i ∧ i0 = .int .i64 j ∧ F = cdE (l.drop j) ∧ Below w.heap.size w wr)
      case atStart => exact ⟨0, by omega, rfl, HF.out.symm, hb⟩
      case round =>
        clear hb
        obtain ⟨j, hg, rfl, hFi, hb⟩ := hrel
        cases gk with
        | zero =>
          obtain rfl : j = i := by omega
          have H1 := Lib.hid (show F = 0 by rw [hFi, List.drop_eq_nil_of_le (by rw [HN.out]; exact Nat.le_refl _)]; rfl)
          clear hg hFi
          go_wp2
          go_ret
          exact ⟨ret_int (by rw [← HR.out, H0.out, H1.out]; simp), hb⟩
        | succ g =>
          have hin : j < i := by omega
          obtain ⟨⟨k, x⟩, hs⟩ := get_some HN.out hin
          obtain ⟨b, off, rfl, hc⟩ := (H.below hb) (by rw [HN.out]; omega)
          obtain ⟨_, a', c', s1, _⟩ := hc j _ hs
          obtain ⟨m, hm⟩ : ∃ m, x.length = m := ⟨_, rfl⟩
          simp only [hm] at s1
          have HST := Lib.hid (hFi.trans (cdE_step hs))
          have HM := Lib.hid hm; have HG := Lib.hid hg
          clear hc hs hm hFi hg
          by_cases h32 : m = 32
          · subst h32
            go_wp2
            go_roundg g
            case rel => exact ⟨j + 1, by have := HG.out; omega, by go_num, by have h := HST.out; rw [if_neg (by show ¬ x.length ≠ 32; rw [HM.out]; simp)] at h; exact h, hb⟩
            case measure => omega
          · have t1 : ((m : Int) != 32) = true := by simp; omega
            go_wp2
            go_ret
            refine ⟨ret_int ?_, hb⟩
            have h := HST.out
            rw [if_pos (by show x.length ≠ 32; rw [HM.out]; exact h32)] at h
            rw [← HR.out, H0.out, h]; simp
    | succ g =>
      have hin : i < n := by omega
      obtain ⟨⟨k, x⟩, hs⟩ := get_some HN.out hin
      have HST := Lib.hid (hEi.trans (caE_step hs))
      have HS := Lib.hid hs
      obtain ⟨b, off, rfl, hc⟩ := (H.below hb) (by rw [HN.out]; omega)
      have c0 := (hc i _ hs).1
      simp only at c0
      have HG := Lib.hid hg
      have hbad : k ≤ p ∨ nb ≤ k → E = 10 := fun h => by rw [HST.out, if_pos h]
      have hgood : ¬ (k ≤ p ∨ nb ≤ k) → E = caE nb k (l.drop (i + 1)) := fun h => by rw [HST.out, if_neg h]
      by_cases hi0 : i = 0
      · subst hi0
        obtain rfl : p = -1 := hp0 rfl
        have HB := Lib.hid hbad; have HGd := Lib.hid hgood
        rw [Nat.zero_mul, Nat.add_zero] at c0
        clear hp0 hp1 hs hc hEi hg hbad hgood
        by_cases hk0 : k < 0
        · go_wp2
          refine wp_region_over (by kernel_rfl) (by kernel_rfl) ?_
          have q0 := fun u => over_cell c0 u
          repeat (go_big_quiet_step (fail))
          refine wpQuiet_nil ?_
          rintro _ ⟨u, rfl⟩
          have hb2 := below_then hb (below_over wr u)
          go_wp2
          go_ret
          exact ⟨ret_int (by rw [← HR.out, (HB.out) (by omega)]; simp), hb2⟩
        · have t0 : decide (k < 0) = false := by simpa using hk0
          by_cases hk1 : nb ≤ k
          · have t1 : decide (nb ≤ k) = true := by simpa using hk1
            go_wp2
            refine wp_region_over (by kernel_rfl) (by kernel_rfl) ?_
            have q0 := fun u => over_cell c0 u
            repeat (go_big_quiet_step (fail))
            refine wpQuiet_nil ?_
            rintro _ ⟨u, rfl⟩
            have hb2 := below_then hb (below_over wr u)
            go_wp2
            go_ret
            exact ⟨ret_int (by rw [← HR.out, (HB.out) (by omega)]; simp), hb2⟩
          · have t1 : decide (nb ≤ k) = false := by simpa using hk1
            go_wp2
            refine wp_region_over (by kernel_rfl) (by kernel_rfl) ?_
            have q0 := fun u => over_cell c0 u
            repeat (go_big_quiet_step (fail))
            refine wpQuiet_nil ?_
            rintro _ ⟨u, rfl⟩
            have hb2 := below_then hb (below_over wr u)
            go_wp2
            go_roundg g
            case rel => exact ⟨0 + 1, k, by have := HG.out; omega, by go_num, (HGd.out) (by omega), fun h => absurd h (by omega), fun _ => ⟨by omega, x, HS.out⟩, hb2⟩
            case measure => omega
      · obtain ⟨i', rfl⟩ : ∃ i', i = i' + 1 := ⟨i - 1, by omega⟩
        obtain ⟨hpp, y, hy⟩ := hp1 (by omega)
        rw [Nat.add_sub_cancel] at hy
        have d0 := (hc i' _ hy).1
        simp only at d0
        have ej : ((i' + 1 : Nat) : Int) - 1 = (i' : Int) := by omega
        have HB := Lib.hid hbad; have HGd := Lib.hid hgood
        clear hp0 hp1 hs hc hEi hg hbad hgood hy
        have hcase : k < 0 ∨ (0 ≤ k ∧ nb ≤ k) ∨ (0 ≤ k ∧ k < nb ∧ k ≤ p) ∨ (0 ≤ k ∧ k < nb ∧ p < k) := by omega
        have tj : decide ((0 : Int) < ((i' + 1 : Nat) : Int)) = true := by rw [decide_eq_true_eq]; omega
        rcases hcase with h1 | ⟨h1, h2⟩ | ⟨h1, h2, h3⟩ | ⟨h1, h2, h3⟩
        · have t0 : decide (k < 0) = true := by simpa using h1
          go_wp2
          refine wp_region_over (by kernel_rfl) (by kernel_rfl) ?_
          have q0 := fun u => over_cell c0 u
          have q1 := fun u => over_cell d0 u
          repeat (go_big_quiet_step (fail))
          refine wpQuiet_nil ?_
          rintro _ ⟨u, rfl⟩
          have hb2 := below_then hb (below_over wr u)
          clear q0 q1
          go_wp2
          go_ret
          exact ⟨ret_int (by rw [← HR.out, (HB.out) (by omega)]; simp), hb2⟩
        · have t0 : decide (k < 0) = false := by simpa using h1
          have t1 : decide (nb ≤ k) = true := by simpa using h2
          go_wp2
          refine wp_region_over (by kernel_rfl) (by kernel_rfl) ?_
          have q0 := fun u => over_cell c0 u
          have q1 := fun u => over_cell d0 u
          repeat (go_big_quiet_step (fail))
          refine wpQuiet_nil ?_
          rintro _ ⟨u, rfl⟩
          have hb2 := below_then hb (below_over wr u)
          clear q0 q1
          go_wp2
          go_ret
          exact ⟨ret_int (by rw [← HR.out, (HB.out) (by omega)]; simp), hb2⟩
        · have t0 : decide (k < 0) = false := by simpa using h1
          have t1 : decide (nb ≤ k) = false := by simpa using h2
          have t2 : decide (k ≤ p) = true := by simpa using h3
          go_wp2
          refine wp_region_over (by kernel_rfl) (by kernel_rfl) ?_
          have q0 := fun u => over_cell c0 u
          have q1 := fun u => over_cell d0 u
          repeat (go_big_quiet_step (fail))
          refine wpQuiet_nil ?_
          rintro _ ⟨u, rfl⟩
          have hb2 := below_then hb (below_over wr u)
          clear q0 q1
          go_wp2
          go_ret
          exact ⟨ret_int (by rw [← HR.out, (HB.out) (by omega)]; simp), hb2⟩
        · have t0 : decide (k < 0) = false := by simpa using h1
          have t1 : decide (nb ≤ k) = false := by simpa using h2
          have t2 : decide (k ≤ p) = false := by simpa using h3
          go_wp2
          refine wp_region_over (by kernel_rfl) (by kernel_rfl) ?_
          have q0 := fun u => over_cell c0 u
          have q1 := fun u => over_cell d0 u
          repeat (go_big_quiet_step (fail))
          refine wpQuiet_nil ?_
          rintro _ ⟨u, rfl⟩
          have hb2 := below_then hb (below_over wr u)
          clear q0 q1
          go_wp2
          go_roundg g
          case rel => exact ⟨i' + 1 + 1, k, by have := HG.out; omega, by go_num, (HGd.out) (by omega), fun h => absurd h (by omega), fun _ => ⟨by omega, x, HS.out⟩, hb2⟩
          case measure => omega
end Go.Proofs.Ytlhbjmoncdljoaa
