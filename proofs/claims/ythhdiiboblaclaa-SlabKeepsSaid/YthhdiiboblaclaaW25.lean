/- Walks: the comparison of two caches that are the same. -/
import Derived.Test.YthhdiiboblaclaaW24
namespace Go.Proofs.Ythhdiiboblaclaa
open Go.RowKit Go.Over Go.Slb Go.Seg Go.Grow
theorem same_cells (w : World) (o : Int) (x y : Value) :
    ((w.alloc (.cells #[.int .i64 o, x] 24)).alloc (.cells #[.int .i64 o, y] 24)).cell? ⟨w.heap.size, 0, none⟩ = some (.int .i64 o) ∧ ((w.alloc (.cells #[.int .i64 o, x] 24)).alloc (.cells #[.int .i64 o, y] 24)).cell? ⟨w.heap.size, 1, none⟩ = some x ∧
    ((w.alloc (.cells #[.int .i64 o, x] 24)).alloc (.cells #[.int .i64 o, y] 24)).cell? ⟨w.heap.size + 1, 0, none⟩ = some (.int .i64 o) ∧ ((w.alloc (.cells #[.int .i64 o, x] 24)).alloc (.cells #[.int .i64 o, y] 24)).cell? ⟨w.heap.size + 1, 1, none⟩ = some y := by
  have h1 : Blk ((w.alloc (.cells #[.int .i64 o, x] 24)).alloc (.cells #[.int .i64 o, y] 24)) w.heap.size 24 [.int .i64 o, x] := (Blk.new w 24 _ _ rfl).alloc _
  have h2 : Blk ((w.alloc (.cells #[.int .i64 o, x] 24)).alloc (.cells #[.int .i64 o, y] 24)) (w.heap.size + 1) 24 [.int .i64 o, y] := by
    have := Blk.new (w.alloc (.cells #[.int .i64 o, x] 24)) 24 #[.int .i64 o, y] [.int .i64 o, y] rfl
    simpa using this
  exact ⟨h1.cell 0, h1.cell 1, h2.cell 0, h2.cell 1⟩
set_option maxRecDepth 100000 in set_option maxHeartbeats 3200000 in
theorem same_18 (o : Int) (a a2 : Option Addr) (l : List S) (n c c2 : Nat) (w : World) (H : Slabs w a l) (K : Slabs w a2 l) (hn : l.length = n) (hm : n ≤ 1000000) (hl : ∀ s ∈ l, s.2.length ≤ 1000000) :
    Calls Try.prog 18 #[.agg #[.int .i64 o, .slice a n c], .agg #[.int .i64 o, .slice a2 n c2]] w fun e w' => e = .returned (.bool true) ∧ Below w.heap.size w w' := by
  have HN := Lib.hid hn
  have hb0 : Below w.heap.size w ((w.alloc (.cells #[.int .i64 o, .slice a n c] 24)).alloc (.cells #[.int .i64 o, .slice a2 n c2] 24)) := (below_box w _).alloc (by simp) _
  have hc0 := same_cells w o (.slice a n c) (.slice a2 n c2)
  obtain ⟨w1, hw1⟩ : ∃ W, W = ((w.alloc (.cells #[.int .i64 o, .slice a n c] 24)).alloc (.cells #[.int .i64 o, .slice a2 n c2] 24)) := ⟨_, rfl⟩
  rw [← hw1] at hb0 hc0
  obtain ⟨k0, k1, k2, k3⟩ := hc0
  have H1 := H.below hb0
  have K1 := K.below hb0
  have K00 := Lib.hid k0; have K01 := Lib.hid k1; have K02 := Lib.hid k2; have K03 := Lib.hid k3
  have HW := Lib.hid hw1
  clear hw1 hn
  go_enter Try.func18, Try.ntmps18
  go_wp2
  rw [← HW.out]
  clear HW k0 k1 k2 k3
  go_loopg [5] n (fun g i0 wr => ∃ (i : Nat), i + g = n ∧ i0 = .int .i64 i ∧ Below w1.heap.size w1 wr)
  case atStart => exact ⟨0, by omega, rfl, Below.refl _ _⟩
  case round =>
    obtain ⟨i, hg, rfl, hb⟩ := hrel
    have k1 := cell_later hb K01.out
    have k3 := cell_later hb K03.out
    cases gk with
    | zero =>
      obtain rfl : i = n := by omega
      go_wp2
      go_ret
      exact ⟨rfl, below_then hb0 hb⟩
    | succ g =>
      have hin : i < n := by omega
      obtain ⟨⟨f, u⟩, hs⟩ := get_some HN.out hin
      have hul := hl _ (List.mem_of_getElem? hs)
      obtain ⟨b, off, rfl, hc⟩ := H1 (by rw [HN.out]; omega)
      obtain ⟨s0, a', c', s1, hc1, hc2, hc3, hf⟩ := hc i _ hs
      obtain ⟨b2, off2, rfl, hd⟩ := K1 (by rw [HN.out]; omega)
      obtain ⟨r0, a3, c3, r1, hd1, hd2, hd3, hf2⟩ := hd i _ hs
      obtain ⟨um, hm'⟩ : ∃ m, u.length = m := ⟨_, rfl⟩
      simp only [hm'] at s0 s1 hc1 hul r0 r1 hd1
      have S0 := Lib.hid s0; have S1 := Lib.hid s1; have R0 := Lib.hid r0; have R1 := Lib.hid r1
      have HM := Lib.hid hm'; have HG := Lib.hid hg
      clear hm' hg hs hc hd s0 s1 r0 r1
      go_wp2
      refine wp_region_over (by kernel_rfl) (by kernel_rfl) ?_
      have q0 := fun u => over_cell k1 u
      have q1 := fun u => over_cell k3 u
      have q2 := fun u => over_cell (cell_later hb S0.out) u
      have q3 := fun u => over_cell (cell_later hb S1.out) u
      have q4 := fun u => over_cell (cell_later hb R0.out) u
      have q5 := fun u => over_cell (cell_later hb R1.out) u
      have t1 : (f != f) = false := by simp
      have t2 : ((um : Int) != (um : Int)) = false := by simp
      repeat (go_big_quiet_step (fail))
      refine wpQuiet_nil ?_
      rintro _ ⟨u0, rfl⟩
      have hb3 := below_then hb (below_over wr u0)
      clear q0 q1 q2 q3 q4 q5 k1 k3 hb
      obtain ⟨w3, hw3⟩ : ∃ W, W = over wr u0 := ⟨_, rfl⟩
      rw [← hw3] at hb3 ⊢
      clear hw3
      go_wp2
      go_loopg [6] um (fun g2 i0 wi => ∃ (j : Nat), j + g2 = um ∧ i0 = .int .i64 j ∧ Below w1.heap.size w1 wi)
      case atStart => exact ⟨0, by omega, rfl, hb3⟩
      case round =>
        obtain ⟨j, hj, rfl, hb⟩ := hrel
        have k1 := cell_later hb K01.out
        have k3 := cell_later hb K03.out
        have s1 := cell_later hb S1.out
        have r1 := cell_later hb R1.out
        cases gk with
        | zero =>
          obtain rfl : j = um := by omega
          clear hj
          go_wp2
          go_roundg g
          case rel => exact ⟨i + 1, by have := HG.out; omega, by go_num, hb⟩
          case measure => omega
        | succ g2 =>
          have hjm : j < um := by omega
          obtain ⟨b3, off3, rfl, hfc⟩ := (hf.below hb) (by rw [HM.out]; omega)
          obtain ⟨b4, off4, rfl, hfd⟩ := (hf2.below hb) (by rw [HM.out]; omega)
          have c2 := hfc j (by rw [HM.out]; exact hjm)
          have d2 := hfd j (by rw [HM.out]; exact hjm)
          obtain ⟨x, hx⟩ : ∃ x, u.getD j false = x := ⟨_, rfl⟩
          rw [hx] at c2 d2
          have HJ := Lib.hid hj
          have t3 : (x != x) = false := by simp
          clear hj hfc hfd hx
          go_wp2
          refine wp_region_over (by kernel_rfl) (by kernel_rfl) ?_
          have q0 := fun u => over_cell k1 u
          have q1 := fun u => over_cell k3 u
          have q2 := fun u => over_cell s1 u
          have q3 := fun u => over_cell r1 u
          have q4 := fun u => over_cell c2 u
          have q5 := fun u => over_cell d2 u
          repeat (go_big_quiet_step (fail))
          refine wpQuiet_nil ?_
          rintro _ ⟨u0, rfl⟩
          have hb4 := below_then hb (below_over wr u0)
          clear q0 q1 q2 q3 q4 q5
          go_wp2
          go_roundg g2
          case rel => exact ⟨j + 1, by have := HJ.out; omega, by go_num, hb4⟩
          case measure => omega
end Go.Proofs.Ythhdiiboblaclaa
