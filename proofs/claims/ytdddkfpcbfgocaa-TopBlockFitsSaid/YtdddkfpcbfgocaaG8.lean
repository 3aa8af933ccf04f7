/- Walks: two lists of numbers are the same; two zones are the same. -/
import Derived.Test.YtdddkfpcbfgocaaG2
namespace Go.Proofs.Ytdddkfpcbfgocaa
open Go.RowKit Go.Over Go.Zn Go.Can Go.Seg Go.Grow
set_option maxRecDepth 100000 in set_option maxHeartbeats 3200000 in
theorem sameInts (v u : Value) (l : List Int) (w : World) (HA : Sl w v l) (HB : Sl w u l) :
    Calls Try.prog 22 #[v, u] w fun e w' => e = .returned (.bool true) ∧ Below w.heap.size w w' := by
  obtain ⟨a, c, rfl, h1, h2, _, HA⟩ := HA
  obtain ⟨b, d, rfl, _, _, _, HB⟩ := HB
  obtain ⟨n, hn⟩ : ∃ n, l.length = n := ⟨_, rfl⟩
  rw [hn] at h1 ⊢
  have hm : n ≤ maxLen := Nat.le_trans h1 h2
  unfold maxLen at hm
  have HN := Lib.hid hn
  clear hn h1 h2
  go_enter Try.func22, Try.ntmps22
  go_wp2
  go_loopg [5] n (fun gg v5 wr => ∃ i : Nat, i + gg = n ∧ v5 = .int .i64 i ∧ Below w.heap.size w wr)
  case atStart => exact ⟨0, by omega, rfl, Below.refl _ _⟩
  case round =>
    obtain ⟨i, hg, rfl, hb⟩ := hrel
    cases gk with
    | zero =>
      have hin : ¬ i < n := by omega
      clear hg
      go_wp2
      go_ret
      exact ⟨rfl, hb⟩
    | succ gg =>
      have hin : i < n := by omega
      obtain ⟨x, hx⟩ := get_some HN.out hin
      obtain ⟨b1, o1, rfl, c1⟩ := (HA.below hb).at hx
      obtain ⟨b2, o2, rfl, c2⟩ := (HB.below hb).at hx
      have HG := Lib.hid hg
      have tx : (x != x) = false := by simp
      clear hg hx
      go_wp2_with fail
      refine wp_region_over (by kernel_rfl) (by kernel_rfl) ?_
      have z0 := fun u => over_cell c1 u
      have z1 := fun u => over_cell c2 u
      repeat (go_big_quiet_step (fail))
      refine wpQuiet_nil ?_
      rintro _ ⟨u, rfl⟩
      have hb2 := below_then hb (below_over wr u)
      clear z0 z1 c1 c2
      go_wp2
      go_roundg gg
      case rel => exact ⟨i + 1, by have := HG.out; omega, by go_num, hb2⟩
      case measure => omega
set_option maxRecDepth 100000 in set_option maxHeartbeats 3200000 in
theorem sameZone (v v' : Value) (p q : Z) (w : World) (H : Rz w v p) (H' : Rz w v' q) (h0 : q.nd = p.nd) (h1 : q.kd = p.kd) (h2 : q.st = p.st) (h3 : q.ct = p.ct) (h4 : q.mn = p.mn) (h5 : ∀ k, k < 5 → p.fr k = q.fr k) :
    Calls Try.prog 9 #[v, v'] w fun e w' => e = .returned (.bool true) ∧ Below w.heap.size w w' := by
  obtain ⟨cs, rfl, hV⟩ := H
  obtain ⟨ds, rfl, hV'⟩ := H'
  have X0 := (ZX.new hV).below (below_box (w.alloc (.cells cs.toArray 39)) (.cells ds.toArray 39))
  have hs : (w.alloc (.cells cs.toArray 39)).heap.size = w.heap.size + 1 := by simp
  have Y0 : ZX w (w.heap.size + 1) ds q ((w.alloc (.cells cs.toArray 39)).alloc (.cells ds.toArray 39)) := by
    have hb := below_box w (.cells cs.toArray 39)
    have hb2 := below_then hb (below_box (w.alloc (.cells cs.toArray 39)) (.cells ds.toArray 39))
    refine ⟨hb2, by omega, ?_, hV'.below hb2⟩
    have := Blk.new (w.alloc (.cells cs.toArray 39)) 39 ds.toArray ds rfl
    rwa [hs] at this
  have H5 := Lib.hid h5
  clear hs hV hV' h5
  go_enter Try.func9, Try.ntmps9
  go_upto_region 1 with fail
  obtain ⟨w1, hw1⟩ : ∃ W, W = (w.alloc (.cells cs.toArray 39)).alloc (.cells ds.toArray 39) := ⟨_, rfl⟩
  rw [← hw1] at X0 Y0 ⊢
  obtain ⟨g, hg⟩ : ∃ g, w.heap.size = g := ⟨_, rfl⟩
  obtain ⟨g', hg'⟩ : ∃ g, w.heap.size + 1 = g := ⟨_, rfl⟩
  rw [hg'] at Y0 ⊢
  have X1 : ZX w g cs p w1 := by rw [← hg]; exact X0
  rw [hg]
  clear hw1 hg' hg X0
  have a0 := X1.v.c0 X1.x
  have a1 := X1.v.c1 X1.x
  have a2 := X1.v.c2 X1.x
  have a3 := X1.v.c3 X1.x
  have a4 := X1.v.c4 X1.x
  have b0 := Y0.v.c0 Y0.x
  have b1 := Y0.v.c1 Y0.x
  have b2 := Y0.v.c2 Y0.x
  have b3 := Y0.v.c3 Y0.x
  have b4 := Y0.v.c4 Y0.x
  rw [h0] at b0
  rw [h1] at b1
  rw [h2] at b2
  rw [h3] at b3
  rw [h4] at b4
  have t0 : (p.nd != p.nd) = false := by simp
  have t1 : (p.kd != p.kd) = false := by simp
  have t2 : (p.st != p.st) = false := by simp
  have t3 : (p.ct != p.ct) = false := by simp
  have t4 : (p.mn != p.mn) = false := by simp
  clear h0 h1 h2 h3 h4
  go_wp2
  go_loopg [5] 5 (fun g2 v5 wr => ∃ k : Nat, k + g2 = 5 ∧ v5 = .int .i64 k ∧ ZX w g cs p wr ∧ ZX w g' ds q wr)
  case atStart => exact ⟨0, by omega, rfl, X1, Y0⟩
  case round =>
    clear X1 Y0 a0 a1 a2 a3 a4 b0 b1 b2 b3 b4
    obtain ⟨k, hk, rfl, X4, Y4⟩ := hrel
    have HK := Lib.hid hk
    cases gk with
    | zero =>
      have tk : decide ((k : Int) ≤ 4) = false := by simp; omega
      clear hk
      go_wp2
      go_ret
      exact ⟨rfl, X4.b⟩
    | succ g2 =>
      have hk5 : k < 5 := by omega
      have tk : decide ((k : Int) ≤ 4) = true := by simp; omega
      obtain ⟨v1, q1, s1⟩ := X4.v.fr k hk5
      obtain ⟨v2, q2, s2⟩ := Y4.v.fr k hk5
      rw [← H5.out k hk5] at s2
      have hc : wr.cell? ⟨g, 5 + k, none⟩ = some v1 := by rw [X4.x.cell]; exact q1
      have hc' : wr.cell? ⟨g', 5 + k, none⟩ = some v2 := by rw [Y4.x.cell]; exact q2
      have C1 := fun u => calls_over (sameInts v1 v2 (p.fr k) (over wr u) (s1.below (below_over wr u)) (s2.below (below_over wr u)))
      have HC := Lib.hid C1
      clear hk C1 s1 s2 q1 q2
      go_wp2_with fail
      refine wp_region_over (by kernel_rfl) (by kernel_rfl) ?_
      have z0 := fun u => over_cell hc u
      have z1 := fun u => over_cell hc' u
      repeat (go_big_quiet_step (fail))
      go_big_quiet_step ((go_at_call 22; exact HC.out _))
      repeat (go_big_quiet_step (fail))
      refine wpQuiet_nil ?_
      rintro _ ⟨u, rfl⟩
      have X5 := X4.below (below_over wr u)
      have Y5 := Y4.below (below_over wr u)
      clear z0 z1 hc hc' HC X4 Y4
      go_wp2
      go_roundg g2
      case rel => exact ⟨k + 1, by have := HK.out; omega, by go_num, X5, Y5⟩
      case measure => omega
end Go.Proofs.Ytdddkfpcbfgocaa
