/- Walks: two values are the same, of the document. -/
import Derived.Test.YtkiiifmofmbniaaDoorN5
import Derived.Test.YtkiiifmofmbniaaDoorN11
namespace Go.Proofs.YtkiiifmofmbniaaDoor
open Go.RowKit Go.Over Go.Mob Go.Can Go.Seg Go.Grow
set_option maxRecDepth 100000 in set_option maxHeartbeats 3200000 in
theorem sameInts_42 (a b : Option Addr) (l : List Int) (n c d : Nat) (w : World) (HA : Ints w a l) (HB : Ints w b l) (hn : l.length = n) (hm : n ≤ 1000000) :
    Calls Tryd.prog 42 #[.slice a n c, .slice b n d] w fun e w' => e = .returned (.bool true) ∧ Below w.heap.size w w' := by
  have HN := Lib.hid hn
  clear hn
  go_enter Tryd.func42, Tryd.ntmps42
  go_wp2
  go_loopg [5] n (fun gg v5 wr => ∃ i : Nat, i + gg = n ∧ v5 = .int .i64 i ∧ Below w.heap.size w wr)
  case atStart => exact ⟨0, by omega, rfl, Below.refl _ _⟩
  case round =>
    obtain ⟨i, hg, rfl, hb⟩ := hrel
    cases gk with
    | zero =>
      have hin : ¬ i < n := by omega
      clear hg
      go_wp2
      go_ret
      exact ⟨rfl, hb⟩
    | succ gg =>
      have hin : i < n := by omega
      obtain ⟨x, hx⟩ := get_some HN.out hin
      obtain ⟨b1, o1, rfl, c1⟩ := (HA.below hb).at hx
      obtain ⟨b2, o2, rfl, c2⟩ := (HB.below hb).at hx
      have HG := Lib.hid hg
      have tx : (x != x) = false := by simp
      clear hg hx
      go_wp2_with fail
      refine wp_region_over (by kernel_rfl) (by kernel_rfl) ?_
      have z0 := fun u => over_cell c1 u
      have z1 := fun u => over_cell c2 u
      repeat (go_big_quiet_step (fail))
      refine wpQuiet_nil ?_
      rintro _ ⟨u, rfl⟩
      have hb2 := below_then hb (below_over wr u)
      clear z0 z1 c1 c2
      go_wp2
      go_roundg gg
      case rel => exact ⟨i + 1, by have := HG.out; omega, by go_num, hb2⟩
      case measure => omega
set_option maxRecDepth 100000 in set_option maxHeartbeats 3200000 in
theorem same_18 (v v' : Value) (p q : P) (w : World) (H : Rpv w v p) (H' : Rpv w v' q) (h1 : p.st = q.st) (h2 : p.ty = q.ty) (h3 : ∀ i, i < 15 → p.fr i = q.fr i) (hm : lenB p) :
    Calls Tryd.prog 18 #[v, v'] w fun e w' => e = .returned (.bool true) ∧ Below w.heap.size w w' := by
  obtain ⟨cs, rfl, hV⟩ := H
  obtain ⟨ds, rfl, hV'⟩ := H'
  have X0 := (PX.new hV).below (below_box (w.alloc (.cells cs.toArray 26)) (.cells ds.toArray 26))
  have hs : (w.alloc (.cells cs.toArray 26)).heap.size = w.heap.size + 1 := by simp
  have Y0 : PX w (w.heap.size + 1) ds q ((w.alloc (.cells cs.toArray 26)).alloc (.cells ds.toArray 26)) := by
    have hb := below_box w (.cells cs.toArray 26)
    have hb2 := below_then hb (below_box (w.alloc (.cells cs.toArray 26)) (.cells ds.toArray 26))
    refine ⟨hb2, by omega, ?_, hV'.below hb2⟩
    have := Blk.new (w.alloc (.cells cs.toArray 26)) 26 ds.toArray ds rfl
    rwa [hs] at this
  have H1 := Lib.hid h1; have H2 := Lib.hid h2; have H3 := Lib.hid h3
  clear hs hV hV' h1 h2 h3
  go_enter Tryd.func18, Tryd.ntmps18
  go_upto_region 1 with fail
  obtain ⟨w1, hw1⟩ : ∃ W, W = (w.alloc (.cells cs.toArray 26)).alloc (.cells ds.toArray 26) := ⟨_, rfl⟩
  rw [← hw1] at X0 Y0 ⊢
  obtain ⟨g, hg⟩ : ∃ g, w.heap.size = g := ⟨_, rfl⟩
  obtain ⟨g', hg'⟩ : ∃ g, w.heap.size + 1 = g := ⟨_, rfl⟩
  rw [hg'] at Y0 ⊢
  have X1 : PX w g cs p w1 := by rw [← hg]; exact X0
  rw [hg]
  clear hw1 hg' hg X0
  obtain ⟨aT, nT, cT, hT, hnT, _, _, _, iT⟩ := X1.v.types X1.x
  obtain ⟨aU, nU, cU, hU, hnU, _, _, _, iU⟩ := Y0.v.types Y0.x
  rw [← H2.out] at hnU iU
  obtain rfl : nU = nT := by omega
  have h0 := X1.v.start X1.x
  have k0 := Y0.v.start Y0.x
  rw [← H1.out] at k0
  have t0 : (p.st != p.st) = false := by simp
  have hnb : nU ≤ 1000000 := by have := hm.1; omega
  have HNU := Lib.hid hnU
  clear hnT hnU
  go_wp2_with fail
  refine (sameInts_42 aT aU p.ty nU cT cU w1 iT iU HNU.out hnb).mono ?_
  rintro e w2 ⟨rfl, b2⟩
  have X2 := X1.below b2
  have Y2 := Y0.below b2
  clear X1 Y0 hT hU h0 k0 iT iU b2
  go_wp2
  go_loopg [5] 3 (fun gg v5 wr => ∃ t : Nat, t + gg = 3 ∧ v5 = .int .i64 t ∧ PX w g cs p wr ∧ PX w g' ds q wr)
  case atStart => exact ⟨0, by omega, rfl, X2, Y2⟩
  case round =>
    clear X2 Y2
    obtain ⟨t, hg, rfl, X3, Y3⟩ := hrel
    cases gk with
    | zero =>
      have ht3 : ¬ t < 3 := by omega
      clear hg
      go_wp2
      go_ret
      exact ⟨rfl, X3.b⟩
    | succ gg =>
      have ht : t < 3 := by omega
      have tt : decide ((t : Int) < 3) = true := by simp; omega
      have HG := Lib.hid hg
      clear hg
      go_wp2
      go_loopg [6] 5 (fun g2 v6 wr => ∃ k : Nat, k + g2 = 5 ∧ v6 = .int .i64 k ∧ PX w g cs p wr ∧ PX w g' ds q wr)
      case atStart => exact ⟨0, by omega, rfl, X3, Y3⟩
      case round =>
        clear X3 Y3
        obtain ⟨k, hk, rfl, X4, Y4⟩ := hrel
        have HK := Lib.hid hk
        cases gk with
        | zero =>
          have tk : decide ((k : Int) ≤ 4) = false := by simp; omega
          clear hk
          go_wp2
          go_roundg gg
          case rel => exact ⟨t + 1, by have := HG.out; omega, by go_num, X4, Y4⟩
          case measure => omega
        | succ g2 =>
          have hk5 : k < 5 := by omega
          have tk : decide ((k : Int) ≤ 4) = true := by simp; omega
          obtain ⟨a, n, c, hc, hn, _, _, _, hI⟩ := X4.v.list X4.x ht hk5
          obtain ⟨a', n', c', hc', hn', _, _, _, hI'⟩ := Y4.v.list Y4.x ht hk5
          rw [← H3.out (5 * t + k) (by omega)] at hn' hI'
          obtain rfl : n' = n := by omega
          have hnb : n' ≤ 1000000 := by have := hm.2 (5 * t + k) (by omega); omega
          have C1 := fun u => calls_over (sameInts_42 a a' (p.fr (5 * t + k)) n' c c' (over wr u) (hI.below (below_over wr u)) (hI'.below (below_over wr u)) hn hnb)
          have HC := Lib.hid C1
          clear hk hn hn' C1 hI hI'
          go_wp2_with fail
          refine wp_region_over (by kernel_rfl) (by kernel_rfl) ?_
          have z0 := fun u => over_cell hc u
          have z1 := fun u => over_cell hc' u
          repeat (go_big_quiet_step (fail))
          go_big_quiet_step ((go_at_call 42; exact HC.out _))
          repeat (go_big_quiet_step (fail))
          refine wpQuiet_nil ?_
          rintro _ ⟨u, rfl⟩
          have X5 := X4.below (below_over wr u)
          have Y5 := Y4.below (below_over wr u)
          clear z0 z1 hc hc' HC X4 Y4
          go_wp2
          go_roundg g2
          case rel => exact ⟨k + 1, by have := HK.out; omega, by go_num, X5, Y5⟩
          case measure => omega
end Go.Proofs.YtkiiifmofmbniaaDoor
