/- Walks: the list from which a request is served, of the program. -/
import Derived.Test.YtkiiifmofmbniaaDoorM9
namespace Go.Proofs.YtkiiifmofmbniaaDoor
open Go.RowKit Go.Over Go.Mob Go.Can Go.Seg Go.Grow
/-- The table of what a request falls back to. -/
def FB (w : World) : Prop := w.cell? ⟨0, 0, none⟩ = some (.int .i64 2) ∧ w.cell? ⟨0, 1, none⟩ = some (.int .i64 1) ∧ w.cell? ⟨0, 2, none⟩ = some (.int .i64 2) ∧ w.cell? ⟨0, 3, none⟩ = some (.int .i64 0) ∧ w.cell? ⟨0, 4, none⟩ = some (.int .i64 1) ∧ w.cell? ⟨0, 5, none⟩ = some (.int .i64 0)
theorem FB.below {w w' : World} (h : FB w) (hb : Below w.heap.size w w') : FB w' :=
  ⟨cell_later hb h.1, cell_later hb h.2.1, cell_later hb h.2.2.1, cell_later hb h.2.2.2.1, cell_later hb h.2.2.2.2.1, cell_later hb h.2.2.2.2.2⟩
theorem FB.at {w : World} (h : FB w) {t : Nat} (ht : t < 3) : ∃ a b : Nat, a < 3 ∧ b < 3 ∧ fall (t : Int) = [(a : Int), (b : Int)] ∧ w.cell? ⟨0, t * 2, none⟩ = some (.int .i64 (a : Int)) ∧ w.cell? ⟨0, t * 2 + 1, none⟩ = some (.int .i64 (b : Int)) := by
  obtain ⟨h0, h1, h2, h3, h4, h5⟩ := h
  rcases (show t = 0 ∨ t = 1 ∨ t = 2 by omega) with rfl | rfl | rfl
  · exact ⟨2, 1, by decide, by decide, rfl, h0, h1⟩
  · exact ⟨2, 0, by decide, by decide, rfl, h2, h3⟩
  · exact ⟨1, 0, by decide, by decide, rfl, h4, h5⟩
theorem idx77_0 (s0 s1 : Value) (W : World) : (Instr.index 77 (.agg #[s0, s1]) (.int .i64 0)).run Tryd.prog W = .ok s0 W := by
  simp [Instr.index, run_underlying Tryd.underlying77, asIntOf, go_sem]
theorem idx77_1 (s0 s1 : Value) (W : World) : (Instr.index 77 (.agg #[s0, s1]) (.int .i64 1)).run Tryd.prog W = .ok s1 W := by
  simp [Instr.index, run_underlying Tryd.underlying77, asIntOf, go_sem]
def findV (r : Option (Int × Nat)) (t : Int) : Value :=
  match r with
  | some (a, j) => .tuple #[.int .i64 a, .int .i64 (j : Int)]
  | none => .tuple #[.int .i64 t, .int .i64 (-1)]
set_option maxRecDepth 100000 in set_option maxHeartbeats 3200000 in
theorem find_44 (v : Value) (p : P) (k t : Nat) (w : World) (H : Rpv w v p) (hF : FB w) (ht : t < 3) (hk : k < 5) : Calls Tryd.prog 44 #[v, .int .i64 k, .int .i64 t] w fun e w' => e = .returned (findV (find p k t) t) ∧ Below w.heap.size w w' := by
  obtain ⟨R, hR⟩ : ∃ R, find p k t = R := ⟨_, rfl⟩
  rw [hR]
  have HR := Lib.hid (show R = match own p.fr (5 * t) (5 - k) k with | some j => some ((t : Int), j) | none => other p.fr t (5 - k) 4 by rw [← hR]; unfold find base; rw [Int.toNat_natCast]; cases own p.fr (5 * t) (5 - k) k <;> rfl)
  clear hR
  have F0 := hF.below (below_box w (.cells #[] 26))
  have hF1 : ∀ cs : List Value, FB (w.alloc (.cells cs.toArray 26)) := fun cs => hF.below (below_box _ _)
  obtain ⟨cs, rfl, hV⟩ := H
  have X0 := PX.new hV
  have hF2 := hF1 cs
  clear hV hF1 F0 hF
  go_enter Tryd.func44, Tryd.ntmps44
  go_upto_region 1 with fail
  obtain ⟨w1, hw1⟩ : ∃ W, W = w.alloc (.cells cs.toArray 26) := ⟨_, rfl⟩
  have X1 : PX w w.heap.size cs p w1 := by rw [hw1]; exact X0
  rw [← hw1] at hF2 ⊢
  obtain ⟨g, hg0⟩ : ∃ g, w.heap.size = g := ⟨_, rfl⟩
  rw [hg0] at X1 ⊢
  clear hw1 X0 hg0
  go_wp2
  go_loopg [8] (5 - k) (fun gg v8 wr => ∃ j : Nat, j + gg = 5 ∧ k ≤ j ∧ v8 = .int .i64 j ∧ own p.fr (5 * t) (5 - k) k = own p.fr (5 * t) gg j ∧ w1 = wr)
  case atStart => exact ⟨k, by omega, Nat.le_refl _, rfl, rfl, rfl⟩
  case round =>
    obtain ⟨j, hg, hkj, rfl, hO, rfl⟩ := hrel
    cases gk with
    | zero =>
      have hj5 : j = 5 := by omega
      have hj : ¬ ((j : Int) ≤ 4) := by omega
      have HR2 := Lib.hid (show R = other p.fr t (5 - k) 4 by rw [HR.out, hO]; rfl)
      clear hg hO hj5 HR
      go_wp2
      go_loopg [9] (5 - k) (fun gg v9 wr => v9 = .int .i64 ((k : Int) + gg - 1) ∧ gg ≤ 5 - k ∧ R = other p.fr t gg (k + gg - 1) ∧ w1 = wr)
      case atStart => exact ⟨by rw [show (k : Int) + ((5 - k : Nat) : Int) - 1 = 4 by omega], Nat.le_refl _, by rw [HR2.out, show k + (5 - k) - 1 = 4 by omega], rfl⟩
      case round =>
        clear HR2
        obtain ⟨rfl, hle, hRg, rfl⟩ := hrel
        cases gk with
        | zero =>
          have HRN := Lib.hid (show R = none from hRg)
          have e0 : ((k : Int) + ((0 : Nat) : Int) - 1) = (k : Int) - 1 := by omega
          clear hle hRg
          go_wp2
          go_ret2
          exact ⟨by rw [HRN.out]; rfl, X1.b⟩
        | succ n =>
          obtain ⟨a, b, ha, hb, hfall, c0, c1⟩ := hF2.at ht
          obtain ⟨y, hy⟩ : ∃ y : Nat, k + n = y := ⟨_, rfl⟩
          have ey : (k : Int) + ((n + 1 : Nat) : Int) - 1 = (y : Int) := by omega
          have hy5 : y < 5 := by omega
          have hyk : k ≤ y := by omega
          have HRA := Lib.hid (show R = if (p.fr (5 * a + y)).length ≠ 0 then some ((a : Int), y) else if (p.fr (5 * b + y)).length ≠ 0 then some ((b : Int), y) else other p.fr t n (k + n - 1) by
            rw [hRg, show k + (n + 1) - 1 = y by omega]
            show (if (p.fr (base ((fall t).getD 0 0) + y)).length ≠ 0 then _ else if (p.fr (base ((fall t).getD 1 0) + y)).length ≠ 0 then _ else other p.fr t n (y - 1)) = _
            rw [hfall, show y - 1 = k + n - 1 by omega]
            rfl)
          have HY := Lib.hid hy; have HLE := Lib.hid hle
          clear hfall hRg hle hy
          rw [ey]
          clear ey
          obtain ⟨aa, na, ca, d0, hna, _, _, _, _⟩ := X1.v.list X1.x ha hy5
          obtain ⟨ab, nb, cb, d1, hnb, _, _, _, _⟩ := X1.v.list X1.x hb hy5
          have HNA := Lib.hid hna; have HNB := Lib.hid hnb
          clear hna hnb
          have i0 := idx77_0 (.int .i64 (a : Int)) (.int .i64 (b : Int))
          have i1 := idx77_1 (.int .i64 (a : Int)) (.int .i64 (b : Int))
          have tky : decide ((k : Int) ≤ (y : Int)) = true := by simp; omega
          go_wp2
          go_loopg [35] 2 (fun g2 v35 wr => ∃ i : Nat, i + g2 = 2 ∧ v35 = .int .i64 i ∧ (1 ≤ i → na = 0) ∧ (2 ≤ i → nb = 0) ∧ w1 = wr)
          case atStart => exact ⟨0, by omega, rfl, fun h => by omega, fun h => by omega, rfl⟩
          case round =>
            obtain ⟨i, hi, rfl, g1, g2, rfl⟩ := hrel
            rcases (show i = 0 ∨ i = 1 ∨ i = 2 by omega) with rfl | rfl | rfl
            · clear g1 g2
              obtain ⟨g2, rfl⟩ : ∃ g2, gk = g2 + 1 := ⟨gk - 1, by omega⟩
              have HI := Lib.hid hi
              clear hi
              by_cases h0 : na = 0
              · subst h0
                go_wp2
                go_roundg g2
                case rel => exact ⟨1, by have := HI.out; omega, rfl, fun _ => by first | rfl | trivial, fun h => by omega, rfl⟩
                case measure => omega
              · have tn : decide ((0 : Int) < (na : Int)) = true := by simp; omega
                have HRS := Lib.hid (show R = some ((a : Int), y) by rw [HRA.out, if_pos (by rw [HNA.out]; exact h0)])
                go_wp2
                go_ret2
                exact ⟨by rw [HRS.out]; rfl, X1.b⟩
            · obtain rfl := g1 (by omega)
              clear g1 g2
              obtain ⟨g2, rfl⟩ : ∃ g2, gk = g2 + 1 := ⟨gk - 1, by omega⟩
              have HI := Lib.hid hi
              clear hi
              by_cases h0 : nb = 0
              · subst h0
                go_wp2
                go_roundg g2
                case rel => exact ⟨2, by have := HI.out; omega, rfl, fun _ => by first | rfl | trivial, fun _ => by first | rfl | trivial, rfl⟩
                case measure => omega
              · have tn : decide ((0 : Int) < (nb : Int)) = true := by simp; omega
                have HRS := Lib.hid (show R = some ((b : Int), y) by rw [HRA.out, if_neg (by rw [HNA.out]; simp), if_pos (by rw [HNB.out]; exact h0)])
                go_wp2
                go_ret2
                exact ⟨by rw [HRS.out]; rfl, X1.b⟩
            · obtain rfl := g1 (by omega)
              obtain rfl := g2 (by omega)
              have HRS := Lib.hid (show R = other p.fr t n (k + n - 1) by rw [HRA.out, if_neg (by rw [HNA.out]; simp), if_neg (by rw [HNB.out]; simp)])
              have en : (y : Int) - 1 = (k : Int) + (n : Int) - 1 := by have := HY.out; omega
              clear g1 g2 hi
              go_wp2
              go_roundg n
              case rel => exact ⟨by first | rfl | (rw [en]), by have := HLE.out; omega, HRS.out, rfl⟩
              case measure => omega
    | succ gg =>
      have hj5 : j < 5 := by omega
      have tj : decide ((j : Int) ≤ 4) = true := by simp; omega
      obtain ⟨a, n, c, hc, hn, _, _, _, _⟩ := X1.v.list X1.x ht hj5
      have HO := Lib.hid (show own p.fr (5 * t) (5 - k) k = if (p.fr (5 * t + j)).length ≠ 0 then some j else own p.fr (5 * t) gg (j + 1) from hO)
      have HN := Lib.hid hn; have HG := Lib.hid hg
      clear hO hn hg
      by_cases hn0 : n = 0
      · subst hn0
        have HO2 := Lib.hid (show own p.fr (5 * t) (5 - k) k = own p.fr (5 * t) gg (j + 1) by rw [HO.out, if_neg (by rw [HN.out]; simp)])
        go_wp2
        go_roundg gg
        case rel => exact ⟨j + 1, by have := HG.out; omega, by omega, by go_num, HO2.out, rfl⟩
        case measure => omega
      · have tn : decide ((0 : Int) < (n : Int)) = true := by simp; omega
        have HRS := Lib.hid (show R = some ((t : Int), j) by rw [HR.out, HO.out, if_pos (by rw [HN.out]; exact hn0)])
        go_wp2
        go_ret2
        exact ⟨by rw [HRS.out]; rfl, X1.b⟩
end Go.Proofs.YtkiiifmofmbniaaDoor
