/- Walks: the block that a request takes a part of, of the document. -/
import Derived.Test.YtkiiifmofmbniaaDoorN15
namespace Go.Mob
open Go.Can
/-- What the document's Choose says. -/
def chF (p : P) (t : Int) (r : Option (Int × Nat)) : Int × Int × Bool :=
  match r with
  | none => (-1, 0, false)
  | some (a, j) => ((p.fr (base a + j)).getD 0 0, ((j : Nat) : Int), decide (a ≠ t ∧ 3 ≤ j))
end Go.Mob
namespace Go.Proofs.YtkiiifmofmbniaaDoor
open Go.RowKit Go.Over Go.Mob Go.Can Go.Seg Go.Grow
theorem fall_0_0 (w : World) : Calls Tryd.prog 58 #[.int .i64 0, .int .i64 0] w fun e w' => e = .returned (.int .i64 2) ∧ w = w' := by
  go_enter Tryd.func58, Tryd.ntmps58
  go_wp2
  go_ret
  exact ⟨rfl, rfl⟩
theorem fall_0_1 (w : World) : Calls Tryd.prog 58 #[.int .i64 0, .int .i64 1] w fun e w' => e = .returned (.int .i64 1) ∧ w = w' := by
  go_enter Tryd.func58, Tryd.ntmps58
  go_wp2
  go_ret
  exact ⟨rfl, rfl⟩
theorem fall_1_0 (w : World) : Calls Tryd.prog 58 #[.int .i64 1, .int .i64 0] w fun e w' => e = .returned (.int .i64 2) ∧ w = w' := by
  go_enter Tryd.func58, Tryd.ntmps58
  go_wp2
  go_ret
  exact ⟨rfl, rfl⟩
theorem fall_1_1 (w : World) : Calls Tryd.prog 58 #[.int .i64 1, .int .i64 1] w fun e w' => e = .returned (.int .i64 0) ∧ w = w' := by
  go_enter Tryd.func58, Tryd.ntmps58
  go_wp2
  go_ret
  exact ⟨rfl, rfl⟩
theorem fall_2_0 (w : World) : Calls Tryd.prog 58 #[.int .i64 2, .int .i64 0] w fun e w' => e = .returned (.int .i64 1) ∧ w = w' := by
  go_enter Tryd.func58, Tryd.ntmps58
  go_wp2
  go_ret
  exact ⟨rfl, rfl⟩
theorem fall_2_1 (w : World) : Calls Tryd.prog 58 #[.int .i64 2, .int .i64 1] w fun e w' => e = .returned (.int .i64 0) ∧ w = w' := by
  go_enter Tryd.func58, Tryd.ntmps58
  go_wp2
  go_ret
  exact ⟨rfl, rfl⟩
/-- The two fallback types. -/
theorem fall_at {t : Nat} (ht : t < 3) : ∃ a b : Nat, a < 3 ∧ b < 3 ∧ a ≠ t ∧ b ≠ t ∧ fall (t : Int) = [(a : Int), (b : Int)] ∧
    (∀ w, Calls Tryd.prog 58 #[.int .i64 t, .int .i64 0] w fun e w' => e = .returned (.int .i64 (a : Int)) ∧ w = w') ∧ (∀ w, Calls Tryd.prog 58 #[.int .i64 t, .int .i64 1] w fun e w' => e = .returned (.int .i64 (b : Int)) ∧ w = w') := by
  rcases (show t = 0 ∨ t = 1 ∨ t = 2 by omega) with rfl | rfl | rfl
  · exact ⟨2, 1, by decide, by decide, by decide, by decide, rfl, fall_0_0, fall_0_1⟩
  · exact ⟨2, 0, by decide, by decide, by decide, by decide, rfl, fall_1_0, fall_1_1⟩
  · exact ⟨1, 0, by decide, by decide, by decide, by decide, rfl, fall_2_0, fall_2_1⟩
theorem results_t3 {fn : Func} {p q r : Tmp} (h : fn.results = #[.tmp p, .tmp q, .tmp r]) (tmps : Array Value) (w : World) (u v z : Value) (hu : tmps.getD p undef = u) (hv : tmps.getD q undef = v) (hz : tmps.getD r undef = z) : (results fn tmps).run Tryd.prog w = .ok (.tuple #[u, v, z]) w := by
  have hu' : tmps[p]?.getD undef = u := by simpa using hu
  have hv' : tmps[q]?.getD undef = v := by simpa using hv
  have hz' : tmps[r]?.getD undef = z := by simpa using hz
  simp [results, h, hu', hv', hz']
theorem ret_iib {a b c d : Int} {x y : Bool} (h1 : a = c) (h2 : b = d) (h3 : x = y) : Ending.returned (.tuple #[.int .i64 a, .int .i64 b, .bool x]) = .returned (.tuple #[.int .i64 c, .int .i64 d, .bool y]) := by rw [h1, h2, h3]
theorem head_cell {w : World} {a : Option Addr} {l : List Int} {n : Nat} (h : Ints w a l) (hn : l.length = n) (h0 : n ≠ 0) : ∃ b off f, a = some ⟨b, off, none⟩ ∧ w.cell? ⟨b, off, none⟩ = some (.int .i64 f) ∧ l.getD 0 0 = f := by
  obtain ⟨f, hf⟩ := get_some hn (show 0 < n by omega)
  obtain ⟨b, off, rfl, hc⟩ := h.at hf
  exact ⟨b, off, f, rfl, by rw [Nat.add_zero] at hc; exact hc, by rw [List.getD_eq_getElem?_getD, hf]; rfl⟩
set_option maxRecDepth 100000 in set_option maxHeartbeats 3200000 in
theorem choose_49 (v : Value) (p : P) (k t : Nat) (w : World) (H : Rpv w v p) (ht : t < 3) (hk : k < 5) :
    Calls Tryd.prog 49 #[v, .int .i64 k, .int .i64 t] w fun e w' => e = .returned (.tuple #[.int .i64 (chF p t (find p k t)).1, .int .i64 (chF p t (find p k t)).2.1, .bool (chF p t (find p k t)).2.2]) ∧ Below w.heap.size w w' := by
  obtain ⟨R, hR⟩ : ∃ R, find p k t = R := ⟨_, rfl⟩
  rw [hR]
  have HR := Lib.hid (show R = match own p.fr (5 * t) (5 - k) k with | some j => some ((t : Int), j) | none => other p.fr t (5 - k) 4 by rw [← hR]; unfold find base; rw [Int.toNat_natCast]; cases own p.fr (5 * t) (5 - k) k <;> rfl)
  clear hR
  obtain ⟨C, hC⟩ : ∃ C, chF p t R = C := ⟨_, rfl⟩
  rw [hC]
  have HC := Lib.hid hC
  clear hC
  obtain ⟨cs, rfl, hV⟩ := H
  have X0 := PX.new hV
  clear hV
  go_enter Tryd.func49, Tryd.ntmps49
  go_upto_region 1 with fail
  obtain ⟨w1, hw1⟩ : ∃ W, W = w.alloc (.cells cs.toArray 26) := ⟨_, rfl⟩
  have X1 : PX w w.heap.size cs p w1 := by rw [hw1]; exact X0
  rw [← hw1]
  obtain ⟨g, hg0⟩ : ∃ g, w.heap.size = g := ⟨_, rfl⟩
  rw [hg0] at X1 ⊢
  clear hw1 X0 hg0
  go_wp2
  go_loopg [9] (5 - k) (fun gg v9 wr => ∃ j : Nat, j + gg = 5 ∧ k ≤ j ∧ v9 = .int .i64 j ∧ own p.fr (5 * t) (5 - k) k = own p.fr (5 * t) gg j ∧ w1 = wr)
  case atStart => exact ⟨k, by omega, Nat.le_refl _, rfl, rfl, rfl⟩
  case round =>
    obtain ⟨j, hg, hkj, rfl, hO, rfl⟩ := hrel
    cases gk with
    | zero =>
      have hj5 : j = 5 := by omega
      have hj : ¬ ((j : Int) ≤ 4) := by omega
      have HR2 := Lib.hid (show R = other p.fr t (5 - k) 4 by rw [HR.out, hO]; rfl)
      clear hg hO hj5 HR
      go_wp2
      go_loopg [10] (5 - k) (fun gg v10 wr => v10 = .int .i64 ((k : Int) + gg - 1) ∧ gg ≤ 5 - k ∧ R = other p.fr t gg (k + gg - 1) ∧ w1 = wr)
      case atStart => exact ⟨by rw [show (k : Int) + ((5 - k : Nat) : Int) - 1 = 4 by omega], Nat.le_refl _, by rw [HR2.out, show k + (5 - k) - 1 = 4 by omega], rfl⟩
      case round =>
        clear HR2
        obtain ⟨rfl, hle, hRg, rfl⟩ := hrel
        cases gk with
        | zero =>
          have HCN := Lib.hid (show C = (-1, 0, false) by rw [← HC.out, show R = none from hRg]; rfl)
          have e0 : ((k : Int) + ((0 : Nat) : Int) - 1) = (k : Int) - 1 := by omega
          clear hle hRg
          go_wp2
          refine bodyPost_ret (results_t3 rfl _ _ _ _ _ rfl rfl rfl) rfl ?_
          exact ⟨ret_iib (by rw [HCN.out]) (by rw [HCN.out]) (by rw [HCN.out]), X1.b⟩
        | succ n =>
          obtain ⟨a, b, ha, hb, hat, hbt, hfall, hca, hcb⟩ := fall_at ht
          obtain ⟨y, hy⟩ : ∃ y : Nat, k + n = y := ⟨_, rfl⟩
          have ey : (k : Int) + ((n + 1 : Nat) : Int) - 1 = (y : Int) := by omega
          have hy5 : y < 5 := by omega
          have hyk : k ≤ y := by omega
          have HRA := Lib.hid (show R = if (p.fr (5 * a + y)).length ≠ 0 then some ((a : Int), y) else if (p.fr (5 * b + y)).length ≠ 0 then some ((b : Int), y) else other p.fr t n (k + n - 1) by
            rw [hRg, show k + (n + 1) - 1 = y by omega]
            show (if (p.fr (base ((fall t).getD 0 0) + y)).length ≠ 0 then _ else if (p.fr (base ((fall t).getD 1 0) + y)).length ≠ 0 then _ else other p.fr t n (y - 1)) = _
            rw [hfall, show y - 1 = k + n - 1 by omega]
            rfl)
          have HY := Lib.hid hy; have HLE := Lib.hid hle; have HCA := Lib.hid hca; have HCB := Lib.hid hcb
          clear hfall hRg hle hy hca hcb
          rw [ey]
          clear ey
          obtain ⟨aa, na, ca, d0, hna, _, _, _, hIa⟩ := X1.v.list X1.x ha hy5
          obtain ⟨ab, nb, cb, d1, hnb, _, _, _, hIb⟩ := X1.v.list X1.x hb hy5
          have HNA := Lib.hid hna; have HNB := Lib.hid hnb
          clear hna hnb
          have tky : decide ((k : Int) ≤ (y : Int)) = true := by simp; omega
          go_wp2
          go_loopg [11] 2 (fun g2 v11 wr => ∃ i : Nat, i + g2 = 2 ∧ v11 = .int .i64 i ∧ (1 ≤ i → na = 0) ∧ (2 ≤ i → nb = 0) ∧ w1 = wr)
          case atStart => exact ⟨0, by omega, rfl, fun h => by omega, fun h => by omega, rfl⟩
          case round =>
            obtain ⟨i, hi, rfl, g1, g2, rfl⟩ := hrel
            rcases (show i = 0 ∨ i = 1 ∨ i = 2 by omega) with rfl | rfl | rfl
            · clear g1 g2
              obtain ⟨g2, rfl⟩ : ∃ g2, gk = g2 + 1 := ⟨gk - 1, by omega⟩
              have HI := Lib.hid hi
              clear hi
              go_wp2_with fail
              refine (HCA.out w1).mono ?_
              rintro e w2 ⟨rfl, rfl⟩
              by_cases h0 : na = 0
              · subst h0
                go_wp2
                go_roundg g2
                case rel => exact ⟨1, by have := HI.out; omega, rfl, fun _ => by first | rfl | trivial, fun h => by omega, rfl⟩
                case measure => omega
              · obtain ⟨bb, off, f, rfl, cf, hf⟩ := head_cell hIa HNA.out h0
                have tn : decide ((0 : Int) < (na : Int)) = true := by simp; omega
                have HCS := Lib.hid (show C = (f, (y : Int), decide (3 ≤ y)) by
                  rw [← HC.out, HRA.out, if_pos (by rw [HNA.out]; exact h0)]
                  unfold chF base
                  simp only [Int.toNat_natCast]
                  rw [hf, decide_eq_decide.2 (show ((a : Int) ≠ (t : Int) ∧ 3 ≤ y) ↔ 3 ≤ y from ⟨fun h => h.2, fun h => ⟨by omega, h⟩⟩)])
                clear hf
                by_cases hy3 : 3 ≤ y
                · have ty3 : decide ((3 : Int) ≤ (y : Int)) = true := by simp; omega
                  go_wp2
                  refine bodyPost_ret (results_t3 rfl _ _ _ _ _ rfl rfl rfl) rfl ?_
                  exact ⟨ret_iib (by rw [HCS.out]) (by rw [HCS.out]) (by rw [HCS.out, decide_eq_true hy3]), X1.b⟩
                · have ty3 : decide ((3 : Int) ≤ (y : Int)) = false := by simp; omega
                  go_wp2
                  refine bodyPost_ret (results_t3 rfl _ _ _ _ _ rfl rfl rfl) rfl ?_
                  exact ⟨ret_iib (by rw [HCS.out]) (by rw [HCS.out]) (by rw [HCS.out, decide_eq_false hy3]), X1.b⟩
            · obtain rfl := g1 (by omega)
              clear g1 g2
              obtain ⟨g2, rfl⟩ : ∃ g2, gk = g2 + 1 := ⟨gk - 1, by omega⟩
              have HI := Lib.hid hi
              clear hi
              go_wp2_with fail
              refine (HCB.out w1).mono ?_
              rintro e w2 ⟨rfl, rfl⟩
              by_cases h0 : nb = 0
              · subst h0
                go_wp2
                go_roundg g2
                case rel => exact ⟨2, by have := HI.out; omega, rfl, fun _ => by first | rfl | trivial, fun _ => by first | rfl | trivial, rfl⟩
                case measure => omega
              · obtain ⟨bb, off, f, rfl, cf, hf⟩ := head_cell hIb HNB.out h0
                have tn : decide ((0 : Int) < (nb : Int)) = true := by simp; omega
                have HCS := Lib.hid (show C = (f, (y : Int), decide (3 ≤ y)) by
                  rw [← HC.out, HRA.out, if_neg (by rw [HNA.out]; simp), if_pos (by rw [HNB.out]; exact h0)]
                  unfold chF base
                  simp only [Int.toNat_natCast]
                  rw [hf, decide_eq_decide.2 (show ((b : Int) ≠ (t : Int) ∧ 3 ≤ y) ↔ 3 ≤ y from ⟨fun h => h.2, fun h => ⟨by omega, h⟩⟩)])
                clear hf
                by_cases hy3 : 3 ≤ y
                · have ty3 : decide ((3 : Int) ≤ (y : Int)) = true := by simp; omega
                  go_wp2
                  refine bodyPost_ret (results_t3 rfl _ _ _ _ _ rfl rfl rfl) rfl ?_
                  exact ⟨ret_iib (by rw [HCS.out]) (by rw [HCS.out]) (by rw [HCS.out, decide_eq_true hy3]), X1.b⟩
                · have ty3 : decide ((3 : Int) ≤ (y : Int)) = false := by simp; omega
                  go_wp2
                  refine bodyPost_ret (results_t3 rfl _ _ _ _ _ rfl rfl rfl) rfl ?_
                  exact ⟨ret_iib (by rw [HCS.out]) (by rw [HCS.out]) (by rw [HCS.out, decide_eq_false hy3]), X1.b⟩
            · obtain rfl := g1 (by omega)
              obtain rfl := g2 (by omega)
              have HRS := Lib.hid (show R = other p.fr t n (k + n - 1) by rw [HRA.out, if_neg (by rw [HNA.out]; simp), if_neg (by rw [HNB.out]; simp)])
              have en : (y : Int) - 1 = (k : Int) + (n : Int) - 1 := by have := HY.out; omega
              clear g1 g2 hi
              go_wp2
              go_roundg n
              case rel => exact ⟨by first | rfl | (rw [en]), by have := HLE.out; omega, HRS.out, rfl⟩
              case measure => omega
    | succ gg =>
      have hj5 : j < 5 := by omega
      have tj : decide ((j : Int) ≤ 4) = true := by simp; omega
      obtain ⟨a, n, c, hc, hn, _, _, _, hI⟩ := X1.v.list X1.x ht hj5
      have HO := Lib.hid (show own p.fr (5 * t) (5 - k) k = if (p.fr (5 * t + j)).length ≠ 0 then some j else own p.fr (5 * t) gg (j + 1) from hO)
      have HN := Lib.hid hn; have HG := Lib.hid hg
      clear hO hn hg
      by_cases hn0 : n = 0
      · subst hn0
        have HO2 := Lib.hid (show own p.fr (5 * t) (5 - k) k = own p.fr (5 * t) gg (j + 1) by rw [HO.out, if_neg (by rw [HN.out]; simp)])
        go_wp2
        go_roundg gg
        case rel => exact ⟨j + 1, by have := HG.out; omega, by omega, by go_num, HO2.out, rfl⟩
        case measure => omega
      · obtain ⟨bb, off, f, rfl, cf, hf⟩ := head_cell hI HN.out hn0
        have tn : decide ((0 : Int) < (n : Int)) = true := by simp; omega
        have HCS := Lib.hid (show C = (f, (j : Int), false) by
          rw [← HC.out, HR.out, HO.out, if_pos (by rw [HN.out]; exact hn0)]
          unfold chF base
          simp only [Int.toNat_natCast]
          rw [hf, decide_eq_false (fun h => h.1 rfl)])
        clear hf
        go_wp2
        refine bodyPost_ret (results_t3 rfl _ _ _ _ _ rfl rfl rfl) rfl ?_
        exact ⟨ret_iib (by rw [HCS.out]) (by rw [HCS.out]) (by rw [HCS.out]), X1.b⟩
end Go.Proofs.YtkiiifmofmbniaaDoor
