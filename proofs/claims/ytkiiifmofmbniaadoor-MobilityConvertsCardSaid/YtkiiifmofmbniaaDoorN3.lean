/- Walks: how many free blocks cover each frame, of the document. -/
import Derived.Test.YtkiiifmofmbniaaDoorN2
namespace Go.Mob
open Go.Can
theorem cnts_nil : cnts [] = List.replicate 256 0 := by
  apply List.ext_getElem?
  intro i
  rcases Nat.lt_or_ge i 256 with h | h
  · rw [cnts_get _ h, List.getElem?_replicate, if_pos h]; rfl
  · rw [List.getElem?_eq_none (by rw [cnts_len]; exact h), List.getElem?_eq_none (by rw [List.length_replicate]; exact h)]
theorem cnts_put (C : List Int) {i : Nat} : (cnts C).set i (((C.count (i : Int) : Nat) : Int) + 1) = cnts (C ++ [(i : Int)]) := by
  apply List.ext_getElem?
  intro j
  rcases Nat.lt_or_ge j 256 with h | h
  · rw [cnts_get _ h]
    by_cases e : i = j
    · subst e
      rw [List.getElem?_set_self (by rw [cnts_len]; exact h), List.count_append, List.count_singleton_self]
      congr 1
    · rw [List.getElem?_set_ne e, cnts_get _ h, List.count_append, List.count_singleton, if_neg (by simp; omega)]
      rfl
  · rw [List.getElem?_eq_none (by rw [List.length_set, cnts_len]; exact h), List.getElem?_eq_none (by rw [cnts_len]; exact h)]
theorem cov_len : ∀ {n : Nat} {f : Int}, (cov f n).length = n
  | 0, _ => rfl
  | n + 1, f => by rw [cov, List.length_cons, cov_len]
theorem covL_len {k : Nat} : ∀ {l : List Int}, (covL k l).length = l.length * 2 ^ k
  | [] => by simp [covL]
  | x :: r => by
    have e : covL k (x :: r) = cov x (2 ^ k) ++ covL k r := by simp [covL]
    rw [e, List.length_append, cov_len, covL_len (l := r), List.length_cons, Nat.succ_mul, Nat.add_comm]
theorem covA_len {p : P} (h : Lst p) : ∀ (n i : Nat), i + n = 15 → (covA p i).length ≤ n * 4096
  | 0, i, hi => by
    obtain rfl : i = 15 := by omega
    rw [covA_end]; exact Nat.zero_le _
  | n + 1, i, hi => by
    rw [covA_step (by omega), List.length_append, covL_len]
    have h1 := covA_len h n (i + 1) (by omega)
    have h2 := h.len (i := i) (by omega)
    have h3 : (p.fr i).length * 2 ^ (i % 5) ≤ 256 * 16 := Nat.mul_le_mul h2 (pow_le16 (by omega))
    omega
where
  pow_le16 {k : Nat} (h : k < 5) : 2 ^ k ≤ 16 := by
    rcases (show k = 0 ∨ k = 1 ∨ k = 2 ∨ k = 3 ∨ k = 4 by omega) with rfl | rfl | rfl | rfl | rfl <;> decide
end Go.Mob
namespace Go.Proofs.YtkiiifmofmbniaaDoor
open Go.RowKit Go.Over Go.Mob Go.Can Go.Seg Go.Grow
theorem made_ints (n : Nat) : (madeCells (Value.int .i64 0).cells (n * 1)).toList = nums (List.replicate n 0) := by
  simp only [madeCells, Nat.mul_one, Value.cells, Array.toList_map, Array.toList_range, nums]
  apply List.ext_getElem
  · simp
  · intro i h1 h2
    simp [Nat.mod_one]
theorem wpList_make_ints (w : World) {ops : Array Oper} {rest : List Oper} {x : Oper} {a : Act} {Q : Exit → Act → World → Prop} (hg : x.guard = none) (l c : Operand) (hop : x.op = Op.makeSlice 22 l c) (kl kc : IntKind) (o o' : Int) (n : Nat)
    (hl : a.eval l = .int kl o) (hc : a.eval c = .int kc o') (ho : o = (n : Int)) (ho' : o' = (n : Int)) (hn0 : 0 < n) (hn : n ≤ 1000)
    (hK : ∀ w', Blk w' w.heap.size 3 (nums (List.replicate n 0)) → Below w.heap.size w w' → wpList Tryd.prog ops Q rest (a.put x.dst (.slice (some ⟨w.heap.size, 0, none⟩) n n)) w') :
    wpList Tryd.prog ops Q (x :: rest) a w := by
  obtain ⟨i, hi, hz0, hz1, hz2⟩ := info_parts (show (Tryd.prog.info? 3).map (fun i => (i.zero, i.size, i.bytes)) = some (some (.int .i64 0), 1, 8) by kernel_rfl)
  refine wpList_make_full w hg l c 22 hop w.heap.size 3 i (.int .i64 0) 1 Tryd.underlying22 hi hz0 hz1 kl kc o o' n hl hc ho ho' (by rw [hz2]; omega) (by unfold maxLen; omega) (Nat.le_refl _) ?_
  rw [made_ints]
  intro w' ho hg
  obtain ⟨g, cap, cur, hV, h1, h2, h3, h4, h5, h6, h7⟩ := row_open ho hn0
  cases hV
  rw [List.take_of_length_le (by omega)] at h6
  subst h6
  exact hK w' h2 ⟨hg.os, hg.tape, hg.output, hg.size, fun k hk => hg.block k hk (by simp)⟩
theorem nums_put {l : List Int} {i : Nat} {x : Int} : (nums l).set i (.int .i64 x) = nums (l.set i x) := by
  unfold nums; rw [List.map_set]
theorem nums_get {l : List Int} {i : Nat} {x : Int} (h : l[i]? = some x) : (nums l)[i]? = some (.int .i64 x) := by
  unfold nums; rw [List.getElem?_map, h]; rfl
/-- A row of a call's own, of full capacity. -/
theorem own_full {W : World} {B g n : Nat} {l : List Int} (h : Blk W g 3 (nums l)) (hg : B ≤ g) (hn : l.length = n) (hm : n ≤ 1000) : Own W B (.slice (some ⟨g, 0, none⟩) n n) l := by
  subst hn
  exact row_shut hg h (Nat.le_refl _) (by unfold maxLen; omega) (by simp [nums]) (List.take_of_length_le (by simp [nums]))
/-- A number of a row that is the call's own is set: the argument stays. -/
theorem PX.row {w W : World} {g gs : Nat} {cs bs : List Value} {p : P} (hV : PV w cs p) (h : PX w g cs p W) (hB : Blk W gs 3 bs) (hl : w.heap.size ≤ gs) (i : Nat) (u : Value) : PX w g cs p (W.setCell ⟨gs, i, none⟩ u) := by
  have hb := h.b.setCell (p := ⟨gs, i, none⟩) hl u
  exact ⟨hb, h.l, h.x.far (p := ⟨gs, i, none⟩) (h.x.ne_type hB (by decide)) u, hV.below hb⟩
set_option maxRecDepth 100000 in set_option maxHeartbeats 3200000 in
theorem set_38 (v : Value) (p : P) (w : World) (H : Rpv w v p) (HL : Lst p) : Calls Tryd.prog 38 #[v] w fun e w' => ∃ gs, e = .returned (.slice (some ⟨gs, 0, none⟩) 256 256) ∧ Blk w' gs 3 (nums (cnts (covA p 0))) ∧ w.heap.size ≤ gs ∧ Below w.heap.size w w' := by
  obtain ⟨cs, rfl, hV⟩ := H
  have X0 := PX.new hV
  have HV0 := Lib.hid hV
  clear hV
  go_enter Tryd.func38, Tryd.ntmps38
  go_upto_region 1 with fail
  obtain ⟨w1, hw1⟩ : ∃ W, W = w.alloc (.cells cs.toArray 26) := ⟨_, rfl⟩
  have X1 : PX w w.heap.size cs p w1 := by rw [hw1]; exact X0
  rw [← hw1]
  obtain ⟨g, hg0⟩ : ∃ g, w.heap.size = g := ⟨_, rfl⟩
  rw [hg0] at X1 ⊢
  clear hw1 X0 hg0
  go_upto_region 2 with (refine wpList_make_ints _ rfl _ _ rfl .i64 .i64 256 256 256 rfl rfl rfl rfl (by decide) (by decide) ?_; intro w2 hS2 b2)
  have X2 := X1.below b2
  have hls : w.heap.size ≤ w1.heap.size := X1.b.size
  obtain ⟨gs, hgs⟩ : ∃ g, w1.heap.size = g := ⟨_, rfl⟩
  rw [hgs] at hS2 hls ⊢
  rw [← cnts_nil] at hS2
  clear hgs b2 X1
  have HLL := Lib.hid HL
  go_wp2
  go_loopg [4] 3 (fun gg v4 wr => ∃ (t : Nat) (C : List Int), t + gg = 3 ∧ v4 = .int .i64 t ∧ C ++ covA p (5 * t) = covA p 0 ∧ PX w g cs p wr ∧ Blk wr gs 3 (nums (cnts C)))
  case atStart => exact ⟨0, [], by omega, rfl, rfl, X2, hS2⟩
  case round =>
    clear X2 hS2
    obtain ⟨t, C, hg, rfl, hC, X3, S3⟩ := hrel
    have HC := Lib.hid hC
    clear hC
    cases gk with
    | zero =>
      have ht3 : ¬ t < 3 := by omega
      have HF := Lib.hid (show C = covA p 0 by
        have := HC.out
        rw [show 5 * t = 15 by omega, covA_end, List.append_nil] at this
        exact this)
      clear hg
      go_wp2
      go_ret
      exact ⟨gs, rfl, by rw [← HF.out]; exact S3, hls, X3.b⟩
    | succ gg =>
      have ht : t < 3 := by omega
      have tt : decide ((t : Int) < 3) = true := by simp; omega
      have HG := Lib.hid hg
      clear hg
      go_wp2
      go_loopg [5] 5 (fun g2 v5 wr => ∃ (k : Nat) (C : List Int), k + g2 = 5 ∧ v5 = .int .i64 k ∧ C ++ covA p (5 * t + k) = covA p 0 ∧ PX w g cs p wr ∧ Blk wr gs 3 (nums (cnts C)))
      case atStart => exact ⟨0, C, by omega, rfl, HC.out, X3, S3⟩
      case round =>
        clear X3 S3 HC
        obtain ⟨k, C, hk, rfl, hC, X4, S4⟩ := hrel
        have HC := Lib.hid hC
        clear hC
        cases gk with
        | zero =>
          have tk : decide ((k : Int) ≤ 4) = false := by simp; omega
          have HN := Lib.hid (show C ++ covA p (5 * (t + 1)) = covA p 0 by have := HC.out; rwa [show 5 * t + k = 5 * (t + 1) by omega] at this)
          clear hk
          go_wp2
          go_roundg gg
          case rel => exact ⟨t + 1, C, by have := HG.out; omega, by go_num, HN.out, X4, S4⟩
          case measure => omega
        | succ g2 =>
          have hk5 : k < 5 := by omega
          have tk : decide ((k : Int) ≤ 4) = true := by simp; omega
          have HK := Lib.hid hk
          obtain ⟨l, hl⟩ : ∃ l, p.fr (5 * t + k) = l := ⟨_, rfl⟩
          obtain ⟨n, hn⟩ : ∃ n, l.length = n := ⟨_, rfl⟩
          have hall := HLL.out.ins (5 * t + k) (by omega)
          have hlen := HLL.out.len (i := 5 * t + k) (by omega)
          rw [hl] at hall hlen
          rw [show (5 * t + k) % 5 = k by omega] at hall
          have hn256 : n ≤ 256 := by omega
          have HALL := Lib.hid hall; have HLI := Lib.hid hl; have HN := Lib.hid hn
          have HC2 := Lib.hid (show C ++ (covL k (l.drop 0) ++ covA p (5 * t + k + 1)) = covA p 0 by
            have := HC.out
            rw [covA_step (by omega), hl, show (5 * t + k) % 5 = k by omega] at this
            exact this)
          clear hk hl hn hall hlen HC
          go_wp2
          go_loopg [6] n (fun g3 v6 wr => ∃ (j : Nat) (C : List Int), j + g3 = n ∧ v6 = .int .i64 j ∧ C ++ (covL k (l.drop j) ++ covA p (5 * t + k + 1)) = covA p 0 ∧ PX w g cs p wr ∧ Blk wr gs 3 (nums (cnts C)))
          case atStart => exact ⟨0, C, by omega, rfl, HC2.out, X4, S4⟩
          case round =>
            clear X4 S4 HC2
            obtain ⟨j, C, hj, rfl, hC, X5, S5⟩ := hrel
            have HC := Lib.hid hC
            clear hC
            obtain ⟨a, n', c, hc, hn', hnc, hcm, _, hI⟩ := X5.v.list X5.x ht hk5
            rw [HLI.out] at hn' hI
            obtain rfl : n = n' := by rw [← hn', HN.out]
            clear hn' hnc hcm
            cases gk with
            | zero =>
              have hjn : ¬ j < n := by omega
              have HNX := Lib.hid (show C ++ covA p (5 * t + (k + 1)) = covA p 0 by
                have := HC.out
                rw [List.drop_eq_nil_of_le (by rw [HN.out]; omega)] at this
                exact this)
              clear hj hI
              go_wp2
              go_roundg g2
              case rel => exact ⟨k + 1, C, by have := HK.out; omega, by go_num, HNX.out, X5, S5⟩
              case measure => omega
            | succ g3 =>
              have hjn : j < n := by omega
              obtain ⟨x, hx⟩ := get_some HN.out hjn
              obtain ⟨z1, z2, z3⟩ := ins_lt HLL.out.rng hk5 (HALL.out x (List.mem_of_getElem? hx)).1
              obtain ⟨b, off, rfl, cx⟩ := hI.at hx
              obtain ⟨xn, rfl⟩ : ∃ n : Nat, x = (n : Int) := ⟨x.toNat, by omega⟩
              obtain ⟨m, hm⟩ : ∃ m, 2 ^ k = m := ⟨_, rfl⟩
              have HW := Lib.hid (show wrap64 ((2 : Int) ^ k) = (m : Int) by rw [← hm]; exact wrap_pow hk5)
              have hm1 : xn + m ≤ 256 := by
                have : (xn : Int) + ((2 ^ k : Nat) : Int) ≤ 256 := z3
                rw [hm] at this; omega
              have hm16 : m ≤ 16 := by rw [← hm]; exact pow_le16 hk5
              have HX := Lib.hid hx; have HJ := Lib.hid hj
              have HC2 := Lib.hid (show C ++ (cov ((xn : Int) + ((0 : Nat) : Int)) (m - 0) ++ (covL k (l.drop (j + 1)) ++ covA p (5 * t + k + 1))) = covA p 0 by
                have := HC.out
                rw [covL_cons hx, hm, List.append_assoc] at this
                simpa using this)
              clear hx hj z1 z2 z3 hI hm HC
              have hwm : ∀ i : Nat, i = k → wrap64 ((2 : Int) ^ i) = (m : Int) := fun i hi => by subst hi; exact HW.out
              go_wp2
              go_loopg [7] m (fun g4 v7 wr => ∃ (q : Nat) (C : List Int), q + g4 = m ∧ v7 = .int .i64 ((xn + q : Nat) : Int) ∧ C ++ (cov ((xn : Int) + (q : Int)) (m - q) ++ (covL k (l.drop (j + 1)) ++ covA p (5 * t + k + 1))) = covA p 0 ∧ PX w g cs p wr ∧ Blk wr gs 3 (nums (cnts C)))
              case atStart => exact ⟨0, C, by omega, by rw [Nat.add_zero], HC2.out, X5, S5⟩
              case round =>
                clear X5 S5 HC2 hc cx
                obtain ⟨q, C, hq, rfl, hC, X6, S6⟩ := hrel
                have HC := Lib.hid hC
                clear hC
                obtain ⟨a, n', c, hc, hn', hnc, hcm, _, hI⟩ := X6.v.list X6.x ht hk5
                rw [HLI.out] at hn' hI
                obtain rfl : n = n' := by rw [← hn', HN.out]
                obtain ⟨b2, off2, rfl, cx⟩ := hI.at HX.out
                obtain ⟨xq, hxq⟩ : ∃ x, xn + q = x := ⟨_, rfl⟩
                clear hn' hnc hcm hI
                cases gk with
                | zero =>
                  have tq : decide ((xq : Int) < (xn : Int) + (m : Int)) = false := by simp; omega
                  have HNX := Lib.hid (show C ++ (covL k (l.drop (j + 1)) ++ covA p (5 * t + k + 1)) = covA p 0 by
                    have := HC.out
                    rw [show m - q = 0 by omega] at this
                    exact this)
                  rw [hxq]
                  clear hq hxq
                  go_wp2
                  go_roundg g3
                  case rel => exact ⟨j + 1, C, by have := HJ.out; omega, by go_num, HNX.out, X6, S6⟩
                  case measure => omega
                | succ g4 =>
                  have hqm : q < m := by omega
                  have tq : decide ((xq : Int) < (xn : Int) + (m : Int)) = true := by simp; omega
                  have hx256 : xq < 256 := by omega
                  have c0 := S6.cell xq
                  rw [nums_get (cnts_get C hx256)] at c0
                  have f0 := S6.frozen xq
                  obtain ⟨Z, hZ⟩ : ∃ Z, C.count (xq : Int) = Z := ⟨_, rfl⟩
                  rw [hZ] at c0
                  have hZ1 : Z ≤ 100000 := by
                    have h1 := List.count_le_length (a := (xq : Int)) (l := C)
                    have h2 := congrArg List.length HC.out
                    rw [List.length_append] at h2
                    have h3 := covA_len HLL.out 15 0 rfl
                    omega
                  have HZ := Lib.hid hZ
                  have HNX := Lib.hid (show (C ++ [(xq : Int)]) ++ (cov ((xn : Int) + ((q + 1 : Nat) : Int)) (m - (q + 1)) ++ (covL k (l.drop (j + 1)) ++ covA p (5 * t + k + 1))) = covA p 0 by
                    have := HC.out
                    rw [cov_step hqm] at this
                    rw [← this, ← hxq]
                    simp)
                  have HQ := Lib.hid hq; have HXQ := Lib.hid hxq
                  rw [hxq]
                  clear hq hxq hZ
                  go_wp2
                  have X7 := PX.row HV0.out X6 S6 hls xq (.int .i64 ((Z : Int) + 1))
                  have S7 : Blk (wr.setCell ⟨gs, xq, none⟩ (.int .i64 ((Z : Int) + 1))) gs 3 (nums (cnts (C ++ [(xq : Int)]))) := by
                    have := S6.set xq (.int .i64 ((Z : Int) + 1))
                    rw [nums_put] at this
                    rw [← cnts_put, HZ.out]
                    exact this
                  go_roundg g4
                  case rel => exact ⟨q + 1, _, by have := HQ.out; omega, by have := HXQ.out; rw [show xn + (q + 1) = xq + 1 by omega]; go_num, HNX.out, X7, S7⟩
                  case measure => omega
end Go.Proofs.YtkiiifmofmbniaaDoor
