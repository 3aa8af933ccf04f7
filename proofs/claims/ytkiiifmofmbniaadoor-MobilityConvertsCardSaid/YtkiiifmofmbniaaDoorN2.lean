/- Walks: the first error of the lists, of the document. -/
import Derived.Test.YtkiiifmofmbniaaDoorN1
import Derived.Test.YtkiiifmofmbniaaDoorM20
namespace Go.Proofs.YtkiiifmofmbniaaDoor
open Go.RowKit Go.Over Go.Mob Go.Can Go.Seg Go.Grow
theorem quiet_run {P : Program} {o : Oper} {a : Act} {C : World → Prop} {K : Act → Prop} {v : Value} (h : ∀ w, C w → (execOp a.eval o).run P w = .ok (.value v) w) (hk : K (a.put o.dst v)) : o.quiet P a C K :=
  ⟨v, fun w hw => by unfold Oper.quietAt; rw [h w hw]; exact ⟨rfl, rfl⟩, hk⟩
theorem run_load_row {P : Program} {w : World} {ρ : Operand → Value} {o : Oper} {ty : TypeId} {x : Operand} (ho : o.op = .load ty x) (g : Nat) (hx : ρ x = .pointer (some ⟨g, 0, none⟩)) (t : TypeId) (cs : Array Value) (fr : Nat × Nat) (d : TypeDesc) (hg : w.heap[g]? = some (.cells cs t fr))
    (hu : P.underlying ty = some d) (hd : (match d with | .struct _ | .array _ _ => true | _ => false) = true) (hi : (P.info? ty).map (·.size) = some cs.size) :
    (execOp ρ o).run P w = .ok (.value (.agg cs)) w := by
  unfold execOp
  simp only [ho, hx, Instr.loadAt, Instr.sureAddr, Sem.run_bind, Sem.run_pure, Result.andThen_ok, run_loadVar_row w g t ty cs fr d hg hu hd hi]
set_option maxRecDepth 100000 in set_option maxHeartbeats 3200000 in
theorem listError_37 (v : Value) (p : P) (w : World) (H : Rpv w v p) (hr : rngB p = true) (hm : lenB p) : Calls Tryd.prog 37 #[v] w fun e w' => e = .returned (.int .i64 (leA p 0)) ∧ Below w.heap.size w w' := by
  obtain ⟨E, hE⟩ : ∃ E, leA p 0 = E := ⟨_, rfl⟩
  rw [hE]
  have HE := Lib.hid hE; have HR := Lib.hid hr; have HMM := Lib.hid hm
  clear hE hr hm
  obtain ⟨cs, rfl, hV⟩ := H
  have X0 := PX.new hV
  clear hV
  go_enter Tryd.func37, Tryd.ntmps37
  go_upto_region 1 with fail
  obtain ⟨w1, hw1⟩ : ∃ W, W = w.alloc (.cells cs.toArray 26) := ⟨_, rfl⟩
  have X1 : PX w w.heap.size cs p w1 := by rw [hw1]; exact X0
  rw [← hw1]
  obtain ⟨g, hg0⟩ : ∃ g, w.heap.size = g := ⟨_, rfl⟩
  rw [hg0] at X1 ⊢
  clear hw1 X0 hg0
  go_wp2
  go_loopg [3] 3 (fun gg v3 wr => ∃ t : Nat, t + gg = 3 ∧ v3 = .int .i64 t ∧ leA p 0 = leA p (5 * t) ∧ PX w g cs p wr)
  case atStart => exact ⟨0, by omega, rfl, rfl, X1⟩
  case round =>
    clear X1
    obtain ⟨t, hg, rfl, hL, X2⟩ := hrel
    have HL := Lib.hid hL
    clear hL
    cases gk with
    | zero =>
      have ht3 : ¬ t < 3 := by omega
      have HF := Lib.hid (show E = 0 by rw [← HE.out, HL.out, show 5 * t = 15 by omega]; exact leA_end p)
      clear hg
      go_wp2
      go_ret
      exact ⟨ret_int HF.out.symm, X2.b⟩
    | succ gg =>
      have ht : t < 3 := by omega
      have tt : decide ((t : Int) < 3) = true := by simp; omega
      have HG := Lib.hid hg
      clear hg
      go_wp2
      go_loopg [4] 5 (fun g2 v4 wr => ∃ k : Nat, k + g2 = 5 ∧ v4 = .int .i64 k ∧ leA p 0 = leA p (5 * t + k) ∧ PX w g cs p wr)
      case atStart => exact ⟨0, by omega, rfl, HL.out, X2⟩
      case round =>
        clear X2 HL
        obtain ⟨k, hk, rfl, hL, X3⟩ := hrel
        have HL := Lib.hid hL
        clear hL
        cases gk with
        | zero =>
          have hk5 : ¬ k < 5 := by omega
          have tk : decide ((k : Int) ≤ 4) = false := by simp; omega
          have HN := Lib.hid (show leA p 0 = leA p (5 * (t + 1)) by rw [HL.out, show 5 * t + k = 5 * (t + 1) by omega])
          clear hk
          go_wp2
          go_roundg gg
          case rel => exact ⟨t + 1, by have := HG.out; omega, by go_num, HN.out, X3⟩
          case measure => omega
        | succ g2 =>
          have hk5 : k < 5 := by omega
          have tk : decide ((k : Int) ≤ 4) = true := by simp; omega
          have HK := Lib.hid hk
          obtain ⟨a, n, c, hc, hn, hnc, hcm, _, hI⟩ := X3.v.list X3.x ht hk5
          obtain ⟨l, hl⟩ : ∃ l, p.fr (5 * t + k) = l := ⟨_, rfl⟩
          rw [hl] at hn hI
          have hlen := HMM.out.2 (5 * t + k) (by omega)
          rw [hl] at hlen
          have hn5 : n ≤ 100000 := by omega
          have HLI := Lib.hid hl; have HN := Lib.hid hn; have HII := Lib.hid hI
          clear hk hl hn hnc hcm hlen hI
          go_wp2
          clear hc
          go_loopg [6] n (fun g3 v6 wr => ∃ j : Nat, j + g3 = n ∧ v6 = .int .i64 j ∧ le1 p (5 * t + k) false 0 l = le1 p (5 * t + k) (decide (0 < j)) (l.getD (j - 1) 0) (l.drop j) ∧ PX w g cs p wr ∧ Ints wr a l)
          case atStart => exact ⟨0, by omega, rfl, le1_start, X3, HII.out⟩
          case round =>
            clear X3 HII
            obtain ⟨j, hj, rfl, hl1, X4, hI4⟩ := hrel
            have HL1 := Lib.hid hl1
            clear hl1
            cases gk with
            | zero =>
              have hjn : ¬ j < n := by omega
              have HNX := Lib.hid (show leA p 0 = leA p (5 * t + (k + 1)) by
                rw [HL.out]
                refine leA_ok (by omega) ?_
                rw [HLI.out, HL1.out]
                exact le1_end (by rw [HN.out]; omega))
              clear hj
              go_wp2
              go_roundg g2
              case rel => exact ⟨k + 1, by have := HK.out; omega, by go_num, HNX.out, X4⟩
              case measure => omega
            | succ g3 =>
              have hjn : j < n := by omega
              obtain ⟨x, hx⟩ := get_some HN.out hjn
              obtain ⟨b, off, rfl, cx⟩ := hI4.at hx
              have hst := le1_step (p := p) (i := 5 * t + k) hx
              rw [bad_eq hk5] at hst
              have HST := Lib.hid hst; have HX := Lib.hid hx; have HJ := Lib.hid hj
              clear hst hx hj
              have BK := fun u => calls_over (block_51 _ p x k hk5 _ (X4.below (below_over wr u)).rpv HR.out)
              obtain ⟨B, hB⟩ : ∃ b, insB p x k = b := ⟨_, rfl⟩
              rw [hB] at BK
              have HBK := Lib.hid BK; have HB := Lib.hid hB
              clear BK
              go_wp2_with fail
              cases B with
              | false =>
                have HF := Lib.hid (show E = 3 by
                  rw [← HE.out, HL.out, leA_bad (by omega), HLI.out, HL1.out, HST.out, HB.out]
                  · rfl
                  · rw [HLI.out, HL1.out, HST.out, HB.out]; simp)
                clear hB
                refine wp_region_over (by kernel_rfl) (by kernel_rfl) ?_
                have z0 := fun u => over_cell cx u
                go_big_quiet_want
                rename_i K hK
                refine quiet_run (v := .agg cs.toArray) (fun w' hw' => ?_) ?_
                · obtain ⟨u, rfl⟩ := hw'
                  exact run_load_row rfl g rfl 26 cs.toArray (0, 0) _ (X4.x.later (below_over wr u)) Tryd.underlying26 rfl (by rw [info26]; simp [X4.v.len])
                refine hK _ ?_
                clear hK K
                simp only [Act.put, List.setIfInBounds_toArray, List.set_cons_succ, List.set_cons_zero]
                repeat (go_big_quiet_step (fail))
                go_big_quiet_step ((go_at_call 51; exact HBK.out _))
                repeat (go_big_quiet_step (fail))
                refine wpQuiet_nil ?_
                rintro _ ⟨u, rfl⟩
                have hfin := (X4.below (below_over wr u)).b
                go_wp2
                go_ret
                exact ⟨ret_int HF.out.symm, hfin⟩
              | true =>
                obtain ⟨r1, r2, r3, r4, r5, _⟩ := rng_of HR.out
                obtain ⟨i1, i2, _⟩ := ins_open hB
                obtain ⟨q, hq⟩ : ∃ i, ((x - p.st) / 16).toNat = i := ⟨_, rfl⟩
                have e1 : (x - p.st).tdiv 16 = (q : Int) := by rw [Int.tdiv_eq_ediv_of_nonneg (by omega)]; omega
                have hql : q < p.ty.length := by omega
                obtain ⟨y, hy⟩ : ∃ y, tyAt p x = y := ⟨_, rfl⟩
                have hx : p.ty[q]? = some y := by
                  unfold tyAt at hy
                  rw [hq, List.getD_eq_getElem?_getD, List.getElem?_eq_getElem hql] at hy
                  rw [List.getElem?_eq_getElem hql, ← hy]; rfl
                obtain ⟨aT, nT, cT, hT, hnT, _, _, _, hIT⟩ := X4.v.types X4.x
                have h0 := X4.v.start X4.x
                obtain ⟨bT, oT, rfl, cy⟩ := hIT.at hx
                have hqn : q < nT := by omega
                have hq16 : q < 16 := by omega
                have HY := Lib.hid hy
                have hb0 : p.st ≤ x := i1
                have hb1 : x < 256 := by omega
                have hb2 : 0 ≤ p.st := r1
                clear r2 r3 r4 r5 i2 hq hx hnT hIT hy hql i1 r1 hB
                by_cases hyt : y = (t : Int)
                · have HST2 := Lib.hid (show le1 p (5 * t + k) (decide (0 < j)) (l.getD (j - 1) 0) (l.drop j) = if 0 < j ∧ x ≤ l.getD (j - 1) 0 then 10 else le1 p (5 * t + k) (decide (0 < j + 1)) (l.getD (j + 1 - 1) 0) (l.drop (j + 1)) by
                    rw [HST.out, HB.out, HY.out, hyt]
                    simp)
                  have ty0 : (y != (t : Int)) = false := by simp [hyt]
                  refine wp_region_over (by kernel_rfl) (by kernel_rfl) ?_
                  have z0 := fun u => over_cell cx u
                  have z1 := fun u => over_cell hT u
                  have z2 := fun u => over_cell h0 u
                  have z3 := fun u => over_cell cy u
                  clear hyt
                  go_big_quiet_want
                  rename_i K hK
                  refine quiet_run (v := .agg cs.toArray) (fun w' hw' => ?_) ?_
                  · obtain ⟨u, rfl⟩ := hw'
                    exact run_load_row rfl g rfl 26 cs.toArray (0, 0) _ (X4.x.later (below_over wr u)) Tryd.underlying26 rfl (by rw [info26]; simp [X4.v.len])
                  refine hK _ ?_
                  clear hK K
                  simp only [Act.put, List.setIfInBounds_toArray, List.set_cons_succ, List.set_cons_zero]
                  repeat (go_big_quiet_step (fail))
                  go_big_quiet_step ((go_at_call 51; exact HBK.out _))
                  repeat (go_big_quiet_step (fail))
                  refine wpQuiet_nil ?_
                  rintro _ ⟨u, rfl⟩
                  have X5 := X4.below (below_over wr u)
                  have hI5 := hI4.below (below_over wr u)
                  obtain ⟨wr2, hwr2⟩ : ∃ W, W = over wr u := ⟨_, rfl⟩
                  have cx5 := cell_later (below_over wr u) cx
                  rw [← hwr2] at X5 hI5 cx5 ⊢
                  clear z0 z1 z2 z3 hwr2 HBK X4 hI4 cx hT h0 cy HST e1 ty0
                  by_cases hj0 : j = 0
                  · subst hj0
                    have HN1 := Lib.hid (show le1 p (5 * t + k) false 0 l = le1 p (5 * t + k) (decide (0 < 0 + 1)) (l.getD (0 + 1 - 1) 0) (l.drop (0 + 1)) by rw [HL1.out, HST2.out, if_neg (by omega)])
                    go_wp2_with fail
                    refine wp_region_over (by kernel_rfl) (by kernel_rfl) ?_
                    repeat (go_big_quiet_step (fail))
                    refine wpQuiet_nil ?_
                    rintro _ ⟨u2, rfl⟩
                    have X6 := X5.below (below_over wr2 u2)
                    have hI6 := hI5.below (below_over wr2 u2)
                    go_wp2
                    go_roundg g3
                    case rel => exact ⟨0 + 1, by have := HJ.out; omega, by first | rfl | go_num, HN1.out, X6, hI6⟩
                    case measure => omega
                  · obtain ⟨i, rfl⟩ : ∃ i, j = i + 1 := ⟨j - 1, by omega⟩
                    obtain ⟨z, hz⟩ := get_some HN.out (show i < n by omega)
                    obtain ⟨_, _, hbo, cz⟩ := hI5.at hz
                    cases hbo
                    have hzd : l.getD (i + 1 - 1) 0 = z := by rw [Nat.add_sub_cancel, List.getD_eq_getElem?_getD, hz]; rfl
                    have tj : decide ((0 : Int) < ((i + 1 : Nat) : Int)) = true := decide_eq_true (by omega)
                    have ej : ((i + 1 : Nat) : Int) - 1 = (i : Int) := by omega
                    by_cases hxz : x ≤ z
                    · have txz : decide (x ≤ z) = true := by simpa using hxz
                      have HF := Lib.hid (show E = 10 by
                        rw [← HE.out, HL.out, leA_bad (by omega), HLI.out, HL1.out, HST2.out, if_pos ⟨by omega, by rw [hzd]; exact hxz⟩]
                        rw [HLI.out, HL1.out, HST2.out, if_pos ⟨by omega, by rw [hzd]; exact hxz⟩]; decide)
                      clear hz hzd HL1 HST2 hxz
                      go_wp2_with fail
                      refine wp_region_over (by kernel_rfl) (by kernel_rfl) ?_
                      have z0 := fun u => over_cell cx5 u
                      have z1 := fun u => over_cell cz u
                      repeat (go_big_quiet_step (fail))
                      refine wpQuiet_nil ?_
                      rintro _ ⟨u2, rfl⟩
                      have X6 := X5.below (below_over wr2 u2)
                      go_wp2
                      go_ret
                      exact ⟨ret_int HF.out.symm, X6.b⟩
                    · have txz : decide (x ≤ z) = false := by simpa using hxz
                      have HN1 := Lib.hid (show le1 p (5 * t + k) false 0 l = le1 p (5 * t + k) (decide (0 < i + 1 + 1)) (l.getD (i + 1 + 1 - 1) 0) (l.drop (i + 1 + 1)) by
                        rw [HL1.out, HST2.out, if_neg (by rintro ⟨_, h⟩; rw [hzd] at h; exact hxz h)])
                      clear hz hzd HL1 HST2 hxz
                      go_wp2_with fail
                      refine wp_region_over (by kernel_rfl) (by kernel_rfl) ?_
                      have z0 := fun u => over_cell cx5 u
                      have z1 := fun u => over_cell cz u
                      repeat (go_big_quiet_step (fail))
                      refine wpQuiet_nil ?_
                      rintro _ ⟨u2, rfl⟩
                      have X6 := X5.below (below_over wr2 u2)
                      have hI6 := hI5.below (below_over wr2 u2)
                      go_wp2
                      go_roundg g3
                      case rel => exact ⟨i + 1 + 1, by have := HJ.out; omega, by go_num, HN1.out, X6, hI6⟩
                      case measure => omega
                · have ty0 : (y != (t : Int)) = true := by simpa using hyt
                  have HF := Lib.hid (show E = 3 by
                    rw [← HE.out, HL.out, leA_bad (by omega), HLI.out, HL1.out, HST.out, if_pos (by rw [HB.out, HY.out]; simpa using hyt)]
                    rw [HLI.out, HL1.out, HST.out, if_pos (by rw [HB.out, HY.out]; simpa using hyt)]; decide)
                  clear hyt HST
                  refine wp_region_over (by kernel_rfl) (by kernel_rfl) ?_
                  have z0 := fun u => over_cell cx u
                  have z1 := fun u => over_cell hT u
                  have z2 := fun u => over_cell h0 u
                  have z3 := fun u => over_cell cy u
                  go_big_quiet_want
                  rename_i K hK
                  refine quiet_run (v := .agg cs.toArray) (fun w' hw' => ?_) ?_
                  · obtain ⟨u, rfl⟩ := hw'
                    exact run_load_row rfl g rfl 26 cs.toArray (0, 0) _ (X4.x.later (below_over wr u)) Tryd.underlying26 rfl (by rw [info26]; simp [X4.v.len])
                  refine hK _ ?_
                  clear hK K
                  simp only [Act.put, List.setIfInBounds_toArray, List.set_cons_succ, List.set_cons_zero]
                  repeat (go_big_quiet_step (fail))
                  go_big_quiet_step ((go_at_call 51; exact HBK.out _))
                  repeat (go_big_quiet_step (fail))
                  refine wpQuiet_nil ?_
                  rintro _ ⟨u, rfl⟩
                  have hfin := (X4.below (below_over wr u)).b
                  go_wp2
                  go_ret
                  exact ⟨ret_int HF.out.symm, hfin⟩
end Go.Proofs.YtkiiifmofmbniaaDoor
