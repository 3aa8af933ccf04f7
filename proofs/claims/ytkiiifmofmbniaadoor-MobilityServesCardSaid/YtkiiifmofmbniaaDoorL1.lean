/- Walks: the laws on plays; when everything has been given back. -/
import Derived.Test.YtkiiifmofmbniaaDoorM20
namespace Go.Mob
open Go.Can
theorem play_start {x y z : Nat} (l : List Stp) : ∃ s, (∃ q, newP 32 [((x % 3 : Nat) : Int), ((y % 3 : Nat) : Int), ((z % 3 : Nat) : Int)] = (q, 0) ∧ playP (q, []) l = some s) ∧ PI s ∧ s.2.length ≤ l.length := by
  obtain ⟨q, hq, hP⟩ := PI.start (Nat.mod_lt x (show 0 < 3 by decide)) (Nat.mod_lt y (show 0 < 3 by decide)) (Nat.mod_lt z (show 0 < 3 by decide))
  obtain ⟨s, h1, h2, h3⟩ := play_ok l hP
  exact ⟨s, ⟨q, hq, h1⟩, h2, by simpa using h3⟩
def sumT (q : P) : Nat → Nat
  | 0 => 0
  | t + 1 => sumT q t + (q.fr (5 * t + 4)).length
theorem sumT_three {q : P} (h : PI (q, [])) : sumT q 3 = 3 := by
  have := all_sum h
  show 0 + (q.fr (5 * 0 + 4)).length + (q.fr (5 * 1 + 4)).length + (q.fr (5 * 2 + 4)).length = 3
  simpa using this
theorem sumT_le {q : P} (h : PI (q, [])) {t : Nat} (ht : t ≤ 3) : sumT q t ≤ 3 := by
  have h3 := sumT_three h
  rcases (show t = 0 ∨ t = 1 ∨ t = 2 ∨ t = 3 by omega) with rfl | rfl | rfl | rfl
  · exact Nat.zero_le _
  · have e : sumT q 3 = sumT q 1 + (q.fr (5 * 1 + 4)).length + (q.fr (5 * 2 + 4)).length := rfl
    omega
  · have e : sumT q 3 = sumT q 2 + (q.fr (5 * 2 + 4)).length := rfl
    omega
  · omega
theorem all_count3 {q : P} (h : PI (q, [])) : ∃ a b c : Int, countP q 0 = a ∧ countP q 1 = b ∧ countP q 2 = c ∧ 0 ≤ a ∧ 0 ≤ b ∧ 0 ≤ c ∧ a + b + c = 48 := by
  refine ⟨_, _, _, rfl, rfl, rfl, ?_, ?_, ?_, all_count h⟩
  all_goals
    unfold countP
    split
    · have hpw : ∀ k, 0 ≤ pw k := fun k => Int.le_of_lt (pw_pos k)
      have key : ∀ (b n k : Nat), 0 ≤ cntN q b n k := by
        intro b n
        induction n with
        | zero => intro k; exact Int.le_refl _
        | succ n ih => intro k; exact Int.add_nonneg (Int.mul_nonneg (by omega) (hpw k)) (ih _)
      exact key _ _ _
    · exact Int.le_refl _
end Go.Mob
namespace Go.Proofs.YtkiiifmofmbniaaDoor
open Go.RowKit Go.Over Go.Mob Go.Can Go.Seg Go.Grow
theorem quiet_run {P : Program} {o : Oper} {a : Act} {C : World → Prop} {K : Act → Prop} {v : Value} (h : ∀ w, C w → (execOp a.eval o).run P w = .ok (.value v) w) (hk : K (a.put o.dst v)) : o.quiet P a C K :=
  ⟨v, fun w hw => by unfold Oper.quietAt; rw [h w hw]; exact ⟨rfl, rfl⟩, hk⟩
theorem run_load_row {P : Program} {w : World} {ρ : Operand → Value} {o : Oper} {ty : TypeId} {x : Operand} (ho : o.op = .load ty x) (g : Nat) (hx : ρ x = .pointer (some ⟨g, 0, none⟩)) (t : TypeId) (cs : Array Value) (fr : Nat × Nat) (d : TypeDesc) (hg : w.heap[g]? = some (.cells cs t fr))
    (hu : P.underlying ty = some d) (hd : (match d with | .struct _ | .array _ _ => true | _ => false) = true) (hi : (P.info? ty).map (·.size) = some cs.size) :
    (execOp ρ o).run P w = .ok (.value (.agg cs)) w := by
  unfold execOp
  simp only [ho, hx, Instr.loadAt, Instr.sureAddr, Sem.run_bind, Sem.run_pure, Result.andThen_ok, run_loadVar_row w g t ty cs fr d hg hu hd hi]
set_option maxRecDepth 100000 in set_option maxHeartbeats 3200000 in
theorem back_9 (x y z : Nat) (a : Option Addr) (l : List Stp) (n c : Nat) (w : World) (hx : x < 256) (hy : y < 256) (hz : z < 256) (HO0 : Ops w a l) (hn : l.length = n) (hFB : FB w) :
    Calls Tryd.prog 9 #[.agg #[.int .u8 x, .int .u8 y, .int .u8 z], .slice a n c] w fun e w' => e = .returned (.bool true) ∧ Below w.heap.size w w' := by
  obtain ⟨s, hS, hPI, hsl⟩ := play_start (x := x) (y := y) (z := z) l
  have HS := Lib.hid hS; have HPI := Lib.hid hPI; have HN := Lib.hid hn; have HSL := Lib.hid hsl
  clear hS hPI hn hsl
  go_enter Tryd.func9, Tryd.ntmps9
  go_wp2_with fail
  obtain ⟨w0, hw0⟩ : ∃ W, W = w.alloc (.cells #[.int .u8 x, .int .u8 y, .int .u8 z] 38) := ⟨_, rfl⟩
  have b0 : Below w.heap.size w w0 := by rw [hw0]; exact below_box _ _
  have X0 : Blk w0 w.heap.size 38 [.int .u8 x, .int .u8 y, .int .u8 z] := by rw [hw0]; exact Blk.new w 38 #[.int .u8 x, .int .u8 y, .int .u8 z] _ rfl
  rw [← hw0]
  refine (awake_12 _ (hFB.below b0)).mono ?_
  rintro e w1 ⟨rfl, b1⟩
  have B1 := below_then b0 b1
  by_cases h30 : 30 < n
  · have t0 : decide ((30 : Int) < (n : Int)) = true := by simp; omega
    go_wp2_with fail
    refine (awake_12 _ (hFB.below B1)).mono ?_
    rintro e w2 ⟨rfl, b2⟩
    go_wp2
    go_ret
    exact ⟨rfl, below_then B1 b2⟩
  have t0 : decide ((30 : Int) < (n : Int)) = false := by simp; omega
  have hle : n ≤ 30 := by omega
  have x0 := (X0.later b1).cell 0
  have x1 := (X0.later b1).cell 1
  have x2 := (X0.later b1).cell 2
  simp only [List.getElem?_cons_zero, List.getElem?_cons_succ] at x0 x1 x2
  clear h30 b0
  go_wp2_with fail
  clear x0 x1 x2 X0
  refine (play_23 x y z a l n c w1 hx hy hz (HO0.below B1) HN.out (by omega) (hFB.below B1) s HS.out).mono ?_
  rintro e w2 ⟨cs1, a9, c9, rfl, hO, hH, b2⟩
  have hO2 := MixP.weaken hO B1.size
  have hH2 : HO w2 w.heap.size (.slice a9 s.2.length c9) s.2 := own_weaken hH B1.size
  have B2 := below_then B1 b2
  have hz2 := Blk.new w2 26 #[.int .i64 0, .slice none 0 0, .slice none 0 0, .slice none 0 0, .slice none 0 0, .slice none 0 0, .slice none 0 0, .slice none 0 0, .slice none 0 0, .slice none 0 0, .slice none 0 0, .slice none 0 0, .slice none 0 0, .slice none 0 0, .slice none 0 0, .slice none 0 0, .slice none 0 0] zP rfl
  have h1c := (MixP.pv hO2).one
  have hlen := (MixP.pv hO2).len
  obtain ⟨m, hm⟩ : ∃ m, s.2.length = m := ⟨_, rfl⟩
  rw [hm] at hH2 ⊢
  go_upto_region 4 with ((with_reducible refine st26 (cs := cs1) ?_ ?_ hz2 zP_len hlen h1c ?_); (focus rfl); (focus rfl); intro w3 hB3 hg3)
  have V3 := VP.new hO2 B2 hz2 hB3 hg3
  have b3 : Below w2.heap.size w2 w3 := (below_box w2 (.cells #[.int .i64 0, .slice none 0 0, .slice none 0 0, .slice none 0 0, .slice none 0 0, .slice none 0 0, .slice none 0 0, .slice none 0 0, .slice none 0 0, .slice none 0 0, .slice none 0 0, .slice none 0 0, .slice none 0 0, .slice none 0 0, .slice none 0 0, .slice none 0 0, .slice none 0 0] 26)).grown hg3 (by simp) (fun k hk => Nat.le_of_eq (Option.some.inj hk))
  have H3 := HO.later hH2 b3
  have HM := Lib.hid hm
  have hm30 : m ≤ 30 := by have := HSL.out; have := HN.out; omega
  obtain ⟨g, hg⟩ : ∃ g, w2.heap.size = g := ⟨_, rfl⟩
  rw [hg] at V3 ⊢
  
  clear hg hB3 hg3 hz2 h1c hlen hO2 B2 hO hH hH2 b2 b3 hm HS hw0 b1 B1
  have hPI3 := HPI.out
  go_wp2
  go_loopg [34] m (fun gg v34 wr => ∃ (i : Nat) (p : P) (cs : List Value), i + gg = m ∧ v34 = .int .i64 i ∧ VP w g cs p wr ∧ HO wr w.heap.size (.slice a9 m c9) s.2 ∧ PI (p, s.2.drop i))
  case atStart => exact ⟨0, s.1, _, by omega, rfl, V3, H3, by rw [List.drop_zero]; exact hPI3⟩
  case round =>
    clear V3 H3 hPI3 HPI
    obtain ⟨i, p, cs, hg, rfl, V4, H4, hP4⟩ := hrel
    cases gk with
    | zero =>
      have him : ¬ i < m := by omega
      have hP5 : PI (p, []) := by
        rw [List.drop_eq_nil_of_le (by have := HM.out; omega)] at hP4
        exact hP4
      have HP5 := Lib.hid hP5
      clear hP4 hP5 hg H4
      obtain ⟨aT, nT, cT, hT, hnT, _, _, _, _⟩ := V4.v.types V4.x
      obtain rfl : nT = 3 := by rw [← hnT]; exact HP5.out.n
      clear hnT
      go_wp2
      go_loopg [12, 55] 3 (fun gg v12 v55 wq => ∃ t : Nat, t + gg = 3 ∧ v55 = .int .i64 t ∧ v12 = .int .i64 ((sumT p t : Nat) : Int) ∧ wr = wq)
      case atStart => exact ⟨0, by omega, rfl, rfl, rfl⟩
      case round =>
        obtain ⟨t, hg, rfl, rfl, rfl⟩ := hrel
        clear hT
        cases gk with
        | zero =>
          obtain rfl : t = 3 := by omega
          rw [sumT_three HP5.out]
          obtain ⟨n0, n1, n2, q0, q1, q2, p0, p1, p2, psum⟩ := all_count3 HP5.out
          have hck : chk p = 0 := chk_of HP5.out.v
          have C0 := fun u => calls_over (count_25 _ p 0 _ (V4.below (below_over wr u)).rpv)
          have C1 := fun u => calls_over (count_25 _ p 1 _ (V4.below (below_over wr u)).rpv)
          have C2 := fun u => calls_over (count_25 _ p 2 _ (V4.below (below_over wr u)).rpv)
          have C3 := fun u => calls_over (check_14 _ p _ (V4.below (below_over wr u)).rpv)
          rw [q0] at C0
          rw [q1] at C1
          rw [q2] at C2
          rw [hck] at C3
          have K0 := Lib.hid C0; have K1 := Lib.hid C1; have K2 := Lib.hid C2; have K3 := Lib.hid C3
          have ts : (n0 + n1 + n2 == 48) = true := by rw [psum]; rfl
          clear C0 C1 C2 C3 hck q0 q1 q2
          go_wp2_with fail
          refine wp_region_over (by kernel_rfl) (by kernel_rfl) ?_
          repeat (go_big_quiet_step (fail))
          go_big_quiet_want
          rename_i K hK
          refine quiet_run (v := .agg cs.toArray) (fun w' hw' => ?_) ?_
          · obtain ⟨u, rfl⟩ := hw'
            exact run_load_row rfl g rfl 26 cs.toArray (0, 0) _ (V4.x.later (below_over wr u)) Tryd.underlying26 rfl (by rw [info26]; simp [V4.v.len])
          refine hK _ ?_
          clear hK K
          simp only [Act.put, List.setIfInBounds_toArray, List.set_cons_succ, List.set_cons_zero]
          go_big_quiet_step ((go_at_call 25; exact K0.out _))
          go_big_quiet_want
          rename_i K hK
          refine quiet_run (v := .agg cs.toArray) (fun w' hw' => ?_) ?_
          · obtain ⟨u, rfl⟩ := hw'
            exact run_load_row rfl g rfl 26 cs.toArray (0, 0) _ (V4.x.later (below_over wr u)) Tryd.underlying26 rfl (by rw [info26]; simp [V4.v.len])
          refine hK _ ?_
          clear hK K
          simp only [Act.put, List.setIfInBounds_toArray, List.set_cons_succ, List.set_cons_zero]
          go_big_quiet_step ((go_at_call 25; exact K1.out _))
          repeat (go_big_quiet_step (fail))
          go_big_quiet_want
          rename_i K hK
          refine quiet_run (v := .agg cs.toArray) (fun w' hw' => ?_) ?_
          · obtain ⟨u, rfl⟩ := hw'
            exact run_load_row rfl g rfl 26 cs.toArray (0, 0) _ (V4.x.later (below_over wr u)) Tryd.underlying26 rfl (by rw [info26]; simp [V4.v.len])
          refine hK _ ?_
          clear hK K
          simp only [Act.put, List.setIfInBounds_toArray, List.set_cons_succ, List.set_cons_zero]
          go_big_quiet_step ((go_at_call 25; exact K2.out _))
          repeat (go_big_quiet_step (fail))
          go_big_quiet_want
          rename_i K hK
          refine quiet_run (v := .agg cs.toArray) (fun w' hw' => ?_) ?_
          · obtain ⟨u, rfl⟩ := hw'
            exact run_load_row rfl g rfl 26 cs.toArray (0, 0) _ (V4.x.later (below_over wr u)) Tryd.underlying26 rfl (by rw [info26]; simp [V4.v.len])
          refine hK _ ?_
          clear hK K
          simp only [Act.put, List.setIfInBounds_toArray, List.set_cons_succ, List.set_cons_zero]
          go_big_quiet_step ((go_at_call 14; exact K3.out _))
          repeat (go_big_quiet_step (fail))
          refine wpQuiet_nil ?_
          rintro _ ⟨u, rfl⟩
          have hfin := V4.b.trans ((below_over wr u).mono V4.b.size)
          go_wp2
          go_ret
          exact ⟨rfl, hfin⟩
        | succ g2 =>
          have ht3 : t < 3 := by omega
          have tt : decide ((t : Int) < 3) = true := by simp; omega
          have HG := Lib.hid hg
          clear hg
          go_wp2
          go_loopg [58] 5 (fun g3 v58 wq => ∃ k : Nat, k + g3 = 5 ∧ v58 = .int .i64 k ∧ wr = wq)
          case atStart => exact ⟨0, by omega, rfl, rfl⟩
          case round =>
            obtain ⟨k, hg, rfl, rfl⟩ := hrel
            cases gk with
            | zero =>
              obtain rfl : k = 5 := by omega
              obtain ⟨aL, nL, cL, hL, hnL, _, _, _, _⟩ := V4.v.list V4.x ht3 (show 4 < 5 by decide)
              have hs1 := sumT_le HP5.out (t := t) (by omega)
              have hs2 := sumT_le HP5.out (t := t + 1) (by omega)
              have hsum : sumT p (t + 1) = sumT p t + nL := by rw [← hnL]; rfl
              obtain ⟨S, hS⟩ : ∃ S, sumT p t = S := ⟨_, rfl⟩
              rw [hS] at hs1 hsum ⊢
              rw [hsum] at hs2
              have HSUM := Lib.hid hsum
              clear hnL hg hS hsum
              go_wp2
              go_roundg g2
              case rel => exact ⟨t + 1, by have := HG.out; omega, by go_num, by rw [HSUM.out]; go_num, rfl⟩
              case measure => omega
            | succ g3 =>
              have hk5 : k < 5 := by omega
              have tk : decide ((k : Int) < 5) = true := by simp; omega
              have HK := Lib.hid hg
              clear hg
              by_cases hk4 : k < 4
              · have tk4 : decide ((k : Int) < 4) = true := by simp; omega
                obtain ⟨aL, nL, cL, hL, hnL, _, _, _, _⟩ := V4.v.list V4.x ht3 hk5
                obtain rfl : nL = 0 := by rw [← hnL, (all_lists HP5.out ht3).1 k hk4]; rfl
                clear hnL
                go_wp2
                go_roundg g3
                case rel => exact ⟨k + 1, by have := HK.out; omega, by go_num, rfl⟩
                case measure => omega
              · have tk4 : decide ((k : Int) < 4) = false := by simp; omega
                go_wp2
                go_roundg g3
                case rel => exact ⟨k + 1, by have := HK.out; omega, by go_num, rfl⟩
                case measure => omega
    | succ gg =>
      have him : i < m := by omega
      have tm : decide ((i : Int) < (m : Int)) = true := by simp; omega
      obtain ⟨hb, hhb⟩ := get_some HM.out him
      rw [drop_get hhb] at hP4
      obtain ⟨e, hPg⟩ := hP4.give (i := 0) (b := hb) rfl
      have hPg : PI (putP p hb.1 hb.2, s.2.drop (i + 1)) := hPg
      have HE := Lib.hid (show freeP p hb.1 (hb.2 : Int) = (putP p hb.1 hb.2, 0) from e)
      have HPG := Lib.hid hPg; have HG := Lib.hid hg
      obtain ⟨b9, c', hv, _⟩ := own_pos H4 (by rw [HM.out]; omega)
      injection hv with e1 e2 e3
      subst e1
      obtain ⟨d0, d1⟩ := H4.at hhb
      clear hP4 hPg e hhb hg e2 e3
      go_upto_region 9 with fail
      have b5 := below_box wr (.cells #[.int .i64 hb.1, .int .i64 (hb.2 : Int)] 46)
      have hX := Blk.new wr 46 #[.int .i64 hb.1, .int .i64 (hb.2 : Int)] _ rfl
      obtain ⟨w5, hw5⟩ : ∃ W, W = wr.alloc (.cells #[.int .i64 hb.1, .int .i64 (hb.2 : Int)] 46) := ⟨_, rfl⟩
      rw [← hw5] at b5 hX ⊢
      obtain ⟨gx, hgx⟩ : ∃ g, wr.heap.size = g := ⟨_, rfl⟩
      rw [hgx] at hX ⊢
      have V5 := V4.below b5
      have H5 := HO.later H4 b5
      have x0 := hX.cell 0; have x1 := hX.cell 1
      simp only [List.getElem?_cons_zero, List.getElem?_cons_succ] at x0 x1
      clear hw5 hgx V4 H4 b5 d0 d1
      go_wp2_with ((with_reducible refine ld ?_ V5.x V5.v.len ?_); (focus rfl))
      refine (free_21 _ p hb.1 (hb.2 : Int) w5 V5.rpv).mono ?_
      rw [HE.out]
      rintro e w6 ⟨cs7, rfl, hO, b6⟩
      have hO6 := MixP.weaken hO (show w.heap.size ≤ w5.heap.size from V5.b.size)
      have hz6 := Blk.new w6 26 #[.int .i64 0, .slice none 0 0, .slice none 0 0, .slice none 0 0, .slice none 0 0, .slice none 0 0, .slice none 0 0, .slice none 0 0, .slice none 0 0, .slice none 0 0, .slice none 0 0, .slice none 0 0, .slice none 0 0, .slice none 0 0, .slice none 0 0, .slice none 0 0, .slice none 0 0] zP rfl
      have B7 := below_then b6 (below_box w6 (.cells #[.int .i64 0, .slice none 0 0, .slice none 0 0, .slice none 0 0, .slice none 0 0, .slice none 0 0, .slice none 0 0, .slice none 0 0, .slice none 0 0, .slice none 0 0, .slice none 0 0, .slice none 0 0, .slice none 0 0, .slice none 0 0, .slice none 0 0, .slice none 0 0, .slice none 0 0] 26))
      have hO7 := MixP.later hO6 (below_box w6 (.cells #[.int .i64 0, .slice none 0 0, .slice none 0 0, .slice none 0 0, .slice none 0 0, .slice none 0 0, .slice none 0 0, .slice none 0 0, .slice none 0 0, .slice none 0 0, .slice none 0 0, .slice none 0 0, .slice none 0 0, .slice none 0 0, .slice none 0 0, .slice none 0 0, .slice none 0 0] 26))
      have hlB : w5.heap.size ≤ w6.heap.size := b6.size
      have h17 := (MixP.pv hO7).one
      have hl7 := (MixP.pv hO7).len
      go_upto_region 10 with ((with_reducible refine st26 (cs := cs7) ?_ ?_ hz6 zP_len hl7 h17 ?_); (focus rfl); (focus rfl); intro w8 hB8 hg8)
      have B8 : Below w5.heap.size w5 w8 := B7.grown hg8 B7.size (fun k hk => by cases hk; exact hlB)
      have hO8 := OwnP.grown hO7 hz6 hg8
      obtain ⟨gB, hgB⟩ : ∃ g, w6.heap.size = g := ⟨_, rfl⟩
      rw [hgB] at hB8 ⊢
      have V8 := V5.below B8
      have H8 := HO.later H5 B8
      have h18 := (MixP.pv hO8).one
      have hl8 := (MixP.pv hO8).len
      clear hgB hO hO6 hz6 B7 hO7 hlB h17 hl7 hg8 b6 V5 H5 B8 x0 x1 hX
      go_upto_region 13 with first | ((with_reducible refine ld ?_ hB8 hl8 ?_); (focus rfl)) | ((with_reducible refine st26 (cs := cs7) ?_ ?_ V8.x V8.v.len hl8 h18 ?_); (focus rfl); (focus rfl); intro w9 hB9 hg9)
      have V9 := VP.renew V8 hO8 hB9 hg9
      have H9 := H8.far V8.x (by decide) hg9
      clear V8 H8 hO8 hB8 hB9 hg9 h18 hl8
      go_wp2
      go_roundg gg
      case rel => exact ⟨i + 1, _, cs7, by have := HG.out; omega, by go_num, V9, H9, HPG.out⟩
      case measure => omega
end Go.Proofs.YtkiiifmofmbniaaDoor
