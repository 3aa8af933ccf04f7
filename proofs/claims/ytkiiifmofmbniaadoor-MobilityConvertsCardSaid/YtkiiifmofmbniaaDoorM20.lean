/- Walks: a play (under way). -/
import Derived.Test.YtkiiifmofmbniaaDoorM19
namespace Go.Proofs.YtkiiifmofmbniaaDoor
open Go.RowKit Go.Over Go.Mob Go.Can Go.Seg Go.Grow
theorem sl_three (w : World) (x y z : Int) : Sl (w.alloc (.cells #[.int .i64 x, .int .i64 y, .int .i64 z] 3)) (.slice (some ⟨w.heap.size, 0, none⟩) 3 3) [x, y, z] := by
  have hb := Blk.new w 3 #[.int .i64 x, .int .i64 y, .int .i64 z] [.int .i64 x, .int .i64 y, .int .i64 z] rfl
  refine ⟨_, 3, rfl, Nat.le_refl _, by unfold maxLen; decide, fun h => (by cases h), fun _ => ⟨_, 0, rfl, fun i hi => ?_⟩⟩
  rw [Nat.zero_add, hb.cell]
  rcases (show i = 0 ∨ i = 1 ∨ i = 2 by simp at hi; omega) with rfl | rfl | rfl <;> rfl
/-- What a play gives. -/
def PlayAns (w : World) (s : P × List Hd) (e : Ending) (w' : World) : Prop :=
  ∃ cs a c, e = .returned (.tuple #[.agg cs.toArray, .slice a s.2.length c, .bool true]) ∧ OwnP w' w.heap.size cs s.1 ∧ HO w' w.heap.size (.slice a s.2.length c) s.2 ∧ Below w.heap.size w w'
section
variable {ops : Array Oper} {rest : List Oper} {i d : Nat} {ty : TypeId} {pos : String} {af : Array Edge} {a : Act} {S : World → Prop} {Q : Act → Prop} {g : Nat} {cs : List Value}
/-- Page blocks are loaded whole, in a quiet piece. -/
theorem ldq (hx : a.eval (.tmp i) = .pointer (some ⟨g, 0, none⟩)) (hB : ∀ w, S w → Blk w g 26 cs) (hl : cs.length = 17) (h : wpQuiet Tryd.prog ops S Q rest (a.put (some d) (.agg cs.toArray))) :
    wpQuiet Tryd.prog ops S Q ({ dst := some d, op := .load 26 (.tmp i), type := ty, pos := pos, after := af, guard := none } :: rest) a := by
  refine BigFrame.wpQuiet_want rfl fun K hK => ⟨_, fun w hS => ?_, hK _ h⟩
  unfold Oper.quietAt execOp
  simp only [hx, Instr.loadAt, Instr.sureAddr, Sem.run_bind, Sem.run_pure, Result.andThen_ok, run_loadVar_row w g 26 26 cs.toArray (0, 0) _ (hB w hS) Tryd.underlying26 rfl (by rw [info26]; simp [hl])]
  exact ⟨rfl, rfl⟩
end
theorem K41 : Kind Tryd.prog 41 46 2 16 := Kind.mk' Tryd.underlying41 (z := .agg #[.int .i64 0, .int .i64 0]) (by kernel_rfl) rfl (by decide) (by decide)
theorem hds_one {l : List Hd} : ∀ u ∈ hds l, u.oneCell' = true := by
  intro u hu
  simp only [hds, List.mem_flatMap] at hu
  obtain ⟨h, _, hu⟩ := hu
  simp at hu
  rcases hu with rfl | rfl <;> rfl
/-- The cells of the held blocks. -/
theorem HO.at {w : World} {B b : Nat} {l : List Hd} {n c i : Nat} {h : Hd} (hO : HO w B (.slice (some ⟨b, 0, none⟩) n c) l) (hi : l[i]? = some h) : w.cell? ⟨b, i * 2, none⟩ = some (.int .i64 h.1) ∧ w.cell? ⟨b, i * 2 + 1, none⟩ = some (.int .i64 (h.2 : Int)) := by
  obtain ⟨g1, g2⟩ := hds_get hi
  have e1 := World.ownsRow.cells (g := b) hO rfl _ _ g1
  have e2 := World.ownsRow.cells (g := b) hO rfl _ _ g2
  rw [add_row, Nat.zero_add] at e1 e2
  exact ⟨e1, e2⟩
theorem HO.part {w : World} {B b n c c' o m : Nat} {l pre mid post : List Hd} (hO : HO w B (.slice (some ⟨b, 0, none⟩) n c) l) (hl : l = pre ++ mid ++ post) (ho : o = pre.length * 2) (hm : mid.length = m) : Grow.Src w 2 (some ⟨b, o, none⟩) m c' (hds mid) := by
  refine ⟨by rw [hds_len, hm], hds_one, .inr ⟨_, rfl, fun k u hk => ?_⟩⟩
  have h1 : (hds l)[o + k]? = some u := by
    have hlt : k < (hds mid).length := by rw [List.getElem?_eq_some_iff] at hk; exact hk.1
    rw [hl, hds_append, hds_append, List.getElem?_append_left (by rw [List.length_append, hds_len pre]; omega), List.getElem?_append_right (by rw [hds_len]; omega), hds_len, ← hk]
    congr 1
    omega
  have := World.ownsRow.cells (g := b) hO rfl _ _ h1
  rw [add_row, Nat.zero_add] at this
  rw [add_row]
  exact this
theorem src_nil2 {w : World} {ad : Addr} {c : Nat} : Grow.Src w 2 (some ad) 0 c (hds []) := ⟨rfl, hds_one, .inr ⟨_, rfl, fun k u hk => by simp [hds] at hk⟩⟩
theorem src_new2 (w : World) (f k : Int) : Grow.Src (w.alloc (.cells #[.int .i64 f, .int .i64 k] 46)) 2 (some ⟨w.heap.size, 0, none⟩) 1 1 [.int .i64 f, .int .i64 k] := src_new w #[.int .i64 f, .int .i64 k] 46 2 1 1 rfl (by simp [Value.oneCell'])
theorem HO.none {w : World} {B n c : Nat} {l : List Hd} (hO : HO w B (.slice none n c) l) : l = [] := by
  rcases hO.2 with ⟨_, h⟩ | ⟨g, cap, cur, h, _⟩
  · exact List.eq_nil_of_length_eq_zero h
  · cases h
set_option maxRecDepth 100000 in set_option maxHeartbeats 3200000 in
theorem play_23 (x y z : Nat) (a : Option Addr) (l : List Stp) (n c : Nat) (w : World) (hx : x < 256) (hy : y < 256) (hz : z < 256) (HO0 : Ops w a l) (hn : l.length = n) (hm : n ≤ 1000) (hFB : FB w) (s : P × List Hd)
    (hS : ∃ q, newP 32 [((x % 3 : Nat) : Int), ((y % 3 : Nat) : Int), ((z % 3 : Nat) : Int)] = (q, 0) ∧ playP (q, []) l = some s) :
    Calls Tryd.prog 23 #[.agg #[.int .u8 x, .int .u8 y, .int .u8 z], .slice a n c] w (PlayAns w s) := by
  obtain ⟨q, hq, hP⟩ := hS
  have hP0 := PI.start (Nat.mod_lt x (show 0 < 3 by decide)) (Nat.mod_lt y (show 0 < 3 by decide)) (Nat.mod_lt z (show 0 < 3 by decide))
  obtain ⟨q', hq', hPI⟩ := hP0
  rw [hq] at hq'
  cases hq'
  have HP := Lib.hid hP; have HPI := Lib.hid hPI; have HQ := Lib.hid hq; have HN := Lib.hid hn
  clear hP hPI hq hn
  obtain ⟨wa, hwa⟩ : ∃ W, W = (w.alloc (.cells #[.int .u8 x, .int .u8 y, .int .u8 z] 38)).alloc (.cells #[.int .i64 0, .slice none 0 0, .slice none 0 0, .slice none 0 0, .slice none 0 0, .slice none 0 0, .slice none 0 0, .slice none 0 0, .slice none 0 0, .slice none 0 0, .slice none 0 0, .slice none 0 0, .slice none 0 0, .slice none 0 0, .slice none 0 0, .slice none 0 0, .slice none 0 0] 26) := ⟨_, rfl⟩
  have hsz : (w.alloc (.cells #[.int .u8 x, .int .u8 y, .int .u8 z] 38)).heap.size = w.heap.size + 1 := by simp
  have hba : Below w.heap.size w wa := by rw [hwa]; exact below_then (below_box _ _) (below_box _ _)
  have hZa : Blk wa (w.heap.size + 1) 26 zP := by
    have := Blk.new (w.alloc (.cells #[.int .u8 x, .int .u8 y, .int .u8 z] 38)) 26 #[.int .i64 0, .slice none 0 0, .slice none 0 0, .slice none 0 0, .slice none 0 0, .slice none 0 0, .slice none 0 0, .slice none 0 0, .slice none 0 0, .slice none 0 0, .slice none 0 0, .slice none 0 0, .slice none 0 0, .slice none 0 0, .slice none 0 0, .slice none 0 0, .slice none 0 0] zP rfl
    rw [hsz] at this
    rw [hwa]; exact this
  have hsa : wa.heap.size = w.heap.size + 1 + 1 := by rw [hwa]; simp
  have hs3 := sl_three wa ((x : Int) % 3) ((y : Int) % 3) ((z : Int) % 3)
  have hb3 := below_box wa (.cells #[.int .i64 ((x : Int) % 3), .int .i64 ((y : Int) % 3), .int .i64 ((z : Int) % 3)] 3)
  go_enter Tryd.func23, Tryd.ntmps23
  go_wp2_with fail
  rw [← hwa]
  rw [hsa] at hs3
  obtain ⟨w1, hw1⟩ : ∃ W, W = wa.alloc (.cells #[.int .i64 ((x : Int) % 3), .int .i64 ((y : Int) % 3), .int .i64 ((z : Int) % 3)] 3) := ⟨_, rfl⟩
  rw [← hw1] at hs3 hb3 ⊢
  have hB1 := below_then hba hb3
  have hZ1 := hZa.later hb3
  obtain ⟨gr, hgr⟩ : ∃ g, w.heap.size + 1 = g := ⟨_, rfl⟩
  rw [hgr] at hZ1 hs3 ⊢
  have hlr : w.heap.size ≤ gr := by omega
  clear hw1 hba hZa hsa hwa hsz hb3 hgr
  refine (new_16 32 _ [(x : Int) % 3, (y : Int) % 3, (z : Int) % 3] w1 hs3 (by simp)).mono ?_
  have hqq : newP 32 [(x : Int) % 3, (y : Int) % 3, (z : Int) % 3] = (q, 0) := HQ.out
  rw [hqq]
  clear hqq HQ
  rintro e w2 ⟨cs1, rfl, hO, b2⟩
  have hB2 := below_then hB1 b2
  have hO2 := MixP.weaken hO hB1.size
  have hz2 := Blk.new w2 26 #[.int .i64 0, .slice none 0 0, .slice none 0 0, .slice none 0 0, .slice none 0 0, .slice none 0 0, .slice none 0 0, .slice none 0 0, .slice none 0 0, .slice none 0 0, .slice none 0 0, .slice none 0 0, .slice none 0 0, .slice none 0 0, .slice none 0 0, .slice none 0 0, .slice none 0 0] zP rfl
  have hZ2 := (hZ1.later b2).later (below_box w2 (.cells #[.int .i64 0, .slice none 0 0, .slice none 0 0, .slice none 0 0, .slice none 0 0, .slice none 0 0, .slice none 0 0, .slice none 0 0, .slice none 0 0, .slice none 0 0, .slice none 0 0, .slice none 0 0, .slice none 0 0, .slice none 0 0, .slice none 0 0, .slice none 0 0, .slice none 0 0] 26))
  have h1c := (MixP.pv hO2).one
  have hlen := (MixP.pv hO2).len
  have hne : gr ≠ w2.heap.size := by have := (hZ1.later b2).lt; omega
  go_upto_region 2 with ((with_reducible refine st26 (cs := cs1) ?_ ?_ hz2 zP_len hlen h1c ?_); (focus rfl); (focus rfl); intro w3 hB3 hg3)
  have V3 := VP.new hO2 hB2 hz2 hB3 hg3
  have Z3 := hZ2.grown hg3 (by simpa using Ne.symm hne)
  obtain ⟨g, hg⟩ : ∃ g, w2.heap.size = g := ⟨_, rfl⟩
  rw [hg] at V3 hne ⊢
  clear hg hB3 hg3 hZ2 hz2 h1c hlen hO2 hB2 hO b2 hZ1 hB1 hs3
  have H3 := HO.nil w3 w.heap.size
  have hP3 := HP.out
  have hPI3 := HPI.out
  go_wp2
  go_loopg [9, 41] n (fun gg v9 v41 wr => ∃ (i : Nat) (st : P × List Hd) (cs : List Value) (a9 : Option Addr) (m9 c9 : Nat), i + gg = n ∧ v41 = .int .i64 i ∧ v9 = .slice a9 m9 c9 ∧ st.2.length = m9 ∧ VP w g cs st.1 wr ∧ HO wr w.heap.size (.slice a9 m9 c9) st.2 ∧ Blk wr gr 26 zP ∧ playP st (l.drop i) = some s ∧ PI st ∧ m9 ≤ i)
  case atStart => exact ⟨0, (q, []), _, none, 0, 0, by omega, rfl, rfl, rfl, V3, H3, Z3, by rw [List.drop_zero]; exact hP3, hPI3, Nat.le_refl _⟩
  case round =>
    clear V3 H3 Z3 hP3 hPI3 HP HPI
    obtain ⟨i, st, cs, a9, m9, c9, hg, rfl, rfl, hm9, V4, H4, Z4, hP4, hPI4, hle4⟩ := hrel
    cases gk with
    | zero =>
      have hin : ¬ i < n := by omega
      have HE := Lib.hid (show st = s by
        rw [List.drop_eq_nil_of_le (by have := HN.out; omega)] at hP4
        exact Option.some.inj hP4)
      have HM := Lib.hid hm9
      clear hg hP4 hPI4 hm9
      have h1c := V4.v.one
      go_wp2_with first | ((with_reducible refine ld ?_ V4.x V4.v.len ?_); (focus rfl)) | ((with_reducible refine st26 (cs := cs) ?_ ?_ Z4 zP_len V4.v.len h1c ?_); (focus rfl); (focus rfl); intro w6 hB6 hg6)
      refine bodyPost_ret (results_p2 rfl _ _ gr cs _ _ rfl hB6 V4.v.len rfl rfl) rfl ?_
      obtain rfl := HE.out
      obtain rfl := HM.out
      exact ⟨cs, a9, c9, rfl, OwnP.grown V4.o Z4 hg6, H4.far Z4 (by decide) hg6, V4.b.grown hg6 V4.b.size (fun k hk => by cases hk; exact hlr)⟩
    | succ gg =>
      have hin : i < n := by omega
      have tn : decide ((i : Int) < (n : Int)) = true := by simp; omega
      obtain ⟨xx, hxx⟩ := get_some HN.out hin
      obtain ⟨b, off, ha, hc⟩ := HO0.below V4.b (by have := HN.out; omega)
      subst ha
      obtain ⟨c0, c1, c2, c3, k1, k2, k3⟩ := hc i xx hxx
      rw [drop_get hxx] at hP4
      obtain ⟨st', hst, hPI5, hle5⟩ := step_ok hPI4 xx
      have hP5 : playP st' (l.drop (i + 1)) = some s := by
        unfold playP at hP4
        rw [hst] at hP4
        exact hP4
      have HG := Lib.hid hg; have HST := Lib.hid hst; have HPI5 := Lib.hid hPI5; have HP5 := Lib.hid hP5; have HM := Lib.hid hm9; have HPI4 := Lib.hid hPI4
      have HLE := Lib.hid (show st'.2.length ≤ i + 1 by omega)
      clear hg hst hPI5 hP5 hP4 hxx hc hm9 hle5 hPI4
      obtain ⟨give, order, kind, pick⟩ := xx
      simp only at c0 c1 c2 c3 k1 k2 k3
      go_upto_region 8 with fail
      have b5 := below_box wr (.cells #[.bool give, .int .u8 order, .int .u8 kind, .int .u8 pick] 72)
      have hX := Blk.new wr 72 #[.bool give, .int .u8 order, .int .u8 kind, .int .u8 pick] _ rfl
      obtain ⟨w5, hw5⟩ : ∃ W, W = wr.alloc (.cells #[.bool give, .int .u8 order, .int .u8 kind, .int .u8 pick] 72) := ⟨_, rfl⟩
      rw [← hw5] at b5 hX ⊢
      obtain ⟨gx, hgx⟩ : ∃ g, wr.heap.size = g := ⟨_, rfl⟩
      rw [hgx] at hX ⊢
      have V5 := V4.below b5
      have H5 := HO.later H4 b5
      have Z5 := Z4.later b5
      have x0 := hX.cell 0; have x1 := hX.cell 1; have x2 := hX.cell 2; have x3 := hX.cell 3
      simp only [List.getElem?_cons_zero, List.getElem?_cons_succ] at x0 x1 x2 x3
      clear hw5 hgx V4 H4 Z4 b5 c0 c1 c2 c3
      cases give with
      | true =>
        by_cases h0 : m9 = 0
        · have HS := Lib.hid (show st' = st by
            have := HST.out
            unfold stepP at this
            rw [if_pos rfl, if_pos (by rw [HM.out]; exact h0)] at this
            exact (Option.some.inj this).symm)
          have t0 : ((m9 : Int) == 0) = true := by subst h0; rfl
          go_wp2_with fail
          go_roundg gg
          case rel => exact ⟨i + 1, st, cs, a9, m9, c9, by have := HG.out; omega, by go_num, rfl, HM.out, V5, H5, Z5, by rw [← HS.out]; exact HP5.out, by rw [← HS.out]; exact HPI5.out, by omega⟩
          case measure => omega
        · have ha9 : ∃ b9, a9 = some ⟨b9, 0, none⟩ := by
            obtain ⟨g', c', hv, _⟩ := own_pos H5 (by rw [HM.out]; omega)
            injection hv with h1 h2 h3
            exact ⟨g', h1⟩
          obtain ⟨b9, rfl⟩ := ha9
          obtain ⟨j, hj⟩ : ∃ j, pick % m9 = j := ⟨_, rfl⟩
          have hjm : j < m9 := by rw [← hj]; exact Nat.mod_lt _ (by omega)
          have hmod : (pick : Int) % (m9 : Int) = (j : Int) := by rw [← hj]; omega
          obtain ⟨hb, hhb⟩ := get_some HM.out hjm
          obtain ⟨e, hPg⟩ := HPI4.out.give hhb
          have HS := Lib.hid (show st' = (putP st.1 hb.1 hb.2, st.2.eraseIdx j) by
            have hbd : st.2.getD j (0, 0) = hb := by rw [List.getD_eq_getElem?_getD, hhb]; rfl
            have := HST.out
            unfold stepP at this
            rw [if_pos rfl, if_neg (by rw [HM.out]; exact h0), HM.out] at this
            simp only [hj, hbd, e] at this
            rw [if_neg (by simp)] at this
            exact (Option.some.inj this).symm)
          obtain ⟨d0, d1⟩ := H5.at hhb
          have HE := Lib.hid e; have HB := Lib.hid hhb
          clear e hPg hhb hj HST
          have t0 : ((m9 : Int) == 0) = false := by simp; omega
          go_wp2_with fail
          refine wp_region_plan (fun U => Below w5.heap.size w5 U) (.quiet [0, 1, 2, 3, 4, 5, 6, 7, 8, 9, 10] (.fork 11 (.quiet [12, 13, 14] (.only 15 (.only 16 (.quiet [17] .done)))) 15 (.only 11 (.quiet [12, 13, 14] (.only 16 (.quiet [17] .done)))))) 99 (by kernel_rfl) (by kernel_rfl) (Below.refl _ _).drew ?_
          intro W hW hWe
          clear hWe
          simp only [wpPlan, inOrder, List.filterMap_cons, List.filterMap_nil, List.getElem?_cons_zero, List.getElem?_cons_succ]
          have y0 := fun z => cell_later (hold_ok (S0 := fun U => Below w5.heap.size w5 U) hW z) d0
          have y1 := fun z => cell_later (hold_ok (S0 := fun U => Below w5.heap.size w5 U) hW z) d1
          show wpQuiet _ _ _ _ (_ :: _ :: _ :: _ :: _ :: _ :: _ :: _ :: _ :: _ :: [_]) _
          refine ldq rfl (fun U ⟨z, hz⟩ => by rw [hz]; exact V5.x.later (hold_ok (S0 := fun U => Below w5.heap.size w5 U) hW z)) V5.v.len ?_
          simp only [Act.put, List.setIfInBounds_toArray, List.set_cons_succ, List.set_cons_zero]
          repeat (go_big_quiet_step (fail))
          refine wpQuiet_nil ?_
          clear y0 y1
          have hsW := hW.size
          refine ⟨?_, ?_⟩
          · show wpList _ _ _ [_] _ _
            go_wp2_with fail
            refine (free_21 _ st.1 hb.1 (hb.2 : Int) W (V5.below hW).rpv).mono ?_
            rw [HE.out]
            rintro e w6 ⟨cs7, rfl, hO, b6⟩
            have B6 := below_then hW b6
            have hO6 := MixP.weaken hO (show w.heap.size ≤ W.heap.size by have := V5.b.size; omega)
            go_wp2
            refine ⟨hold_of B6, ?_⟩
            show wpQuiet _ _ _ _ (_ :: _ :: [_]) _
            repeat (go_big_quiet_step (fail))
            refine wpQuiet_nil ?_
            show wpList _ _ _ [_] _ _
            go_wp2
            have hz6 := Blk.new w6 26 #[.int .i64 0, .slice none 0 0, .slice none 0 0, .slice none 0 0, .slice none 0 0, .slice none 0 0, .slice none 0 0, .slice none 0 0, .slice none 0 0, .slice none 0 0, .slice none 0 0, .slice none 0 0, .slice none 0 0, .slice none 0 0, .slice none 0 0, .slice none 0 0, .slice none 0 0] zP rfl
            have B7 := below_then B6 (below_box w6 (.cells #[.int .i64 0, .slice none 0 0, .slice none 0 0, .slice none 0 0, .slice none 0 0, .slice none 0 0, .slice none 0 0, .slice none 0 0, .slice none 0 0, .slice none 0 0, .slice none 0 0, .slice none 0 0, .slice none 0 0, .slice none 0 0, .slice none 0 0, .slice none 0 0, .slice none 0 0] 26))
            have hO7 := MixP.later hO6 (below_box w6 (.cells #[.int .i64 0, .slice none 0 0, .slice none 0 0, .slice none 0 0, .slice none 0 0, .slice none 0 0, .slice none 0 0, .slice none 0 0, .slice none 0 0, .slice none 0 0, .slice none 0 0, .slice none 0 0, .slice none 0 0, .slice none 0 0, .slice none 0 0, .slice none 0 0, .slice none 0 0] 26))
            have hlB : w5.heap.size ≤ w6.heap.size := B6.size
            refine ⟨hold_of B7, ?_⟩
            obtain ⟨gB, hgB⟩ : ∃ g, w6.heap.size = g := ⟨_, rfl⟩
            obtain ⟨w7, hw7⟩ : ∃ W, W = w6.alloc (.cells #[.int .i64 0, .slice none 0 0, .slice none 0 0, .slice none 0 0, .slice none 0 0, .slice none 0 0, .slice none 0 0, .slice none 0 0, .slice none 0 0, .slice none 0 0, .slice none 0 0, .slice none 0 0, .slice none 0 0, .slice none 0 0, .slice none 0 0, .slice none 0 0, .slice none 0 0] 26) := ⟨_, rfl⟩
            rw [← hw7] at hz6 B7 hO7 ⊢
            rw [hgB] at hz6 hlB ⊢
            clear hw7 hgB hO hO6 b6 B6
            have h17 := (MixP.pv hO7).one
            have hl7 := (MixP.pv hO7).len
            show wpList _ _ _ [_] _ _
            go_wp2_with ((with_reducible refine st26 (cs := cs7) ?_ ?_ hz6 zP_len hl7 h17 ?_); (focus rfl); (focus rfl); intro w8 hB8 hg8)
            have B8 : Below w5.heap.size w5 w8 := B7.grown hg8 B7.size (fun k hk => by cases hk; exact hlB)
            refine ⟨hold_of B8, ?_⟩
            show wpQuiet _ _ _ _ [_] _
            simp only [Act.put]
            repeat (go_big_quiet_step (fail))
            refine wpQuiet_nil ?_
            refine NoPanic.normal ?_
            have hO8 := OwnP.grown hO7 hz6 hg8
            have V8 := V5.below B8
            have H8 := HO.later H5 B8
            have Z8 := Z5.later B8
            have d08 := cell_later B8 d0
            have d18 := cell_later B8 d1
            clear B7 hO7 hz6 hlB hg8 B8 V5 H5 Z5 hW d0 d1 x0 x1 x2 x3 hX hsW
            have h18 := (MixP.pv hO8).one
            have hl8 := (MixP.pv hO8).len
            go_upto_region 15 with first | ((with_reducible refine ld ?_ hB8 hl8 ?_); (focus rfl)) | ((with_reducible refine st26 (cs := cs7) ?_ ?_ V8.x V8.v.len hl8 h18 ?_); (focus rfl); (focus rfl); intro w9 hB9 hg9)
            have V9 := VP.renew V8 hO8 hB9 hg9
            have H9 := H8.far V8.x (by decide) hg9
            have Z9 := Z8.grown hg9 (by simpa using Ne.symm hne)
            clear V8 H8 Z8 hO8 hB8 hB9 hg9 h18 hl8 d08 d18
            have hmc : m9 ≤ c9 := by
              obtain ⟨a', c', hv, h1, _⟩ := own_form H9
              injection hv with q1 q2 q3
              omega
            have hcx : c9 ≤ 9223372036854775807 := by
              obtain ⟨a', c', hv, _, h1, _⟩ := own_form H9
              injection hv with q1 q2 q3
              unfold maxLen at h1
              omega
            have hm0 : 0 < m9 := by omega
            have eAll : st.2 = [] ++ st.2.take j ++ st.2.drop j := by rw [List.nil_append, List.take_append_drop]
            have eTwo : st.2 = st.2.take (j + 1) ++ st.2.drop (j + 1) ++ [] := by rw [List.append_nil, List.take_append_drop]
            have HL1 := Lib.hid (show (st.2.take j).length = j by rw [List.length_take, HM.out]; omega)
            have HL2 := Lib.hid (show (st.2.drop (j + 1)).length = m9 - (j + 1) by rw [List.length_drop, HM.out])
            have HL3 := Lib.hid (show (st.2.take (j + 1)).length = j + 1 by rw [List.length_take, HM.out]; omega)
            have HA := Lib.hid eAll; have HT := Lib.hid eTwo
            clear eAll eTwo
            by_cases hcj : c9 = j + 1
            · have hmj : m9 = j + 1 := by omega
              subst hcj
              have HNIL := Lib.hid (show st.2.drop (j + 1) = [] from List.eq_nil_of_length_eq_zero (by rw [HL2.out]; omega))
              have hsrc2 : ∀ U : World, HO U w.heap.size (.slice (some ⟨b9, 0, none⟩) m9 (j + 1)) st.2 → Grow.Src U 2 (some ⟨b9, 0, none⟩) 0 0 (hds (st.2.drop (j + 1))) := fun U hU => by
                rw [HNIL.out]; exact src_nil2
              have HS2 := Lib.hid hsrc2
              clear hsrc2
              refine wp_region_plan (fun _ => True) (.quiet [1, 2, 3, 5, 6, 7, 8] (.only 0 (.only 4 (.only 9 (.quiet [10] .done))))) 99 (by kernel_rfl) (by kernel_rfl) trivial ?_
              intro U _ hWe
              have bU : Below w9.heap.size w9 U := by rw [hWe]; exact (Below.refl _ _).drew
              clear hWe
              simp only [wpPlan, inOrder, List.filterMap_cons, List.filterMap_nil, List.getElem?_cons_zero, List.getElem?_cons_succ]
              simp only [Act.put, List.setIfInBounds_toArray, List.set_cons_succ, List.set_cons_zero]
              show wpQuiet _ _ _ _ (_ :: _ :: _ :: _ :: _ :: _ :: [_]) _
              repeat (go_big_quiet_step (fail))
              refine wpQuiet_nil ?_
              show wpList _ _ _ [_] _ _
              go_wp2
              refine ⟨hold_of (S0 := fun _ => True) trivial, ?_⟩
              have bA := below_then bU (below_box U (.cells #[] 46))
              have hmade : (U.alloc (.cells #[] 46)).ownsRow U.heap.size 46 2 (.slice (some ⟨U.heap.size, 0, none⟩) 0 0) 0 [] := World.ownsRow_made U #[] 0 (Nat.le_refl _) (Nat.zero_le _) rfl
              have hlU : w.heap.size ≤ U.heap.size := by have := V9.b.size; have := bU.size; omega
              have HA1 := Lib.hid (HO.part (c' := (j + 1)) (HO.later H9 bA) HA.out rfl HL1.out)
              refine wpList_append_k K41 rfl (.tmp 75) (.tmp 78) rfl _ 0 [] rfl hmade _ j (j + 1) _ rfl HA1.out ?c1 ?c2 ?_
              case c1 => omega
              case c2 => simp
              intro v1 wB ho1 hg1 hk1
              have bB : Below U.heap.size U wB := (below_box U _).grown hg1 (by simp) (fun k hk => Nat.le_of_eq (Option.some.inj hk))
              simp only [Nat.zero_add, List.nil_append] at ho1
              have bB9 := below_then bU bB
              refine wpList_nil ⟨hold_of (S0 := fun _ => True) trivial, ?_⟩
              have HS3 := Lib.hid (HS2.out wB (HO.later H9 bB9))
              refine wpList_append_k K41 rfl (.tmp 79) (.tmp 83) rfl _ j _ rfl ho1 _ 0 0 _ rfl HS3.out ?c1 ?c2 ?_
              case c1 => omega
              case c2 => have := bB.size; omega
              intro v2 wC ho2 hg2 hk2
              have bC : Below U.heap.size U wC := bB.grown hg2 bB.size (fun k hk => (World.ownsRow.lt ho1 k hk).1)
              have bC9 := below_then bU bC
              refine wpList_nil ⟨hold_of (S0 := fun _ => True) trivial, ?_⟩
              simp only [Act.put, List.setIfInBounds_toArray, List.set_cons_succ, List.set_cons_zero]
              show wpQuiet _ _ _ _ [_] _
              repeat (go_big_quiet_step (fail))
              refine wpQuiet_nil ?_
              refine NoPanic.normal ?_
              obtain ⟨a10, c10, rfl, _, _, _⟩ := own_form ho2
              have hLen : st'.2.length = j + 0 := by rw [HS.out, List.length_eraseIdx, HM.out, if_pos hjm]; omega
              have H10 : HO wC w.heap.size (.slice a10 (j + 0) c10) st'.2 := by
                unfold HO
                rw [hLen]
                have e1 : hds st'.2 = hds (st.2.take j) ++ hds (st.2.drop (j + 1)) := by rw [HS.out, ← hds_append, ← List.eraseIdx_eq_take_drop_succ]
                rw [e1]
                exact own_weaken ho2 hlU
              have V10 := V9.below bC9
              have Z10 := Z9.later bC9
              have HLEN := Lib.hid hLen
              clear V9 H9 Z9 bC9 bC bB9 bB bA bU hmade hlU ho1 ho2 hg1 hg2 hk1 hk2 hLen
              go_wp2
              go_roundg gg
              case rel => exact ⟨i + 1, st', cs7, a10, j + 0, c10, by have := HG.out; omega, by go_num, rfl, HLEN.out, by rw [HS.out]; exact V10, H10, Z10, HP5.out, HPI5.out, by omega⟩
              case measure => omega
            · have hsrc2 : ∀ U : World, HO U w.heap.size (.slice (some ⟨b9, 0, none⟩) m9 c9) st.2 → Grow.Src U 2 (some ⟨b9, (j + 1) * 2, none⟩) (m9 - (j + 1)) (c9 - (j + 1)) (hds (st.2.drop (j + 1))) := fun U hU =>
                hU.part HT.out (by rw [HL3.out]) HL2.out
              have HS2 := Lib.hid hsrc2
              clear hsrc2
              refine wp_region_plan (fun _ => True) (.quiet [1, 2, 3, 5, 6, 7, 8] (.only 0 (.only 4 (.only 9 (.quiet [10] .done))))) 99 (by kernel_rfl) (by kernel_rfl) trivial ?_
              intro U _ hWe
              have bU : Below w9.heap.size w9 U := by rw [hWe]; exact (Below.refl _ _).drew
              clear hWe
              simp only [wpPlan, inOrder, List.filterMap_cons, List.filterMap_nil, List.getElem?_cons_zero, List.getElem?_cons_succ]
              simp only [Act.put, List.setIfInBounds_toArray, List.set_cons_succ, List.set_cons_zero]
              show wpQuiet _ _ _ _ (_ :: _ :: _ :: _ :: _ :: _ :: [_]) _
              repeat (go_big_quiet_step (fail))
              refine wpQuiet_nil ?_
              show wpList _ _ _ [_] _ _
              go_wp2
              refine ⟨hold_of (S0 := fun _ => True) trivial, ?_⟩
              have bA := below_then bU (below_box U (.cells #[] 46))
              have hmade : (U.alloc (.cells #[] 46)).ownsRow U.heap.size 46 2 (.slice (some ⟨U.heap.size, 0, none⟩) 0 0) 0 [] := World.ownsRow_made U #[] 0 (Nat.le_refl _) (Nat.zero_le _) rfl
              have hlU : w.heap.size ≤ U.heap.size := by have := V9.b.size; have := bU.size; omega
              have HA1 := Lib.hid (HO.part (c' := c9) (HO.later H9 bA) HA.out rfl HL1.out)
              refine wpList_append_k K41 rfl (.tmp 75) (.tmp 78) rfl _ 0 [] rfl hmade _ j c9 _ rfl HA1.out ?c1 ?c2 ?_
              case c1 => omega
              case c2 => simp
              intro v1 wB ho1 hg1 hk1
              have bB : Below U.heap.size U wB := (below_box U _).grown hg1 (by simp) (fun k hk => Nat.le_of_eq (Option.some.inj hk))
              simp only [Nat.zero_add, List.nil_append] at ho1
              have bB9 := below_then bU bB
              refine wpList_nil ⟨hold_of (S0 := fun _ => True) trivial, ?_⟩
              have HS3 := Lib.hid (HS2.out wB (HO.later H9 bB9))
              refine wpList_append_k K41 rfl (.tmp 79) (.tmp 83) rfl _ j _ rfl ho1 _ (m9 - (j + 1)) (c9 - (j + 1)) _ rfl HS3.out ?c1 ?c2 ?_
              case c1 => omega
              case c2 => have := bB.size; omega
              intro v2 wC ho2 hg2 hk2
              have bC : Below U.heap.size U wC := bB.grown hg2 bB.size (fun k hk => (World.ownsRow.lt ho1 k hk).1)
              have bC9 := below_then bU bC
              refine wpList_nil ⟨hold_of (S0 := fun _ => True) trivial, ?_⟩
              simp only [Act.put, List.setIfInBounds_toArray, List.set_cons_succ, List.set_cons_zero]
              show wpQuiet _ _ _ _ [_] _
              repeat (go_big_quiet_step (fail))
              refine wpQuiet_nil ?_
              refine NoPanic.normal ?_
              obtain ⟨a10, c10, rfl, _, _, _⟩ := own_form ho2
              have hLen : st'.2.length = j + (m9 - (j + 1)) := by rw [HS.out, List.length_eraseIdx, HM.out, if_pos hjm]; omega
              have H10 : HO wC w.heap.size (.slice a10 (j + (m9 - (j + 1))) c10) st'.2 := by
                unfold HO
                rw [hLen]
                have e1 : hds st'.2 = hds (st.2.take j) ++ hds (st.2.drop (j + 1)) := by rw [HS.out, ← hds_append, ← List.eraseIdx_eq_take_drop_succ]
                rw [e1]
                exact own_weaken ho2 hlU
              have V10 := V9.below bC9
              have Z10 := Z9.later bC9
              have HLEN := Lib.hid hLen
              clear V9 H9 Z9 bC9 bC bB9 bB bA bU hmade hlU ho1 ho2 hg1 hg2 hk1 hk2 hLen
              go_wp2
              go_roundg gg
              case rel => exact ⟨i + 1, st', cs7, a10, j + (m9 - (j + 1)), c10, by have := HG.out; omega, by go_num, rfl, HLEN.out, by rw [HS.out]; exact V10, H10, Z10, HP5.out, HPI5.out, by omega⟩
              case measure => omega
          · show wpList _ _ _ [_] _ _
            go_wp2
            have hz6 := Blk.new W 26 #[.int .i64 0, .slice none 0 0, .slice none 0 0, .slice none 0 0, .slice none 0 0, .slice none 0 0, .slice none 0 0, .slice none 0 0, .slice none 0 0, .slice none 0 0, .slice none 0 0, .slice none 0 0, .slice none 0 0, .slice none 0 0, .slice none 0 0, .slice none 0 0, .slice none 0 0] zP rfl
            have B6 := below_then hW (below_box W (.cells #[.int .i64 0, .slice none 0 0, .slice none 0 0, .slice none 0 0, .slice none 0 0, .slice none 0 0, .slice none 0 0, .slice none 0 0, .slice none 0 0, .slice none 0 0, .slice none 0 0, .slice none 0 0, .slice none 0 0, .slice none 0 0, .slice none 0 0, .slice none 0 0, .slice none 0 0] 26))
            refine ⟨hold_of B6, ?_⟩
            obtain ⟨gB, hgB⟩ : ∃ g, W.heap.size = g := ⟨_, rfl⟩
            obtain ⟨w6, hw6⟩ : ∃ X, X = W.alloc (.cells #[.int .i64 0, .slice none 0 0, .slice none 0 0, .slice none 0 0, .slice none 0 0, .slice none 0 0, .slice none 0 0, .slice none 0 0, .slice none 0 0, .slice none 0 0, .slice none 0 0, .slice none 0 0, .slice none 0 0, .slice none 0 0, .slice none 0 0, .slice none 0 0, .slice none 0 0] 26) := ⟨_, rfl⟩
            have hlB : w5.heap.size ≤ gB := by omega
            rw [← hw6] at hz6 B6 ⊢
            rw [hgB] at hz6 ⊢
            clear hw6 hgB
            show wpList _ _ _ [_] _ _
            go_wp2_with fail
            refine (free_21 _ st.1 hb.1 (hb.2 : Int) w6 (V5.below B6).rpv).mono ?_
            rw [HE.out]
            rintro e w7 ⟨cs7, rfl, hO, b6⟩
            have B7 := below_then B6 b6
            have hO7 := MixP.weaken hO (show w.heap.size ≤ w6.heap.size by have := V5.b.size; have := B6.size; omega)
            have hz6 := hz6.later b6
            go_wp2
            refine ⟨hold_of B7, ?_⟩
            show wpQuiet _ _ _ _ (_ :: _ :: [_]) _
            repeat (go_big_quiet_step (fail))
            refine wpQuiet_nil ?_
            clear hO b6 B6
            have h17 := (MixP.pv hO7).one
            have hl7 := (MixP.pv hO7).len
            show wpList _ _ _ [_] _ _
            go_wp2_with ((with_reducible refine st26 (cs := cs7) ?_ ?_ hz6 zP_len hl7 h17 ?_); (focus rfl); (focus rfl); intro w8 hB8 hg8)
            have B8 : Below w5.heap.size w5 w8 := B7.grown hg8 B7.size (fun k hk => by cases hk; exact hlB)
            refine ⟨hold_of B8, ?_⟩
            show wpQuiet _ _ _ _ [_] _
            simp only [Act.put]
            repeat (go_big_quiet_step (fail))
            refine wpQuiet_nil ?_
            refine NoPanic.normal ?_
            have hO8 := OwnP.grown hO7 hz6 hg8
            have V8 := V5.below B8
            have H8 := HO.later H5 B8
            have Z8 := Z5.later B8
            have d08 := cell_later B8 d0
            have d18 := cell_later B8 d1
            clear B7 hO7 hz6 hlB hg8 B8 V5 H5 Z5 hW d0 d1 x0 x1 x2 x3 hX hsW
            have h18 := (MixP.pv hO8).one
            have hl8 := (MixP.pv hO8).len
            go_upto_region 15 with first | ((with_reducible refine ld ?_ hB8 hl8 ?_); (focus rfl)) | ((with_reducible refine st26 (cs := cs7) ?_ ?_ V8.x V8.v.len hl8 h18 ?_); (focus rfl); (focus rfl); intro w9 hB9 hg9)
            have V9 := VP.renew V8 hO8 hB9 hg9
            have H9 := H8.far V8.x (by decide) hg9
            have Z9 := Z8.grown hg9 (by simpa using Ne.symm hne)
            clear V8 H8 Z8 hO8 hB8 hB9 hg9 h18 hl8 d08 d18
            have hmc : m9 ≤ c9 := by
              obtain ⟨a', c', hv, h1, _⟩ := own_form H9
              injection hv with q1 q2 q3
              omega
            have hcx : c9 ≤ 9223372036854775807 := by
              obtain ⟨a', c', hv, _, h1, _⟩ := own_form H9
              injection hv with q1 q2 q3
              unfold maxLen at h1
              omega
            have hm0 : 0 < m9 := by omega
            have eAll : st.2 = [] ++ st.2.take j ++ st.2.drop j := by rw [List.nil_append, List.take_append_drop]
            have eTwo : st.2 = st.2.take (j + 1) ++ st.2.drop (j + 1) ++ [] := by rw [List.append_nil, List.take_append_drop]
            have HL1 := Lib.hid (show (st.2.take j).length = j by rw [List.length_take, HM.out]; omega)
            have HL2 := Lib.hid (show (st.2.drop (j + 1)).length = m9 - (j + 1) by rw [List.length_drop, HM.out])
            have HL3 := Lib.hid (show (st.2.take (j + 1)).length = j + 1 by rw [List.length_take, HM.out]; omega)
            have HA := Lib.hid eAll; have HT := Lib.hid eTwo
            clear eAll eTwo
            by_cases hcj : c9 = j + 1
            · have hmj : m9 = j + 1 := by omega
              subst hcj
              have HNIL := Lib.hid (show st.2.drop (j + 1) = [] from List.eq_nil_of_length_eq_zero (by rw [HL2.out]; omega))
              have hsrc2 : ∀ U : World, HO U w.heap.size (.slice (some ⟨b9, 0, none⟩) m9 (j + 1)) st.2 → Grow.Src U 2 (some ⟨b9, 0, none⟩) 0 0 (hds (st.2.drop (j + 1))) := fun U hU => by
                rw [HNIL.out]; exact src_nil2
              have HS2 := Lib.hid hsrc2
              clear hsrc2
              refine wp_region_plan (fun _ => True) (.quiet [1, 2, 3, 5, 6, 7, 8] (.only 0 (.only 4 (.only 9 (.quiet [10] .done))))) 99 (by kernel_rfl) (by kernel_rfl) trivial ?_
              intro U _ hWe
              have bU : Below w9.heap.size w9 U := by rw [hWe]; exact (Below.refl _ _).drew
              clear hWe
              simp only [wpPlan, inOrder, List.filterMap_cons, List.filterMap_nil, List.getElem?_cons_zero, List.getElem?_cons_succ]
              simp only [Act.put, List.setIfInBounds_toArray, List.set_cons_succ, List.set_cons_zero]
              show wpQuiet _ _ _ _ (_ :: _ :: _ :: _ :: _ :: _ :: [_]) _
              repeat (go_big_quiet_step (fail))
              refine wpQuiet_nil ?_
              show wpList _ _ _ [_] _ _
              go_wp2
              refine ⟨hold_of (S0 := fun _ => True) trivial, ?_⟩
              have bA := below_then bU (below_box U (.cells #[] 46))
              have hmade : (U.alloc (.cells #[] 46)).ownsRow U.heap.size 46 2 (.slice (some ⟨U.heap.size, 0, none⟩) 0 0) 0 [] := World.ownsRow_made U #[] 0 (Nat.le_refl _) (Nat.zero_le _) rfl
              have hlU : w.heap.size ≤ U.heap.size := by have := V9.b.size; have := bU.size; omega
              have HA1 := Lib.hid (HO.part (c' := (j + 1)) (HO.later H9 bA) HA.out rfl HL1.out)
              refine wpList_append_k K41 rfl (.tmp 75) (.tmp 78) rfl _ 0 [] rfl hmade _ j (j + 1) _ rfl HA1.out ?c1 ?c2 ?_
              case c1 => omega
              case c2 => simp
              intro v1 wB ho1 hg1 hk1
              have bB : Below U.heap.size U wB := (below_box U _).grown hg1 (by simp) (fun k hk => Nat.le_of_eq (Option.some.inj hk))
              simp only [Nat.zero_add, List.nil_append] at ho1
              have bB9 := below_then bU bB
              refine wpList_nil ⟨hold_of (S0 := fun _ => True) trivial, ?_⟩
              have HS3 := Lib.hid (HS2.out wB (HO.later H9 bB9))
              refine wpList_append_k K41 rfl (.tmp 79) (.tmp 83) rfl _ j _ rfl ho1 _ 0 0 _ rfl HS3.out ?c1 ?c2 ?_
              case c1 => omega
              case c2 => have := bB.size; omega
              intro v2 wC ho2 hg2 hk2
              have bC : Below U.heap.size U wC := bB.grown hg2 bB.size (fun k hk => (World.ownsRow.lt ho1 k hk).1)
              have bC9 := below_then bU bC
              refine wpList_nil ⟨hold_of (S0 := fun _ => True) trivial, ?_⟩
              simp only [Act.put, List.setIfInBounds_toArray, List.set_cons_succ, List.set_cons_zero]
              show wpQuiet _ _ _ _ [_] _
              repeat (go_big_quiet_step (fail))
              refine wpQuiet_nil ?_
              refine NoPanic.normal ?_
              obtain ⟨a10, c10, rfl, _, _, _⟩ := own_form ho2
              have hLen : st'.2.length = j + 0 := by rw [HS.out, List.length_eraseIdx, HM.out, if_pos hjm]; omega
              have H10 : HO wC w.heap.size (.slice a10 (j + 0) c10) st'.2 := by
                unfold HO
                rw [hLen]
                have e1 : hds st'.2 = hds (st.2.take j) ++ hds (st.2.drop (j + 1)) := by rw [HS.out, ← hds_append, ← List.eraseIdx_eq_take_drop_succ]
                rw [e1]
                exact own_weaken ho2 hlU
              have V10 := V9.below bC9
              have Z10 := Z9.later bC9
              have HLEN := Lib.hid hLen
              clear V9 H9 Z9 bC9 bC bB9 bB bA bU hmade hlU ho1 ho2 hg1 hg2 hk1 hk2 hLen
              go_wp2
              go_roundg gg
              case rel => exact ⟨i + 1, st', cs7, a10, j + 0, c10, by have := HG.out; omega, by go_num, rfl, HLEN.out, by rw [HS.out]; exact V10, H10, Z10, HP5.out, HPI5.out, by omega⟩
              case measure => omega
            · have hsrc2 : ∀ U : World, HO U w.heap.size (.slice (some ⟨b9, 0, none⟩) m9 c9) st.2 → Grow.Src U 2 (some ⟨b9, (j + 1) * 2, none⟩) (m9 - (j + 1)) (c9 - (j + 1)) (hds (st.2.drop (j + 1))) := fun U hU =>
                hU.part HT.out (by rw [HL3.out]) HL2.out
              have HS2 := Lib.hid hsrc2
              clear hsrc2
              refine wp_region_plan (fun _ => True) (.quiet [1, 2, 3, 5, 6, 7, 8] (.only 0 (.only 4 (.only 9 (.quiet [10] .done))))) 99 (by kernel_rfl) (by kernel_rfl) trivial ?_
              intro U _ hWe
              have bU : Below w9.heap.size w9 U := by rw [hWe]; exact (Below.refl _ _).drew
              clear hWe
              simp only [wpPlan, inOrder, List.filterMap_cons, List.filterMap_nil, List.getElem?_cons_zero, List.getElem?_cons_succ]
              simp only [Act.put, List.setIfInBounds_toArray, List.set_cons_succ, List.set_cons_zero]
              show wpQuiet _ _ _ _ (_ :: _ :: _ :: _ :: _ :: _ :: [_]) _
              repeat (go_big_quiet_step (fail))
              refine wpQuiet_nil ?_
              show wpList _ _ _ [_] _ _
              go_wp2
              refine ⟨hold_of (S0 := fun _ => True) trivial, ?_⟩
              have bA := below_then bU (below_box U (.cells #[] 46))
              have hmade : (U.alloc (.cells #[] 46)).ownsRow U.heap.size 46 2 (.slice (some ⟨U.heap.size, 0, none⟩) 0 0) 0 [] := World.ownsRow_made U #[] 0 (Nat.le_refl _) (Nat.zero_le _) rfl
              have hlU : w.heap.size ≤ U.heap.size := by have := V9.b.size; have := bU.size; omega
              have HA1 := Lib.hid (HO.part (c' := c9) (HO.later H9 bA) HA.out rfl HL1.out)
              refine wpList_append_k K41 rfl (.tmp 75) (.tmp 78) rfl _ 0 [] rfl hmade _ j c9 _ rfl HA1.out ?c1 ?c2 ?_
              case c1 => omega
              case c2 => simp
              intro v1 wB ho1 hg1 hk1
              have bB : Below U.heap.size U wB := (below_box U _).grown hg1 (by simp) (fun k hk => Nat.le_of_eq (Option.some.inj hk))
              simp only [Nat.zero_add, List.nil_append] at ho1
              have bB9 := below_then bU bB
              refine wpList_nil ⟨hold_of (S0 := fun _ => True) trivial, ?_⟩
              have HS3 := Lib.hid (HS2.out wB (HO.later H9 bB9))
              refine wpList_append_k K41 rfl (.tmp 79) (.tmp 83) rfl _ j _ rfl ho1 _ (m9 - (j + 1)) (c9 - (j + 1)) _ rfl HS3.out ?c1 ?c2 ?_
              case c1 => omega
              case c2 => have := bB.size; omega
              intro v2 wC ho2 hg2 hk2
              have bC : Below U.heap.size U wC := bB.grown hg2 bB.size (fun k hk => (World.ownsRow.lt ho1 k hk).1)
              have bC9 := below_then bU bC
              refine wpList_nil ⟨hold_of (S0 := fun _ => True) trivial, ?_⟩
              simp only [Act.put, List.setIfInBounds_toArray, List.set_cons_succ, List.set_cons_zero]
              show wpQuiet _ _ _ _ [_] _
              repeat (go_big_quiet_step (fail))
              refine wpQuiet_nil ?_
              refine NoPanic.normal ?_
              obtain ⟨a10, c10, rfl, _, _, _⟩ := own_form ho2
              have hLen : st'.2.length = j + (m9 - (j + 1)) := by rw [HS.out, List.length_eraseIdx, HM.out, if_pos hjm]; omega
              have H10 : HO wC w.heap.size (.slice a10 (j + (m9 - (j + 1))) c10) st'.2 := by
                unfold HO
                rw [hLen]
                have e1 : hds st'.2 = hds (st.2.take j) ++ hds (st.2.drop (j + 1)) := by rw [HS.out, ← hds_append, ← List.eraseIdx_eq_take_drop_succ]
                rw [e1]
                exact own_weaken ho2 hlU
              have V10 := V9.below bC9
              have Z10 := Z9.later bC9
              have HLEN := Lib.hid hLen
              clear V9 H9 Z9 bC9 bC bB9 bB bA bU hmade hlU ho1 ho2 hg1 hg2 hk1 hk2 hLen
              go_wp2
              go_roundg gg
              case rel => exact ⟨i + 1, st', cs7, a10, j + (m9 - (j + 1)), c10, by have := HG.out; omega, by go_num, rfl, HLEN.out, by rw [HS.out]; exact V10, H10, Z10, HP5.out, HPI5.out, by omega⟩
              case measure => omega
      | false =>
        have hk5 := Nat.mod_lt order (show 0 < 5 by decide)
        have ht3 := Nat.mod_lt kind (show 0 < 3 by decide)
        have HSTEP := HST.out
        unfold stepP at HSTEP
        rw [if_neg (by simp)] at HSTEP
        simp only at HSTEP
        cases hf : find st.1 (order % 5) ((kind % 3 : Nat) : Int) with
        | none =>
          have hA := (alloc_none HPI4.out.v hk5 ht3 hf).1
          have HS := Lib.hid (show st' = st by
            rw [hA, if_neg (by simp), if_neg (by simp)] at HSTEP
            exact (Option.some.inj HSTEP).symm)
          have HA := Lib.hid (show allocP st.1 ((order : Int) % 5) ((kind : Int) % 3) = (Mob.zero, 0, 16) from hA)
          clear HSTEP HST hf hA hk5 ht3
          go_wp2_with ((with_reducible refine ld ?_ V5.x V5.v.len ?_); (focus rfl))
          refine (alloc_19 _ st.1 ((order : Int) % 5) ((kind : Int) % 3) w5 V5.rpv (hFB.below V5.b)).mono ?_
          rw [HA.out]
          rintro e w6 ⟨cs7, rfl, hO, b6⟩
          have hO6 := MixP.weaken hO (show w.heap.size ≤ w5.heap.size from V5.b.size)
          have hz6 := Blk.new w6 26 #[.int .i64 0, .slice none 0 0, .slice none 0 0, .slice none 0 0, .slice none 0 0, .slice none 0 0, .slice none 0 0, .slice none 0 0, .slice none 0 0, .slice none 0 0, .slice none 0 0, .slice none 0 0, .slice none 0 0, .slice none 0 0, .slice none 0 0, .slice none 0 0, .slice none 0 0] zP rfl
          have B7 := below_then b6 (below_box w6 (.cells #[.int .i64 0, .slice none 0 0, .slice none 0 0, .slice none 0 0, .slice none 0 0, .slice none 0 0, .slice none 0 0, .slice none 0 0, .slice none 0 0, .slice none 0 0, .slice none 0 0, .slice none 0 0, .slice none 0 0, .slice none 0 0, .slice none 0 0, .slice none 0 0, .slice none 0 0] 26))
          have hO7 := MixP.later hO6 (below_box w6 (.cells #[.int .i64 0, .slice none 0 0, .slice none 0 0, .slice none 0 0, .slice none 0 0, .slice none 0 0, .slice none 0 0, .slice none 0 0, .slice none 0 0, .slice none 0 0, .slice none 0 0, .slice none 0 0, .slice none 0 0, .slice none 0 0, .slice none 0 0, .slice none 0 0, .slice none 0 0] 26))
          have hlB : w5.heap.size ≤ w6.heap.size := b6.size
          have h17 := (MixP.pv hO7).one
          have hl7 := (MixP.pv hO7).len
          go_upto_region 18 with ((with_reducible refine st26 (cs := cs7) ?_ ?_ hz6 zP_len hl7 h17 ?_); (focus rfl); (focus rfl); intro w8 hB8 hg8)
          have B8 : Below w5.heap.size w5 w8 := B7.grown hg8 B7.size (fun k hk => by cases hk; exact hlB)
          have hO8 := OwnP.grown hO7 hz6 hg8
          obtain ⟨gB, hgB⟩ : ∃ g, w6.heap.size = g := ⟨_, rfl⟩
          rw [hgB] at hB8 ⊢
          clear hgB hO hO6 hz6 B7 hO7 hlB h17 hl7 hg8 b6
          go_wp2
          go_roundg gg
          case rel => exact ⟨i + 1, st, cs, a9, m9, c9, by have := HG.out; omega, by go_num, rfl, HM.out, V5.below B8, HO.later H5 B8, Z5.later B8, by rw [← HS.out]; exact HP5.out, by rw [← HS.out]; exact HPI5.out, by omega⟩
          case measure => omega
        | some r =>
          obtain ⟨u, jj⟩ := r
          obtain ⟨qq, f, hA, _, _⟩ := alloc_ok HPI4.out.v hk5 ht3 hf
          have HS := Lib.hid (show st' = (qq, st.2 ++ [(f, order % 5)]) by
            rw [hA, if_pos rfl] at HSTEP
            exact (Option.some.inj HSTEP).symm)
          have HA := Lib.hid (show allocP st.1 ((order : Int) % 5) ((kind : Int) % 3) = (qq, f, 0) from hA)
          clear HSTEP HST hf hA hk5 ht3
          go_wp2_with ((with_reducible refine ld ?_ V5.x V5.v.len ?_); (focus rfl))
          refine (alloc_19 _ st.1 ((order : Int) % 5) ((kind : Int) % 3) w5 V5.rpv (hFB.below V5.b)).mono ?_
          rw [HA.out]
          rintro e w6 ⟨cs7, rfl, hO, b6⟩
          have hO6 := MixP.weaken hO (show w.heap.size ≤ w5.heap.size from V5.b.size)
          have hz6 := Blk.new w6 26 #[.int .i64 0, .slice none 0 0, .slice none 0 0, .slice none 0 0, .slice none 0 0, .slice none 0 0, .slice none 0 0, .slice none 0 0, .slice none 0 0, .slice none 0 0, .slice none 0 0, .slice none 0 0, .slice none 0 0, .slice none 0 0, .slice none 0 0, .slice none 0 0, .slice none 0 0] zP rfl
          have B7 := below_then b6 (below_box w6 (.cells #[.int .i64 0, .slice none 0 0, .slice none 0 0, .slice none 0 0, .slice none 0 0, .slice none 0 0, .slice none 0 0, .slice none 0 0, .slice none 0 0, .slice none 0 0, .slice none 0 0, .slice none 0 0, .slice none 0 0, .slice none 0 0, .slice none 0 0, .slice none 0 0, .slice none 0 0] 26))
          have hO7 := MixP.later hO6 (below_box w6 (.cells #[.int .i64 0, .slice none 0 0, .slice none 0 0, .slice none 0 0, .slice none 0 0, .slice none 0 0, .slice none 0 0, .slice none 0 0, .slice none 0 0, .slice none 0 0, .slice none 0 0, .slice none 0 0, .slice none 0 0, .slice none 0 0, .slice none 0 0, .slice none 0 0, .slice none 0 0] 26))
          have hlB : w5.heap.size ≤ w6.heap.size := b6.size
          have h17 := (MixP.pv hO7).one
          have hl7 := (MixP.pv hO7).len
          go_upto_region 18 with ((with_reducible refine st26 (cs := cs7) ?_ ?_ hz6 zP_len hl7 h17 ?_); (focus rfl); (focus rfl); intro w8 hB8 hg8)
          have B8 : Below w5.heap.size w5 w8 := B7.grown hg8 B7.size (fun k hk => by cases hk; exact hlB)
          have hO8 := OwnP.grown hO7 hz6 hg8
          obtain ⟨gB, hgB⟩ : ∃ g, w6.heap.size = g := ⟨_, rfl⟩
          rw [hgB] at hB8 ⊢
          clear hgB hO hO6 hz6 B7 hO7 hlB h17 hl7 hg8 b6
          have V8 := V5.below B8
          have H8 := HO.later H5 B8
          have Z8 := Z5.later B8
          have h18 := (MixP.pv hO8).one
          have hl8 := (MixP.pv hO8).len
          clear V5 H5 Z5 B8
          go_upto_region 20 with first | ((with_reducible refine ld ?_ hB8 hl8 ?_); (focus rfl)) | ((with_reducible refine st26 (cs := cs7) ?_ ?_ V8.x V8.v.len hl8 h18 ?_); (focus rfl); (focus rfl); intro w9 hB9 hg9)
          have V9 := VP.renew V8 hO8 hB9 hg9
          have H9 := H8.far V8.x (by decide) hg9
          have Z9 := Z8.grown hg9 (by simpa using Ne.symm hne)
          clear V8 H8 Z8 hO8 hB8 hB9 hg9 h18 hl8 x0 x1 x2 x3 hX
          have b10 := below_box w9 (.cells #[.int .i64 f, .int .i64 ((order : Int) % 5)] 46)
          have H10 := HO.later H9 b10
          have V10 := V9.below b10
          have Z10 := Z9.later b10
          have hlw : w.heap.size ≤ w9.heap.size := V9.b.size
          have HSRC := Lib.hid (src_new2 w9 f ((order : Int) % 5))
          go_wp2_with (at_builtin; refine wpList_append_k K41 rfl (.tmp 103) (.tmp 107) rfl _ m9 (hds st.2) rfl (by have := H10; unfold HO at this; rw [HM.out] at this; exact this) _ 1 1 _ rfl HSRC.out ?c1 ?c2 ?_)
          case c1 => omega
          case c2 => simp; omega
          intro v2 wC ho2 hg2 hk2
          obtain ⟨V11, K11⟩ := V10.beside H10 hg2
          have Z11 := K11 gr 26 zP (by decide) Z10
          obtain ⟨a11, c11, rfl, _, _, _⟩ := own_form ho2
          have hLen : st'.2.length = m9 + 1 := by rw [HS.out, List.length_append, HM.out]; rfl
          have H11 : HO wC w.heap.size (.slice a11 (m9 + 1) c11) st'.2 := by
            unfold HO
            rw [hLen]
            have e1 : hds st'.2 = hds st.2 ++ [.int .i64 f, .int .i64 ((order : Int) % 5)] := by rw [HS.out, hds_append]; rfl
            rw [e1]
            exact ho2
          have HLEN := Lib.hid hLen
          clear V9 H9 Z9 V10 H10 Z10 b10 hlw ho2 hg2 hk2 hLen K11
          go_wp2
          go_roundg gg
          case rel => exact ⟨i + 1, st', cs7, a11, m9 + 1, c11, by have := HG.out; omega, by go_num, rfl, HLEN.out, by rw [HS.out]; exact V11, H11, Z11, HP5.out, HPI5.out, by omega⟩
          case measure => omega
end Go.Proofs.YtkiiifmofmbniaaDoor
