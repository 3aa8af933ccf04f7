/- Walks: a cache with one more slab, of the reference. -/
import Derived.Test.YthhdiiboblaclaaW20
namespace Go.Proofs.Ythhdiiboblaclaa
open Go.RowKit Go.Over Go.Slb Go.Seg Go.Grow
theorem OwnC.withR {W : World} {base : Nat} {V0 V : Value} {rs : List R} {x : R} (h : OwnC W base V0 rs) (hx : W.ownsRow base 4 1 (rv x) x.2.1.length (x.2.1.map Value.bool)) (hn : ∀ r ∈ rs, r.2.2.1 ≠ x.2.2.1) (ho : W.ownsRow base 52 2 V (insR x rs).length (cellsR (insR x rs))) : OwnC W base V (insR x rs) := by
  refine ⟨ho, fun r hr => ?_, ?_⟩
  · rcases List.mem_cons.1 ((insR_perm x rs).mem_iff.1 hr) with rfl | hr
    · exact hx
    · exact h.inn r hr
  · refine ((insR_perm x rs).map (·.2.2.1)).nodup_iff.2 (List.nodup_cons.2 ⟨fun hm => ?_, h.nod⟩)
    obtain ⟨r, hr, he⟩ := List.mem_map.1 hm
    exact hn r hr he
theorem Only.cell {gs : List Nat} {w w' : World} (h : Only gs w w') {p : Addr} (hb : p.block ∉ gs) (hl : p.block < w.heap.size) : w'.cell? p = w.cell? p := World.cell?_of_block (w := w) (h.block p.block hl hb)
/-- What the operations of the copying keep. -/
def KeepW (wL : World) (X5 : Nat) (o : Int) (V : Value) (W : World) : Prop := Only [X5] wL W ∧ Blk W X5 24 [.int .i64 o, V]
theorem KeepW.below {wL : World} {X5 : Nat} {o : Int} {V : Value} {W W' : World} (h : KeepW wL X5 o V W) (hb : Below W.heap.size W W') : KeepW wL X5 o V W' := ⟨h.1.then hb, h.2.later hb⟩
theorem KeepW.grown {wL : World} {X5 : Nat} {o : Int} {V U : Value} {W W' : World} {k : Nat} {xs : List Value} (h : KeepW wL X5 o V W) (hg : W.grownBy W' U.ownBlock) (ho : W.ownsRow wL.heap.size 52 2 U k xs) : KeepW wL X5 o V W' :=
  ⟨h.1.grown hg (fun q hq => .inl (World.ownsRow.lt ho q hq).1), h.2.grown hg (h.2.not_own ho (by decide))⟩
set_option maxRecDepth 100000 in set_option maxHeartbeats 3200000 in
theorem with_44 (base : Nat) (o : Int) (m : Nat) (aV : Option Addr) (n cV : Nat) (f : Int) (rs : List R) (w : World) (hO : OwnC w base (.slice aV n cV) rs) (hn : rs.length = n) (hn1 : n ≤ 1000) (hm : o = (m : Int)) (hm1 : m ≤ 40) (hb : base ≤ w.heap.size) :
    Calls Try.prog 44 #[.agg #[.int .i64 o, .slice aV n cV], .int .i64 f] w fun e w' => ∃ V' rs', e = .returned (.agg #[.int .i64 o, V']) ∧ OwnC w' base V' rs' ∧ rs'.map sl = ins (Slb.fresh o f) (rs.map sl) ∧ Below w.heap.size w w' := by
  have HN := Lib.hid hn; have HM := Lib.hid hm
  have hB0 : Below w.heap.size w (((w.alloc (.cells #[.int .i64 o, .slice aV n cV] 24)).alloc (.cells #[.int .i64 0, .slice none 0 0] 24)).alloc (.cells #[.int .i64 o, .slice none 0 0] 24)) := ((below_box w _).alloc (by simp) _).alloc (by simp; omega) _
  have hA0 : Blk (((w.alloc (.cells #[.int .i64 o, .slice aV n cV] 24)).alloc (.cells #[.int .i64 0, .slice none 0 0] 24)).alloc (.cells #[.int .i64 o, .slice none 0 0] 24)) w.heap.size 24 [.int .i64 o, .slice aV n cV] := ((Blk.new w 24 _ _ rfl).alloc _).alloc _
  have hC0 : Blk (((w.alloc (.cells #[.int .i64 o, .slice aV n cV] 24)).alloc (.cells #[.int .i64 0, .slice none 0 0] 24)).alloc (.cells #[.int .i64 o, .slice none 0 0] 24)) (w.heap.size + 1) 24 [.int .i64 0, .slice none 0 0] := by
    have := (Blk.new (w.alloc (.cells #[.int .i64 o, .slice aV n cV] 24)) 24 #[.int .i64 0, .slice none 0 0] [.int .i64 0, .slice none 0 0] rfl).alloc (.cells #[.int .i64 o, .slice none 0 0] 24)
    simpa using this
  have hX0 : Blk (((w.alloc (.cells #[.int .i64 o, .slice aV n cV] 24)).alloc (.cells #[.int .i64 0, .slice none 0 0] 24)).alloc (.cells #[.int .i64 o, .slice none 0 0] 24)) (w.heap.size + 1 + 1) 24 [.int .i64 o, .slice none 0 0] := by
    have := Blk.new ((w.alloc (.cells #[.int .i64 o, .slice aV n cV] 24)).alloc (.cells #[.int .i64 0, .slice none 0 0] 24)) 24 #[.int .i64 o, .slice none 0 0] [.int .i64 o, .slice none 0 0] rfl
    simpa using this
  obtain ⟨w1, hw1⟩ : ∃ W, W = (((w.alloc (.cells #[.int .i64 o, .slice aV n cV] 24)).alloc (.cells #[.int .i64 0, .slice none 0 0] 24)).alloc (.cells #[.int .i64 o, .slice none 0 0] 24)) := ⟨_, rfl⟩
  rw [← hw1] at hB0 hA0 hC0 hX0
  have HW := Lib.hid hw1
  clear hw1 hn hm
  go_enter Try.func44, Try.ntmps44
  go_wp2_with (at_make; rw [← HW.out]; refine wpList_make_bools w1 rfl (.tmp 14) (.tmp 14) rfl .i64 .i64 o base m rfl rfl HM.out (by omega) (Nat.le_trans hb hB0.size) ?_)
  intro w2 hin2 hg2
  have hb2 := grown_none hg2
  have hgb : w.heap.size ≤ w1.heap.size := hB0.size
  obtain ⟨gg, hgg⟩ : ∃ g, w1.heap.size = g := ⟨_, rfl⟩
  rw [hgg] at hin2 ⊢
  have hgg2 := (World.ownsRow.lt hin2 gg rfl).2
  have hX6 := Blk.new w2 52 #[.int .i64 f, .slice (some ⟨gg, 0, none⟩) m m] [.int .i64 f, .slice (some ⟨gg, 0, none⟩) m m] rfl
  have hbx := below_box w2 (.cells #[.int .i64 f, .slice (some ⟨gg, 0, none⟩) m m] 52)
  have hBL := (below_then hB0 (below_then hb2 hbx))
  have hAL := (hA0.later hb2).later hbx
  have hCL := (hC0.later hb2).later hbx
  have hXL := (hX0.later hb2).later hbx
  have hinL := own_later hin2 hbx
  have hx5 := hX0.lt
  obtain ⟨wL, hwL⟩ : ∃ W, W = w2.alloc (.cells #[.int .i64 f, .slice (some ⟨gg, 0, none⟩) m m] 52) := ⟨_, rfl⟩
  have hsL : wL.heap.size = w2.heap.size + 1 := by rw [hwL]; simp
  rw [← hwL] at hX6 hBL hAL hCL hXL hinL
  have HWL := Lib.hid hwL
  clear HW hwL hbx hA0 hC0 hX0 hB0 hin2 hg2
  go_wp2
  rw [← HWL.out]
  clear HWL
  have hOL := hO.later hBL
  have hx6 : w.heap.size + 1 + 1 < w2.heap.size := by have := hb2.size; omega
  have HOL := Lib.hid hOL; have HIL := Lib.hid hinL; have HBL := Lib.hid hBL
  have hX6lt := hX6.lt
  have HNG := Lib.hid (show ∀ r ∈ rs, r.2.2.1 ≠ gg from fun r hr => by have := (World.ownsRow.lt (hO.inn r hr) r.2.2.1 rfl).2; omega)
  have hbL : base ≤ wL.heap.size := by omega
  clear hO hOL hinL hBL hb2 hgg hgg2 hx5 hgb hsL
  go_loopg [7, 8] n (fun g d0 i0 wr => ∃ (i : Nat) (d : Bool) (V2 : Value) (qs : List R), i + g = n ∧ d0 = .bool d ∧ i0 = .int .i64 i ∧ Step (f, List.replicate m false, gg, m) rs d qs i ∧ wr.ownsRow wL.heap.size 52 2 V2 qs.length (cellsR qs) ∧ Only [w.heap.size + 1 + 1] wL wr ∧ Blk wr (w.heap.size + 1 + 1) 24 [.int .i64 o, V2])
  case atStart => exact ⟨0, false, _, [], by omega, rfl, rfl, Step.start _ _, World.ownsRow_nil _ _ _ _, Only.refl _ _, hXL⟩
  case round =>
    obtain ⟨i, d, V2, qs, hg, rfl, rfl, hS, hq, hon, hX5⟩ := hrel
    have hA := blk_only hAL hon (by simp; omega)
    have hC := blk_only hCL hon (by simp)
    have hX := blk_only hX6 hon (by simp; omega)
    have HS := Lib.hid hS
    have c0 : wr.cell? ⟨w.heap.size, 0, none⟩ = some (.int .i64 o) := hA.cell 0
    have c1 : wr.cell? ⟨w.heap.size, 1, none⟩ = some (.slice aV n cV) := hA.cell 1
    have d0 : wr.cell? ⟨w.heap.size + 1 + 1, 0, none⟩ = some (.int .i64 o) := hX5.cell 0
    have d1 : wr.cell? ⟨w.heap.size + 1 + 1, 1, none⟩ = some V2 := hX5.cell 1
    have d2 := hX5.frozen 1
    have e0 : wr.cell? ⟨w2.heap.size, 0, none⟩ = some (.int .i64 f) := hX.cell 0
    have e1 : wr.cell? ⟨w2.heap.size, 1, none⟩ = some (.slice (some ⟨gg, 0, none⟩) m m) := hX.cell 1
    have g0 : wr.cell? ⟨w.heap.size + 1, 0, none⟩ = some (.int .i64 0) := hC.cell 0
    have g1 : wr.cell? ⟨w.heap.size + 1, 1, none⟩ = some (.slice none 0 0) := hC.cell 1
    have g2 := hC.frozen 0
    have g3 := hC.frozen 1
    have hOw : OwnC wr base (.slice aV n cV) rs := ⟨own_only1 HOL.out.out hon (fun k hk hm => by simp at hm; subst hm; exact hXL.not_own HOL.out.out (by decide) hk), fun r hr => own_only1 (HOL.out.inn r hr) hon (fun k hk hm => by simp at hm; subst hm; exact hXL.not_own (HOL.out.inn r hr) (by decide) hk), HOL.out.nod⟩
    have hIw : wr.ownsRow base 4 1 (.slice (some ⟨gg, 0, none⟩) m m) m ((List.replicate m false).map Value.bool) := by
      have h := own_only1 HIL.out hon (fun k hk hm => by simp at hm; subst hm; exact hXL.not_own HIL.out (by decide) hk)
      simpa using h
    have hbw := hon.below (B := w.heap.size) (by simp; omega) HBL.out.size
    obtain ⟨a2, k2, rfl, _, _, _⟩ := own_form hq
    clear hS
    cases gk with
    | zero =>
      obtain rfl : i = n := by omega
      clear hg
      cases d with
      | true =>
        have HQS := Lib.hid (HS.out.done HN.out)
        go_wp2
        have hF := (hC.set 0 (.int .i64 o)).set 1 (.slice a2 qs.length k2)
        have hOF := ((hOw.withR (x := (f, List.replicate m false, gg, m)) (by show wr.ownsRow base 4 1 (.slice (some ⟨gg, 0, none⟩) (List.replicate m false).length m) (List.replicate m false).length _; rw [List.length_replicate]; exact hIw) HNG.out (by rw [← HQS.out]; exact own_weaken hq hbL)).far hC (by decide) (by decide) 0 (.int .i64 o)).far (hC.set 0 (.int .i64 o)) (by decide) (by decide) 1 (.slice a2 qs.length k2)
        refine bodyPost_ret (v := .agg #[.int .i64 o, .slice a2 qs.length k2]) (results_cell_row (p := 4) (ty := 24) rfl _ _ (w.heap.size + 1) 24 #[.int .i64 o, .slice a2 qs.length k2] (0, 0) _ rfl hF Try.underlying24 rfl (by kernel_rfl)) rfl ⟨_, _, rfl, hOF, ?_, ?_⟩
        · rw [insR_sl]
          have := HM.out
          simp [sl, Slb.fresh, this]
        · exact ((HBL.out.trans hbw).setCell (by simp) _).setCell (by simp) _
      | false =>
        have HQS := Lib.hid (HS.out.last HN.out)
        have HQL := Lib.hid (HS.out.len HN.out (Nat.le_refl _))
        have HQA := Lib.hid (own_later hq (below_box wr (.cells #[.int .i64 f, .slice (some ⟨gg, 0, none⟩) m m] 52)))
        have hX5a := hX5.alloc (.cells #[.int .i64 f, .slice (some ⟨gg, 0, none⟩) m m] 52)
        have hOwX := Lib.hid (hOw.alloc (.cells #[.int .i64 f, .slice (some ⟨gg, 0, none⟩) m m] 52))
        have HIX := Lib.hid (own_later hIw (below_box wr (.cells #[.int .i64 f, .slice (some ⟨gg, 0, none⟩) m m] 52)))
        clear hOw hIw hbw hq
        go_wp2_with (at_builtin; refine wpList_append_k K22 rfl (.tmp 55) (.tmp 57) rfl _ qs.length _ rfl HQA.out _ 1 1 _ rfl (src_new wr #[.int .i64 f, .slice (some ⟨gg, 0, none⟩) m m] 52 2 1 1 rfl (by simp [Value.oneCell'])) ?c1 ?c2 ?_)
        case c1 => have := HQL.out; omega
        case c2 => have := hon.size; simp; omega
        intro V4 w4 hown hgrow _
        have hon4 := (hon.then (below_box wr (.cells #[.int .i64 f, .slice (some ⟨gg, 0, none⟩) m m] 52))).grown hgrow (fun k hk => .inl (World.ownsRow.lt HQA.out k hk).1)
        have hX54 := hX5a.grown hgrow (hX5a.not_own HQA.out (by decide))
        have hC4 := blk_only hCL hon4 (by simp)
        have hbw4 := hon4.below (B := w.heap.size) (by simp; omega) HBL.out.size
        have hOw4 : OwnC w4 base (.slice aV i cV) rs := ⟨own_only1 HOL.out.out hon4 (fun k hk hm => by simp at hm; subst hm; exact hXL.not_own HOL.out.out (by decide) hk), fun r hr => own_only1 (HOL.out.inn r hr) hon4 (fun k hk hm => by simp at hm; subst hm; exact hXL.not_own (HOL.out.inn r hr) (by decide) hk), HOL.out.nod⟩
        have hIw4 : w4.ownsRow base 4 1 (.slice (some ⟨gg, 0, none⟩) m m) m ((List.replicate m false).map Value.bool) := by
          have h := own_only1 HIL.out hon4 (fun k hk hm => by simp at hm; subst hm; exact hXL.not_own HIL.out (by decide) hk)
          simpa using h
        have hlenq : qs.length + 1 = (insR (f, List.replicate m false, gg, m) rs).length := by rw [← HQS.out]; simp
        have hcq : cellsR qs ++ [.int .i64 f, .slice (some ⟨gg, 0, none⟩) m m] = cellsR (insR (f, List.replicate m false, gg, m) rs) := by rw [← HQS.out, cellsR_append]; simp [cellsR, rv]
        have hq4 : w4.ownsRow base 52 2 V4 (insR (f, List.replicate m false, gg, m) rs).length (cellsR (insR (f, List.replicate m false, gg, m) rs)) := by
          rw [← hcq, ← hlenq]; exact own_weaken hown hbL
        have hO4 := hOw4.withR (x := (f, List.replicate m false, gg, m)) (by show w4.ownsRow base 4 1 (.slice (some ⟨gg, 0, none⟩) (List.replicate m false).length m) (List.replicate m false).length _; rw [List.length_replicate]; exact hIw4) HNG.out hq4
        obtain ⟨a4, k4, rfl, _, _, _⟩ := own_form hown
        have x5 : w4.cell? ⟨w.heap.size + 1 + 1, 1, none⟩ = some (.slice a2 qs.length k2) := hX54.cell 1
        have x5f := hX54.frozen 1
        have hX55 := hX54.set 1 (.slice a4 (qs.length + 1) k4)
        have hC5 := hC4.far (p := ⟨w.heap.size + 1 + 1, 1, none⟩) (by show w.heap.size + 1 ≠ w.heap.size + 1 + 1; omega) (.slice a4 (qs.length + 1) k4)
        have y0 : (w4.setCell ⟨w.heap.size + 1 + 1, 1, none⟩ (.slice a4 (qs.length + 1) k4)).cell? ⟨w.heap.size + 1 + 1, 0, none⟩ = some (.int .i64 o) := hX55.cell 0
        have y1 : (w4.setCell ⟨w.heap.size + 1 + 1, 1, none⟩ (.slice a4 (qs.length + 1) k4)).cell? ⟨w.heap.size + 1 + 1, 1, none⟩ = some (.slice a4 (qs.length + 1) k4) := hX55.cell 1
        have z0 : (w4.setCell ⟨w.heap.size + 1 + 1, 1, none⟩ (.slice a4 (qs.length + 1) k4)).cell? ⟨w.heap.size + 1, 0, none⟩ = some (.int .i64 0) := hC5.cell 0
        have z1 : (w4.setCell ⟨w.heap.size + 1 + 1, 1, none⟩ (.slice a4 (qs.length + 1) k4)).cell? ⟨w.heap.size + 1, 1, none⟩ = some (.slice none 0 0) := hC5.cell 1
        have z2 := hC5.frozen 0
        have z3 := hC5.frozen 1
        have HO4 := Lib.hid hO4; have HB4 := Lib.hid hbw4
        clear hown hgrow hq4 hO4 hOw4 hIw4 hbw4 hcq hlenq hon4 c0 c1 d0 d1 d2 e0 e1 g0 g1 g2 g3 hX5a
        go_wp2
        have hF := (hC5.set 0 (.int .i64 o)).set 1 (.slice a4 (qs.length + 1) k4)
        have hO5 := HO4.out.far hX54 (by decide) (by decide) 1 (.slice a4 (qs.length + 1) k4)
        have hOF := (hO5.far hC5 (by decide) (by decide) 0 (.int .i64 o)).far (hC5.set 0 (.int .i64 o)) (by decide) (by decide) 1 (.slice a4 (qs.length + 1) k4)
        refine bodyPost_ret (v := .agg #[.int .i64 o, .slice a4 (qs.length + 1) k4]) (results_cell_row (p := 4) (ty := 24) rfl _ _ (w.heap.size + 1) 24 #[.int .i64 o, .slice a4 (qs.length + 1) k4] (0, 0) _ rfl hF Try.underlying24 rfl (by kernel_rfl)) rfl ⟨_, _, rfl, hOF, ?_, ?_⟩
        · rw [insR_sl]
          have := HM.out
          simp [sl, Slb.fresh, this]
        · exact (((HBL.out.trans HB4.out).setCell (by simp; omega) _).setCell (by simp) _).setCell (by simp) _
    | succ g =>
      have hin : i < n := by omega
      obtain ⟨⟨x, u, rg, rc⟩, hr⟩ := get_some HN.out hin
      obtain ⟨b, off, rfl, s0, s1⟩ := HOL.out.at hr
      have hbX : b ∉ [w.heap.size + 1 + 1] := fun hm => by simp at hm; subst hm; exact hXL.not_own HOL.out.out (by decide) rfl
      have hbl : b < wL.heap.size := (World.ownsRow.lt HOL.out.out b rfl).2
      obtain ⟨um, hum⟩ : ∃ k, u.length = k := ⟨_, rfl⟩
      rw [show (((x, u, rg, rc) : R).2.1.length) = um from hum] at s1
      have HU := Lib.hid hum
      have S0 := Lib.hid s0; have S1 := Lib.hid s1
      have s0w : wr.cell? ⟨b, off + i * 2, none⟩ = some (.int .i64 x) := (hon.cell hbX hbl).trans s0
      have HR := Lib.hid hr; have HG := Lib.hid hg
      have HQL := Lib.hid (HS.out.len HN.out (Nat.le_of_lt hin))
      clear hr hg hum s0 s1 hOw hIw hbw g0 g1 g2 g3
      have hreg : (d = false → ¬ f < x) ∨ (d = false ∧ f < x) := by by_cases h : d = false ∧ f < x; exact .inr h; exact .inl (fun h1 h2 => h ⟨h1, h2⟩)
      rcases hreg with hno | ⟨rfl, hlt⟩
      · have HST := Lib.hid (HS.out.go HR.out hno)
        have HQB := Lib.hid hq
        have HLQ := Lib.hid (show qs.length ≤ 2000 by have := HQL.out; omega)
        cases d with
        | true =>
          go_wp2
          refine wp_region_in (KeepW wL (w.heap.size + 1 + 1) o (.slice a2 qs.length k2)) [(true, 7), (false, 1), (false, 1), (true, 1), (false, 1)] [0, 1, 2, 3, 4, 5, 6, 7, 8, 9, 10] 10 (by kernel_rfl) (by kernel_rfl) (KeepW.below ⟨hon, hX5⟩ (Below.refl _ _).drew) ?_
          intro W hW hWe
          have hQW : W.ownsRow wL.heap.size 52 2 (.slice a2 qs.length k2) qs.length (cellsR qs) := by rw [hWe]; exact own_later HQB.out (Below.refl _ _).drew
          clear hWe
          clear hon hX5 hA hC hX c0 c1 d0 d1 d2 e0 e1 s0w hq HQB
          simp only [wpSegsL, inOrder, List.filterMap_cons, List.filterMap_nil, List.getElem?_cons_zero, List.getElem?_cons_succ, List.take_succ_cons, List.take_zero, List.drop_succ_cons, List.drop_zero]
          have q0 := fun z => (hold_ok hW z).2.cell 1
          have q1 := fun z => (blk_only hAL (hold_ok hW z).1 (by simp; omega)).cell 1
          have q2 := fun z => ((hold_ok hW z).1.cell (p := ⟨b, off + i * 2, none⟩) hbX hbl).trans S0.out
          have q3 := fun z => ((hold_ok hW z).1.cell (p := ⟨b, off + i * 2 + 1, none⟩) hbX hbl).trans S1.out
          simp only [List.getElem?_cons_zero, List.getElem?_cons_succ] at q0 q1
          repeat (go_big_quiet_step (fail))
          refine wpQuiet_nil ?_
          clear q0 q1 q2 q3
          go_wp2
          have hWa := hW.below (below_box W (.cells #[.int .i64 x, .slice (some ⟨rg, 0, none⟩) um rc] 52))
          have hQa := own_later hQW (below_box W (.cells #[.int .i64 x, .slice (some ⟨rg, 0, none⟩) um rc] 52))
          refine ⟨hold_of hWa, ?_⟩
          refine wpList_append_k K22 rfl (.tmp 43) (.tmp 49) rfl _ _ _ rfl hQa _ 1 1 _ rfl (src_new W #[.int .i64 x, .slice (some ⟨rg, 0, none⟩) um rc] 52 2 1 1 rfl (by simp [Value.oneCell'])) ?c1 ?c2 ?_
          case c1 => have := HLQ.out; omega
          case c2 => exact hWa.1.size
          intro V6 w6 hown6 hg6 _
          have hW6 := hWa.grown hg6 hQa
          have hQ6 : w6.ownsRow wL.heap.size 52 2 V6 (qs ++ [(x, u, rg, rc)]).length (cellsR (qs ++ [(x, u, rg, rc)])) := by
            have e : cellsR [(x, u, rg, rc)] = [.int .i64 x, .slice (some ⟨rg, 0, none⟩) um rc] := by simp [cellsR, rv, HU.out]
            rw [List.length_append, cellsR_append, e]; exact hown6
          obtain ⟨a6, k6, rfl, _, _, _⟩ := own_form hQ6
          clear hW hQW hWa hQa hown6 hg6
          refine wpList_nil ⟨hold_of hW6, ?_⟩
          simp only [Act.put, List.setIfInBounds_toArray, List.set_cons_succ, List.set_cons_zero]
          repeat (go_big_quiet_step (fail))
          refine wpQuiet_nil ?_
          have d1 : w6.cell? ⟨w.heap.size + 1 + 1, 1, none⟩ = some (.slice a2 qs.length k2) := hW6.2.cell 1
          have d2 := hW6.2.frozen 1
          have hB6 := hW6.2
          go_wp2
          refine ⟨trivial, NoPanic.normal ?_⟩
          go_wp2
          go_roundg g
          case rel =>
            refine ⟨i + 1, _, _, _, by have := HG.out; omega, rfl, by go_num, HST.out, own_far hQ6 hB6 (by decide) 1 _, hW6.1.grown (grown_set w6 _ 1 _) (fun k hk => by cases hk; exact .inr (by simp)), by simpa using hB6.set 1 (.slice a6 (qs.length + 1) k6)⟩
          case measure => omega
        | false =>
          have hno := hno rfl
          go_wp2
          refine wp_region_in (KeepW wL (w.heap.size + 1 + 1) o (.slice a2 qs.length k2)) [(true, 7), (false, 1), (false, 1), (true, 1), (false, 1)] [0, 1, 2, 3, 4, 5, 6, 7, 8, 9, 10] 10 (by kernel_rfl) (by kernel_rfl) (KeepW.below ⟨hon, hX5⟩ (Below.refl _ _).drew) ?_
          intro W hW hWe
          have hQW : W.ownsRow wL.heap.size 52 2 (.slice a2 qs.length k2) qs.length (cellsR qs) := by rw [hWe]; exact own_later HQB.out (Below.refl _ _).drew
          clear hWe
          clear hon hX5 hA hC hX c0 c1 d0 d1 d2 e0 e1 s0w hq HQB
          simp only [wpSegsL, inOrder, List.filterMap_cons, List.filterMap_nil, List.getElem?_cons_zero, List.getElem?_cons_succ, List.take_succ_cons, List.take_zero, List.drop_succ_cons, List.drop_zero]
          have q0 := fun z => (hold_ok hW z).2.cell 1
          have q1 := fun z => (blk_only hAL (hold_ok hW z).1 (by simp; omega)).cell 1
          have q2 := fun z => ((hold_ok hW z).1.cell (p := ⟨b, off + i * 2, none⟩) hbX hbl).trans S0.out
          have q3 := fun z => ((hold_ok hW z).1.cell (p := ⟨b, off + i * 2 + 1, none⟩) hbX hbl).trans S1.out
          simp only [List.getElem?_cons_zero, List.getElem?_cons_succ] at q0 q1
          repeat (go_big_quiet_step (fail))
          refine wpQuiet_nil ?_
          clear q0 q1 q2 q3
          go_wp2
          have hWa := hW.below (below_box W (.cells #[.int .i64 x, .slice (some ⟨rg, 0, none⟩) um rc] 52))
          have hQa := own_later hQW (below_box W (.cells #[.int .i64 x, .slice (some ⟨rg, 0, none⟩) um rc] 52))
          refine ⟨hold_of hWa, ?_⟩
          refine wpList_append_k K22 rfl (.tmp 43) (.tmp 49) rfl _ _ _ rfl hQa _ 1 1 _ rfl (src_new W #[.int .i64 x, .slice (some ⟨rg, 0, none⟩) um rc] 52 2 1 1 rfl (by simp [Value.oneCell'])) ?c1 ?c2 ?_
          case c1 => have := HLQ.out; omega
          case c2 => exact hWa.1.size
          intro V6 w6 hown6 hg6 _
          have hW6 := hWa.grown hg6 hQa
          have hQ6 : w6.ownsRow wL.heap.size 52 2 V6 (qs ++ [(x, u, rg, rc)]).length (cellsR (qs ++ [(x, u, rg, rc)])) := by
            have e : cellsR [(x, u, rg, rc)] = [.int .i64 x, .slice (some ⟨rg, 0, none⟩) um rc] := by simp [cellsR, rv, HU.out]
            rw [List.length_append, cellsR_append, e]; exact hown6
          obtain ⟨a6, k6, rfl, _, _, _⟩ := own_form hQ6
          clear hW hQW hWa hQa hown6 hg6
          refine wpList_nil ⟨hold_of hW6, ?_⟩
          simp only [Act.put, List.setIfInBounds_toArray, List.set_cons_succ, List.set_cons_zero]
          repeat (go_big_quiet_step (fail))
          refine wpQuiet_nil ?_
          have d1 : w6.cell? ⟨w.heap.size + 1 + 1, 1, none⟩ = some (.slice a2 qs.length k2) := hW6.2.cell 1
          have d2 := hW6.2.frozen 1
          have hB6 := hW6.2
          go_wp2
          refine ⟨trivial, NoPanic.normal ?_⟩
          go_wp2
          go_roundg g
          case rel =>
            refine ⟨i + 1, _, _, _, by have := HG.out; omega, rfl, by go_num, HST.out, own_far hQ6 hB6 (by decide) 1 _, hW6.1.grown (grown_set w6 _ 1 _) (fun k hk => by cases hk; exact .inr (by simp)), by simpa using hB6.set 1 (.slice a6 (qs.length + 1) k6)⟩
          case measure => omega
      · have HQA := Lib.hid (own_later hq (below_box wr (.cells #[.int .i64 f, .slice (some ⟨gg, 0, none⟩) m m] 52)))
        have hX5a := hX5.alloc (.cells #[.int .i64 f, .slice (some ⟨gg, 0, none⟩) m m] 52)
        have HSP := Lib.hid (HS.out.put HR.out hlt)
        have hlq := HQL.out
        go_wp2_with (at_builtin; refine wpList_append_k K22 rfl (.tmp 37) (.tmp 39) rfl _ qs.length _ rfl HQA.out _ 1 1 _ rfl (src_new wr #[.int .i64 f, .slice (some ⟨gg, 0, none⟩) m m] 52 2 1 1 rfl (by simp [Value.oneCell'])) ?c1 ?c2 ?_)
        case c1 => omega
        case c2 => have := hon.size; simp; omega
        intro V4 w4 hown hgrow _
        have hon4 := (hon.then (below_box wr (.cells #[.int .i64 f, .slice (some ⟨gg, 0, none⟩) m m] 52))).grown hgrow (fun k hk => .inl (World.ownsRow.lt HQA.out k hk).1)
        have hX54 := hX5a.grown hgrow (hX5a.not_own HQA.out (by decide))
        have hcq : cellsR qs ++ [.int .i64 f, .slice (some ⟨gg, 0, none⟩) m m] = cellsR (qs ++ [(f, List.replicate m false, gg, m)]) := by rw [cellsR_append]; simp [cellsR, rv]
        obtain ⟨a4, k4, rfl, _, _, _⟩ := own_form hown
        have x5 : w4.cell? ⟨w.heap.size + 1 + 1, 1, none⟩ = some (.slice a2 qs.length k2) := hX54.cell 1
        have x5f := hX54.frozen 1
        have hq5 := own_far hown hX54 (by decide) 1 (.slice a4 (qs.length + 1) k4)
        have hX55 := hX54.set 1 (.slice a4 (qs.length + 1) k4)
        have hon5 := hon4.grown (grown_set w4 (w.heap.size + 1 + 1) 1 (.slice a4 (qs.length + 1) k4)) (fun k hk => by cases hk; exact .inr (by simp))
        obtain ⟨qs', hqs'⟩ : ∃ q, qs ++ [((f, List.replicate m false, gg, m) : R)] = q := ⟨_, rfl⟩
        obtain ⟨w5, hw5⟩ : ∃ W, W = w4.setCell ⟨w.heap.size + 1 + 1, 1, none⟩ (.slice a4 (qs.length + 1) k4) := ⟨_, rfl⟩
        have hql : qs.length + 1 = qs'.length := by rw [← hqs']; simp
        rw [hcq, hqs', ← hw5] at hq5
        rw [← hw5] at hX55 hon5
        have HST0 := HSP.out
        rw [hqs'] at HST0
        have HW5 := Lib.hid hw5; have HQL5 := Lib.hid hql
        clear hw5 hql hown hgrow hX5a hon4 hcq hqs' HSP HQA
        go_wp2
        rw [← HW5.out]
        rw [HQL5.out]
        rw [HQL5.out] at hX55 hq5
        have HLQ0 := Lib.hid (show qs'.length ≤ 2000 by have := HQL5.out; omega)
        clear HW5 hq hX5 hon HS HQL hC hA hX c0 c1 d0 d1 d2 e0 e1 s0w x5 x5f hX54 HR hlq
        have HQB := Lib.hid (show w5.ownsRow wL.heap.size 52 2 (.slice a4 qs'.length k4) qs'.length (cellsR qs') from hq5)
        have hX5 : Blk w5 (w.heap.size + 1 + 1) 24 [.int .i64 o, .slice a4 qs'.length k4] := hX55
        have hon := hon5
        have HST := Lib.hid HST0
        clear hq5 hX55 hon5 HST0 HQL5
        have hA := Lib.hid hX5; have hC := Lib.hid hX5; have hX := Lib.hid hX5; have c0 := Lib.hid hX5; have c1 := Lib.hid hX5; have d0 := Lib.hid hX5; have d1 := Lib.hid hX5; have d2 := Lib.hid hX5; have e0 := Lib.hid hX5; have e1 := Lib.hid hX5; have s0w := Lib.hid hX5; have hq := Lib.hid hX5
        obtain ⟨qs, rfl⟩ : ∃ q, q = qs' := ⟨_, rfl⟩
        obtain ⟨a2, rfl⟩ : ∃ q, q = a4 := ⟨_, rfl⟩
        obtain ⟨k2, rfl⟩ : ∃ q, q = k4 := ⟨_, rfl⟩
        have HLQ := HLQ0
        refine wp_region_in (KeepW wL (w.heap.size + 1 + 1) o (.slice a2 qs.length k2)) [(true, 7), (false, 1), (false, 1), (true, 1), (false, 1)] [0, 1, 2, 3, 4, 5, 6, 7, 8, 9, 10] 10 (by kernel_rfl) (by kernel_rfl) (KeepW.below ⟨hon, hX5⟩ (Below.refl _ _).drew) ?_
        intro W hW hWe
        have hQW : W.ownsRow wL.heap.size 52 2 (.slice a2 qs.length k2) qs.length (cellsR qs) := by rw [hWe]; exact own_later HQB.out (Below.refl _ _).drew
        clear hWe
        clear hon hX5 hA hC hX c0 c1 d0 d1 d2 e0 e1 s0w hq HQB
        simp only [wpSegsL, inOrder, List.filterMap_cons, List.filterMap_nil, List.getElem?_cons_zero, List.getElem?_cons_succ, List.take_succ_cons, List.take_zero, List.drop_succ_cons, List.drop_zero]
        have q0 := fun z => (hold_ok hW z).2.cell 1
        have q1 := fun z => (blk_only hAL (hold_ok hW z).1 (by simp; omega)).cell 1
        have q2 := fun z => ((hold_ok hW z).1.cell (p := ⟨b, off + i * 2, none⟩) hbX hbl).trans S0.out
        have q3 := fun z => ((hold_ok hW z).1.cell (p := ⟨b, off + i * 2 + 1, none⟩) hbX hbl).trans S1.out
        simp only [List.getElem?_cons_zero, List.getElem?_cons_succ] at q0 q1
        repeat (go_big_quiet_step (fail))
        refine wpQuiet_nil ?_
        clear q0 q1 q2 q3
        go_wp2
        have hWa := hW.below (below_box W (.cells #[.int .i64 x, .slice (some ⟨rg, 0, none⟩) um rc] 52))
        have hQa := own_later hQW (below_box W (.cells #[.int .i64 x, .slice (some ⟨rg, 0, none⟩) um rc] 52))
        refine ⟨hold_of hWa, ?_⟩
        refine wpList_append_k K22 rfl (.tmp 43) (.tmp 49) rfl _ _ _ rfl hQa _ 1 1 _ rfl (src_new W #[.int .i64 x, .slice (some ⟨rg, 0, none⟩) um rc] 52 2 1 1 rfl (by simp [Value.oneCell'])) ?c1 ?c2 ?_
        case c1 => have := HLQ.out; omega
        case c2 => exact hWa.1.size
        intro V6 w6 hown6 hg6 _
        have hW6 := hWa.grown hg6 hQa
        have hQ6 : w6.ownsRow wL.heap.size 52 2 V6 (qs ++ [(x, u, rg, rc)]).length (cellsR (qs ++ [(x, u, rg, rc)])) := by
          have e : cellsR [(x, u, rg, rc)] = [.int .i64 x, .slice (some ⟨rg, 0, none⟩) um rc] := by simp [cellsR, rv, HU.out]
          rw [List.length_append, cellsR_append, e]; exact hown6
        obtain ⟨a6, k6, rfl, _, _, _⟩ := own_form hQ6
        clear hW hQW hWa hQa hown6 hg6
        refine wpList_nil ⟨hold_of hW6, ?_⟩
        simp only [Act.put, List.setIfInBounds_toArray, List.set_cons_succ, List.set_cons_zero]
        repeat (go_big_quiet_step (fail))
        refine wpQuiet_nil ?_
        have d1 : w6.cell? ⟨w.heap.size + 1 + 1, 1, none⟩ = some (.slice a2 qs.length k2) := hW6.2.cell 1
        have d2 := hW6.2.frozen 1
        have hB6 := hW6.2
        go_wp2
        refine ⟨trivial, NoPanic.normal ?_⟩
        go_wp2
        go_roundg g
        case rel =>
          refine ⟨i + 1, _, _, _, by have := HG.out; omega, rfl, by go_num, HST.out, own_far hQ6 hB6 (by decide) 1 _, hW6.1.grown (grown_set w6 _ 1 _) (fun k hk => by cases hk; exact .inr (by simp)), by simpa using hB6.set 1 (.slice a6 (qs.length + 1) k6)⟩
        case measure => omega
end Go.Proofs.Ythhdiiboblaclaa
