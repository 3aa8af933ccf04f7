/- Walks: a copy of a cache, of the program. -/
import Derived.Test.YthhdiiboblaclaaW12
namespace Go.Proofs.Ythhdiiboblaclaa
open Go.RowKit Go.Over Go.Slb Go.Seg Go.Grow
theorem flags_cells {w : World} {b off : Nat} {u : List Bool} (h : ∀ i, i < u.length → w.cell? ⟨b, off + i, none⟩ = some (.bool (u.getD i false))) : ∀ j v, (u.map Value.bool)[j]? = some v → w.cell? ((⟨b, off, none⟩ : Addr).add j) = some v := by
  intro j v hj
  rw [List.getElem?_map] at hj
  cases hu : u[j]? with
  | none => rw [hu] at hj; cases hj
  | some x =>
    rw [hu] at hj; cases hj
    have hlt : j < u.length := by rw [List.getElem?_eq_some_iff] at hu; obtain ⟨h, _⟩ := hu; exact h
    rw [add_row, h j hlt, List.getD_eq_getElem?_getD, hu]; rfl
theorem bools_one (u : List Bool) : ∀ v ∈ u.map Value.bool, v.oneCell' = true := by
  intro v hv
  obtain ⟨x, _, rfl⟩ := List.mem_map.1 hv
  rfl
theorem flags_src {w : World} {a : Option Addr} {u : List Bool} {n c : Nat} (H : Flags w a u) (hn : u.length = n) (hz : a = none → n = 0 ∧ c = 0) : Grow.Src w 1 a n c (u.map Value.bool) := by
  refine ⟨by simp [hn], bools_one u, ?_⟩
  cases a with
  | none => exact .inl ⟨rfl, (hz rfl).1, (hz rfl).2⟩
  | some ad =>
    refine .inr ⟨ad, rfl, ?_⟩
    rcases Nat.eq_zero_or_pos u.length with h0 | h0
    · intro j v hj
      rw [List.eq_nil_of_length_eq_zero h0] at hj
      simp at hj
    · obtain ⟨b, off, ha, hcell⟩ := H h0
      cases ha
      exact flags_cells hcell
set_option maxRecDepth 100000 in set_option maxHeartbeats 1600000 in
theorem clone_47 (a : Option Addr) (u : List Bool) (n c : Nat) (w : World) (H : Flags w a u) (hn : u.length = n) (h0 : 0 < n) (hm : n ≤ 100000) :
    Calls Try.prog 47 #[.slice a n c] w fun e w' => ∃ g cp, e = .returned (.slice (some ⟨g, 0, none⟩) n cp) ∧ w'.ownsRow w.heap.size 4 1 (.slice (some ⟨g, 0, none⟩) n cp) n (u.map Value.bool) ∧ Below w.heap.size w w' := by
  obtain ⟨b, off, rfl, hc⟩ := H (by omega)
  have hsrc : Grow.Src (w.alloc (.cells #[] 4)) 1 (some ⟨b, off, none⟩) n c (u.map Value.bool) := flags_src (H.below (below_box _ _)) hn (fun h => by cases h)
  have k1 := fun w' => Lib.run_eql_slice_nil (P := Try.prog) w' 50 4 (some ⟨b, off, none⟩) n c 0 0 Try.underlying50
  have hmade : (w.alloc (.cells #[] 4)).ownsRow w.heap.size 4 1 (.slice (some ⟨w.heap.size, 0, none⟩) 0 0) 0 [] := World.ownsRow_made w #[] 0 (Nat.le_refl _) (Nat.zero_le _) rfl
  have HS := Lib.hid hsrc
  clear hc hsrc
  go_enter Try.func47, Try.ntmps47
  go_wp2_with (at_builtin; refine wpList_append_k K50 rfl (.tmp 5) (.tmp 6) rfl _ 0 [] rfl hmade _ n c _ rfl HS.out ?c1 ?c2 ?_)
  case c1 => omega
  case c2 => simp
  intro v' w' hown hg _
  have hb : Below w.heap.size w w' := (below_box w _).grown hg (by simp) (fun k hk => by simp [Value.ownBlock] at hk; omega)
  have hown : w'.ownsRow w.heap.size 4 1 v' n (u.map Value.bool) := by first | exact hown | simpa using hown
  obtain ⟨g, cp, rfl, _, _, _, _⟩ := own_pos hown h0
  clear hg
  go_wp2
  go_ret
  exact ⟨g, cp, rfl, hown, hb⟩
theorem grown_set (w : World) (g i : Nat) (u : Value) : w.grownBy (w.setCell ⟨g, i, none⟩ u) (some g) :=
  ⟨rfl, rfl, rfl, by simp [World.setCell], fun k _ hk => Below.heap_setCell w ⟨g, i, none⟩ u k (fun e => hk (by rw [e]))⟩
theorem OwnC.far {w : World} {base g : Nat} {V : Value} {rs : List R} {cs : List Value} {t : TypeId} (h : OwnC w base V rs) (hg : Blk w g t cs) (h1 : t ≠ 52) (h2 : t ≠ 4) (i : Nat) (u : Value) : OwnC (w.setCell ⟨g, i, none⟩ u) base V rs := by
  have hgr := grown_set w g i u
  refine ⟨h.out.kept hgr (.inr (hg.not_own h.out (Ne.symm h1))), fun r hr => (h.inn r hr).kept hgr (.inr (hg.not_own (h.inn r hr) (Ne.symm h2))), h.nod⟩
/-- What every operation of the region keeps, but the store. -/
def KeepC (w0 : World) (o : Int) (a : Option Addr) (n c : Nat) (V : Value) (X : Nat) (f : Int) (x : Value) (W : World) : Prop :=
  Below w0.heap.size w0 W ∧ Blk W w0.heap.size 24 [.int .i64 o, .slice a n c] ∧ Blk W (w0.heap.size + 1) 24 [.int .i64 0, .slice none 0 0] ∧ Blk W (w0.heap.size + 1 + 1) 24 [.int .i64 o, V] ∧ Blk W X 52 [.int .i64 f, x]
theorem KeepC.below {w0 : World} {o : Int} {a : Option Addr} {n c : Nat} {V : Value} {X : Nat} {f : Int} {x : Value} {W W' : World} (h : KeepC w0 o a n c V X f x W) (hb : Below W.heap.size W W') : KeepC w0 o a n c V X f x W' :=
  ⟨below_then h.1 hb, h.2.1.later hb, h.2.2.1.later hb, h.2.2.2.1.later hb, h.2.2.2.2.later hb⟩
theorem KeepC.grown {w0 : World} {o : Int} {a : Option Addr} {n c : Nat} {V U : Value} {X : Nat} {f : Int} {x : Value} {W W' : World} {base m : Nat} {xs : List Value} (h : KeepC w0 o a n c V X f x W) (hg : W.grownBy W' U.ownBlock) (ho : W.ownsRow base 52 2 U m xs) (hb : w0.heap.size ≤ base) (hX : U.ownBlock ≠ some X) : KeepC w0 o a n c V X f x W' :=
  ⟨h.1.grown hg h.1.size (fun q hq => by have := (World.ownsRow.lt ho q hq).1; omega), h.2.1.grown hg (h.2.1.not_own ho (by decide)), h.2.2.1.grown hg (h.2.2.1.not_own ho (by decide)), h.2.2.2.1.grown hg (h.2.2.2.1.not_own ho (by decide)), h.2.2.2.2.grown hg hX⟩
set_option maxRecDepth 100000 in set_option maxHeartbeats 1600000 in
theorem clone_35 (o : Int) (a : Option Addr) (l : List S) (n c : Nat) (w : World) (H : Slabs w a l) (hn : l.length = n) (hm : n ≤ 1000) (hl : ∀ s ∈ l, 0 < s.2.length ∧ s.2.length ≤ 40) :
    Calls Try.prog 35 #[.agg #[.int .i64 o, .slice a n c]] w fun e w' => ∃ V rs, e = .returned (.agg #[.int .i64 o, V]) ∧ OwnC w' w.heap.size V rs ∧ rs.map sl = l ∧ Below w.heap.size w w' := by
  have HN := Lib.hid hn
  have HL := Lib.hid hl
  clear hn hl
  go_enter Try.func35, Try.ntmps35
  go_wp2
  go_loopg [12] n (fun g i0 wr => ∃ (i : Nat) (V : Value) (rs : List R), i + g = n ∧ i0 = .int .i64 i ∧ rs.map sl = l.take i ∧ OwnC wr w.heap.size V rs ∧ Below w.heap.size w wr ∧ Blk wr w.heap.size 24 [.int .i64 o, .slice a n c] ∧ Blk wr (w.heap.size + 1) 24 [.int .i64 0, .slice none 0 0] ∧ Blk wr (w.heap.size + 1 + 1) 24 [.int .i64 o, V])
  case atStart =>
    refine ⟨0, .slice none 0 0, [], by omega, rfl, rfl, OwnC.nil _ _, (by repeat (first | with_reducible exact Below.refl _ _ | with_reducible assumption | with_reducible refine below_alloc ?_ _ | with_reducible refine Below.drew ?_ | with_reducible refine below_drewN ?_ _ | with_reducible refine below_then ?_ (by with_reducible assumption))), ?_, ?_, ?_⟩
    · exact ((Blk.new w 24 _ _ rfl).alloc _).alloc _
    · have := (Blk.new (w.alloc (.cells #[.int .i64 o, .slice a n c] 24)) 24 #[.int .i64 0, .slice none 0 0] [.int .i64 0, .slice none 0 0] rfl).alloc (.cells #[.int .i64 o, .slice none 0 0] 24)
      simpa using this
    · have := Blk.new ((w.alloc (.cells #[.int .i64 o, .slice a n c] 24)).alloc (.cells #[.int .i64 0, .slice none 0 0] 24)) 24 #[.int .i64 o, .slice none 0 0] [.int .i64 o, .slice none 0 0] rfl
      simpa using this
  case round =>
    obtain ⟨i, V, rs, hg, rfl, hrs, hO, hb, hA, hC, hB⟩ := hrel
    have hlen : rs.length = i := by
      have := congrArg List.length hrs
      rw [List.length_map, List.length_take, HN.out] at this
      omega
    obtain ⟨aV, cV, rfl, _, _, _, _⟩ := hO.slabs hlen
    have HLEN := Lib.hid hlen; clear hlen
    cases gk with
    | zero =>
      obtain rfl : i = n := by omega
      have HR := Lib.hid (show rs.map sl = l by rw [hrs, List.take_of_length_le (by rw [HN.out]; exact Nat.le_refl _)])
      have c0 : wr.cell? ⟨w.heap.size + 1 + 1, 0, none⟩ = some (.int .i64 o) := hB.cell 0
      have c1 : wr.cell? ⟨w.heap.size + 1 + 1, 1, none⟩ = some (.slice aV i cV) := hB.cell 1
      have d0 : wr.cell? ⟨w.heap.size + 1, 0, none⟩ = some (.int .i64 0) := hC.cell 0
      have d1 : wr.cell? ⟨w.heap.size + 1, 1, none⟩ = some (.slice none 0 0) := hC.cell 1
      have f0 := hC.frozen 0
      have f1 := hC.frozen 1
      clear hg hrs
      go_wp2
      have hF := (hC.set 0 (.int .i64 o)).set 1 (.slice aV i cV)
      have hOF := (hO.far hC (by decide) (by decide) 0 (.int .i64 o)).far (hC.set 0 (.int .i64 o)) (by decide) (by decide) 1 (.slice aV i cV)
      refine bodyPost_ret (v := .agg #[.int .i64 o, .slice aV i cV]) (results_cell_row (p := 2) (ty := 24) rfl _ _ (w.heap.size + 1) 24 #[.int .i64 o, .slice aV i cV] (0, 0) _ rfl hF Try.underlying24 rfl (by kernel_rfl)) rfl ⟨_, rs, rfl, hOF, HR.out, ?_⟩
      exact (hb.setCell (by simp) _).setCell (by simp) _
    | succ g =>
      have hin : i < n := by omega
      obtain ⟨⟨f, u⟩, hs⟩ := get_some HN.out hin
      have hul := HL.out _ (List.mem_of_getElem? hs)
      have HRS := Lib.hid (show rs.map sl ++ [(f, u)] = l.take (i + 1) by rw [hrs, List.take_add_one, hs]; rfl)
      obtain ⟨b, off, rfl, hc⟩ := (H.below hb) (by rw [HN.out]; omega)
      obtain ⟨s0, a', c', s1, hc1, hc2, hc3, hf⟩ := hc i _ hs
      obtain ⟨um, hmm⟩ : ∃ m, u.length = m := ⟨_, rfl⟩
      simp only [hmm] at s0 s1 hc1 hul
      obtain ⟨hul0, hul1⟩ := hul
      have HM := Lib.hid hmm; have HG := Lib.hid hg
      clear hmm hg hs hc hrs
      go_wp2
      have hX := Blk.new wr 52 #[.int .i64 f, .slice a' um c'] [.int .i64 f, .slice a' um c'] rfl
      have hfX := hf.below (below_box wr (.cells #[.int .i64 f, .slice a' um c'] 52))
      have hOX := hO.alloc (.cells #[.int .i64 f, .slice a' um c'] 52)
      have hK : KeepC w o (some ⟨b, off, none⟩) n c (.slice aV i cV) wr.heap.size f (.slice a' um c') (wr.alloc (.cells #[.int .i64 f, .slice a' um c'] 52)) := ⟨below_alloc hb _, hA.alloc _, hC.alloc _, hB.alloc _, hX⟩
      have hVX : (Value.slice aV i cV).ownBlock ≠ some wr.heap.size := fun h => by have := (World.ownsRow.lt hO.out _ h).2; omega
      clear s0 s1 hA hC hB hb hX hf hO
      refine wp_region_in (KeepC w o (some ⟨b, off, none⟩) n c (.slice aV i cV) wr.heap.size f (.slice a' um c')) [(true, 6), (false, 1), (true, 1), (false, 1), (false, 1), (true, 1), (false, 1)] [0, 1, 2, 3, 4, 5, 6, 7, 8, 9, 10, 11] 11 (by kernel_rfl) (by kernel_rfl) (hK.below (Below.refl _ _).drew) ?_
      intro W hW hWe
      have hOW : OwnC W w.heap.size (.slice aV i cV) rs := by rw [hWe]; exact hOX.later (Below.refl _ _).drew
      have hfW : Flags W a' u := by rw [hWe]; exact hfX.below (Below.refl _ _).drew
      have hsz : wr.heap.size < W.heap.size := by rw [hWe]; show wr.heap.size < (wr.alloc _).heap.size; simp
      clear hWe hOX hfX hK
      simp only [wpSegsL, inOrder, List.filterMap_cons, List.filterMap_nil, List.getElem?_cons_zero, List.getElem?_cons_succ, List.take_succ_cons, List.take_zero, List.drop_succ_cons, List.drop_zero]
      have q1 := fun z => (hold_ok hW z).2.2.2.1.cell 1
      have q2 := fun z => (hold_ok hW z).2.2.2.2.cell 0
      have q3 := fun z => (hold_ok hW z).2.2.2.2.cell 1
      simp only [List.getElem?_cons_zero, List.getElem?_cons_succ] at q1 q2 q3
      repeat (go_big_quiet_step (fail))
      refine wpQuiet_nil ?_
      clear q1 q2 q3
      go_wp2_with fail
      refine (clone_47 a' u um c' W hfW HM.out hul0 (by omega)).mono ?_
      rintro e w2 ⟨gg, cp, rfl, hin2, hb2⟩
      have hK2 := hW.below hb2
      have hO2 := hOW.later hb2
      have hge : W.heap.size ≤ gg := (World.ownsRow.lt hin2 gg rfl).1
      have hsz2 := hb2.size
      have hzw := hW.1.size
      have hrl : ∀ r ∈ rs, r.2.2.1 < W.heap.size := fun r hr => (World.ownsRow.lt (hOW.inn r hr) r.2.2.1 rfl).2
      clear hW hOW hfW hb2
      go_wp2
      refine ⟨hold_of hK2, ?_⟩
      dsimp only
      repeat (go_big_quiet_step (fail))
      refine wpQuiet_nil ?_
      go_wp2
      have hK3 := hK2.below (below_box w2 (.cells #[.int .i64 f, .slice (some ⟨gg, 0, none⟩) um cp] 52))
      have hO3 := hO2.alloc (.cells #[.int .i64 f, .slice (some ⟨gg, 0, none⟩) um cp] 52)
      have hin3 := own_later hin2 (below_box w2 (.cells #[.int .i64 f, .slice (some ⟨gg, 0, none⟩) um cp] 52))
      refine ⟨hold_of hK3, ?_⟩
      refine wpList_append_k K22 rfl (.tmp 17) (.tmp 24) rfl _ _ _ rfl hO3.out _ 1 1 _ rfl (src_new w2 #[.int .i64 f, .slice (some ⟨gg, 0, none⟩) um cp] 52 2 1 1 rfl (by simp [Value.oneCell'])) ?c1 ?c2 ?_
      case c1 => rw [HLEN.out]; omega
      case c2 => exact hK3.1.size
      intro V4 w4 hown hgrow _
      have hK4 := hK3.grown hgrow hO3.out (Nat.le_refl _) hVX
      have hnew : w4.ownsRow w.heap.size 4 1 (.slice (some ⟨gg, 0, none⟩) um cp) um (u.map Value.bool) := (own_weaken hin3 hzw).kept hgrow (inner_ne_outer hin3 hO3.out (by decide))
      have hO4 : OwnC w4 w.heap.size V4 (rs ++ [(f, u, gg, cp)]) := by
        refine hO3.outer hgrow ?_ ?_ ?_
        · rw [List.length_append, cellsR_append]
          have e : cellsR [(f, u, gg, cp)] = [.int .i64 f, .slice (some ⟨gg, 0, none⟩) um cp] := by simp [cellsR, rv, HM.out]
          rw [e]; exact hown
        · intro r hr
          rcases List.mem_append.1 hr with hr | hr
          · exact .inl hr
          · rw [List.mem_singleton.1 hr]
            right
            show w4.ownsRow w.heap.size 4 1 (.slice (some ⟨gg, 0, none⟩) u.length cp) u.length (u.map Value.bool)
            rw [HM.out]; exact hnew
        · rw [List.map_append, List.nodup_append]
          refine ⟨hO3.nod, by simp, ?_⟩
          intro x hx y hy hxy
          simp at hy
          subst hy
          obtain ⟨r, hr, hrx⟩ := List.mem_map.1 hx
          have := hrl r hr
          omega
      obtain ⟨a4, c4, rfl, _, _, _, _⟩ := hO4.slabs (n := i + 1) (by rw [List.length_append, HLEN.out]; rfl)
      have hlen4 := Lib.hid (show (rs ++ [(f, u, gg, cp)]).map sl = l.take (i + 1) by rw [List.map_append]; exact HRS.out)
      clear hown hgrow hnew hO3 hK3 hin3 hin2 hO2 hK2
      refine wpList_nil ⟨hold_of hK4, ?_⟩
      simp only [Act.put, List.setIfInBounds_toArray, List.set_cons_succ, List.set_cons_zero]
      repeat (go_big_quiet_step (fail))
      refine wpQuiet_nil ?_
      have hB4 := hK4.2.2.2.1
      have d1 : w4.cell? ⟨w.heap.size + 1 + 1, 1, none⟩ = some (.slice aV i cV) := hB4.cell 1
      have d2 := hB4.frozen 1
      go_wp2
      refine ⟨trivial, NoPanic.normal ?_⟩
      go_wp2
      go_roundg g
      case rel =>
        refine ⟨i + 1, _, _, by have := HG.out; omega, by go_num, hlen4.out, hO4.far hB4 (by decide) (by decide) 1 _, hK4.1.setCell (by show w.heap.size ≤ w.heap.size + 1 + 1; omega) _, hK4.2.1.far (by show w.heap.size ≠ w.heap.size + 1 + 1; omega) _, hK4.2.2.1.far (by show w.heap.size + 1 ≠ w.heap.size + 1 + 1; omega) _, hB4.set 1 _⟩
      case measure => omega
end Go.Proofs.Ythhdiiboblaclaa
