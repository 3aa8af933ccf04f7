/- Walks: a copy of a cache, of the reference. -/
import Derived.Test.YthhdiiboblaclaaW13
namespace Go.Proofs.Ythhdiiboblaclaa
open Go.RowKit Go.Over Go.Slb Go.Seg Go.Grow
def KeepD (w0 : World) (o : Int) (a : Option Addr) (n c : Nat) (V : Value) (W : World) : Prop :=
  Below w0.heap.size w0 W ∧ Blk W w0.heap.size 24 [.int .i64 o, .slice a n c] ∧ Blk W (w0.heap.size + 1) 24 [.int .i64 0, .slice none 0 0] ∧ Blk W (w0.heap.size + 1 + 1) 24 [.int .i64 o, V]
theorem KeepD.below {w0 : World} {o : Int} {a : Option Addr} {n c : Nat} {V : Value} {W W' : World} (h : KeepD w0 o a n c V W) (hb : Below W.heap.size W W') : KeepD w0 o a n c V W' :=
  ⟨below_then h.1 hb, h.2.1.later hb, h.2.2.1.later hb, h.2.2.2.later hb⟩
theorem KeepD.grown {w0 : World} {o : Int} {a : Option Addr} {n c : Nat} {V U : Value} {W W' : World} {base m e size : Nat} {xs : List Value} (h : KeepD w0 o a n c V W) (hg : W.grownBy W' U.ownBlock) (ho : W.ownsRow base e size U m xs) (hb : w0.heap.size ≤ base) (he : e ≠ 24) : KeepD w0 o a n c V W' :=
  ⟨h.1.grown hg h.1.size (fun q hq => by have := (World.ownsRow.lt ho q hq).1; omega), h.2.1.grown hg (h.2.1.not_own ho he), h.2.2.1.grown hg (h.2.2.1.not_own ho he), h.2.2.2.grown hg (h.2.2.2.not_own ho he)⟩
theorem KeepD.cell {w0 : World} {o : Int} {a : Option Addr} {n c : Nat} {V : Value} {W : World} (h : KeepD w0 o a n c V W) : W.cell? ⟨w0.heap.size, 1, none⟩ = some (.slice a n c) ∧ W.cell? ⟨w0.heap.size + 1 + 1, 1, none⟩ = some V := ⟨h.2.1.cell 1, h.2.2.2.cell 1⟩
theorem append_some {P : Program} {t e : TypeId} {size bytes : Nat} (K : Kind P t e size bytes) {w : World} {base ty : Nat} {v : Value} {n : Nat} {xs : List Value} (hown : w.ownsRow base e size v n xs) (a : Addr) (m c : Nat) (news : List Value) (hl : news.length = m * size) (hnews : ∀ j u, news[j]? = some u → w.cell? (a.add j) = some u)
    (h1 : ∀ u ∈ news, u.oneCell' = true) (hs : n + m ≤ 1000000) {v' : Value} {w' : World} (hr : (Builtin.append_ #[t, t] ty #[v, .slice (some a) m c]).run P w = .ok v' w') (hv : v.ownBlock ≠ none) : v'.ownBlock ≠ none := by
  obtain ⟨i, z, ht, hi, hz, hz1, hz2, hzs, hsz, hby⟩ := K
  have hl' : news.length = m * i.size := by rw [hz1, hl]
  have hb : ∀ k, k ≤ 1000000 → k * i.bytes ≤ 1000000000 := fun k hk => by
    rw [hz2]; exact Nat.le_trans (Nat.mul_le_mul hk hby) (by decide)
  rcases hown.2 with ⟨rfl, rfl⟩ | ⟨g, cap, cur, rfl, hbg, hg, hnc, hcm, hcs, htake⟩
  · exact absurd rfl hv
  · by_cases hroom : n + m ≤ cap
    · have hfit : n * i.size + news.length ≤ cur.size := by
        rw [hl, hcs, hz1, ← Nat.add_mul]; exact Nat.mul_le_mul_right _ hroom
      have h2 := run_append_room (P := P) w t ty e i ht hi g n cap cur hg a m c news hl' hnews h1 hroom hfit
      rw [h2] at hr
      cases hr
      simp [Value.ownBlock]
    · have holds : ∀ j u, xs[j]? = some u → w.cell? ((⟨g, 0, none⟩ : Addr).add j) = some u := hown.cells (g := g) rfl
      have h2 := run_append_grow (P := P) w t ty e i _ ht hi hz ⟨g, 0, none⟩ n cap xs (by rw [hz1]; exact hown.1) holds a m c news hl' hnews (by omega) (by omega) (growslice_fits (by omega) (by have := hb (n + m) hs; omega))
      rw [h2] at hr
      cases hr
      simp [Value.ownBlock]
/-- The append of a row, where the result of an append to a row that is there is there. -/
theorem wpList_append_ks {P : Program} {t e : TypeId} {size bytes : Nat} (K : Kind P t e size bytes) {w : World} {ops : Array Oper} {rest : List Oper} {o : Oper} {a : Act} {Q : Exit → Act → World → Prop} {base : Nat} (hgd : o.guard = none) (s x : Operand)
    (ho : o.op = .call { callee := .builtin .append, args := #[s, x], argTypes := #[t, t] })
    (v : Value) (n : Nat) (l : List Value) (hs : a.eval s = v) (hown : w.ownsRow base e size v n l) (hv : v.ownBlock ≠ none)
    (ax : Option Addr) (m c : Nat) (news : List Value) (hx : a.eval x = .slice ax m c) (hsrc : Grow.Src w size ax m c news)
    (hlen : n + m ≤ 1000000) (hbase : base ≤ w.heap.size)
    (h : ∀ g cap w', w'.ownsRow base e size (.slice (some ⟨g, 0, none⟩) (n + m) cap) (n + m) (l ++ news) → w.grownBy w' v.ownBlock → wpList P ops Q rest (a.put o.dst (.slice (some ⟨g, 0, none⟩) (n + m) cap)) w') : wpList P ops Q (o :: rest) a w := by
  have K' := K
  obtain ⟨i, z, ht, hi, hz, hz1, hz2, hzs, hsz, hby⟩ := K'
  obtain ⟨hl, h1, hcase⟩ := hsrc
  have fin : ∀ v' w', w'.ownsRow base e size v' (n + m) (l ++ news) → w.grownBy w' v.ownBlock → v'.ownBlock ≠ none → wpList P ops Q rest (a.put o.dst v') w' := by
    intro v' w' h2 h3 h4
    rcases h2.2 with ⟨rfl, _⟩ | ⟨g, cap, cur, rfl, _⟩
    · exact absurd rfl h4
    · exact h g cap w' h2 h3
  refine wpList_plain hgd fun KK hK => ?_
  rcases hcase with ⟨rfl, rfl, rfl⟩ | ⟨ad, rfl, hnews⟩
  · have hn : news = [] := List.eq_nil_of_length_eq_zero (by rw [hl, Nat.zero_mul])
    subst hn
    have hr := run_append_owned_none (P := P) w base t o.type e i size ht hi v n l hown
    unfold Oper.wp execOp
    simp only [ho, resolve, invoke, builtin, Sem.run_bind, Sem.run_pure, Result.andThen_ok, List.map_toArray, List.map_cons, List.map_nil, hs, hx, hr]
    exact hK _ _ (fin v w (by simpa using hown) (World.grownBy.refl w _) hv)
  · have hb : (n + m) * bytes ≤ 1000000000 := Nat.le_trans (Nat.mul_le_mul hlen hby) (by decide)
    obtain ⟨v', w', hr, h2, h3, _⟩ := run_append_own (P := P) w base t o.type e i z size bytes ht hi hz hz1 hz2 hzs hsz v n _ hown ad m c news hl hnews h1 (by unfold maxLen; omega) (by omega) hbase
    have h4 := append_some K hown ad m c news hl hnews h1 hlen hr hv
    unfold Oper.wp execOp
    simp only [ho, resolve, invoke, builtin, Sem.run_bind, Sem.run_pure, Result.andThen_ok, List.map_toArray, List.map_cons, List.map_nil, hs, hx, hr]
    exact hK _ _ (fin v' w' h2 h3 h4)
set_option maxRecDepth 100000 in set_option maxHeartbeats 1600000 in
theorem own_32 (o : Int) (a : Option Addr) (l : List S) (n c : Nat) (w : World) (H : Slabs w a l) (hn : l.length = n) (hm : n ≤ 1000) (hl : ∀ s ∈ l, s.2.length ≤ 40) :
    Calls Try.prog 32 #[.agg #[.int .i64 o, .slice a n c]] w fun e w' => ∃ V rs, e = .returned (.agg #[.int .i64 o, V]) ∧ OwnC w' w.heap.size V rs ∧ rs.map sl = l ∧ Below w.heap.size w w' := by
  have HN := Lib.hid hn
  have HL := Lib.hid hl
  clear hn hl
  go_enter Try.func32, Try.ntmps32
  go_wp2
  go_loopg [4] n (fun g i0 wr => ∃ (i : Nat) (V : Value) (rs : List R), i + g = n ∧ i0 = .int .i64 i ∧ rs.map sl = l.take i ∧ OwnC wr w.heap.size V rs ∧ Below w.heap.size w wr ∧ Blk wr w.heap.size 24 [.int .i64 o, .slice a n c] ∧ Blk wr (w.heap.size + 1) 24 [.int .i64 0, .slice none 0 0] ∧ Blk wr (w.heap.size + 1 + 1) 24 [.int .i64 o, V])
  case atStart =>
    refine ⟨0, .slice none 0 0, [], by omega, rfl, rfl, OwnC.nil _ _, (by repeat (first | with_reducible exact Below.refl _ _ | with_reducible assumption | with_reducible refine below_alloc ?_ _ | with_reducible refine Below.drew ?_ | with_reducible refine below_drewN ?_ _ | with_reducible refine below_then ?_ (by with_reducible assumption))), ?_, ?_, ?_⟩
    · exact ((Blk.new w 24 _ _ rfl).alloc _).alloc _
    · have := (Blk.new (w.alloc (.cells #[.int .i64 o, .slice a n c] 24)) 24 #[.int .i64 0, .slice none 0 0] [.int .i64 0, .slice none 0 0] rfl).alloc (.cells #[.int .i64 o, .slice none 0 0] 24)
      simpa using this
    · have := Blk.new ((w.alloc (.cells #[.int .i64 o, .slice a n c] 24)).alloc (.cells #[.int .i64 0, .slice none 0 0] 24)) 24 #[.int .i64 o, .slice none 0 0] [.int .i64 o, .slice none 0 0] rfl
      simpa using this
  case round =>
    obtain ⟨i, V, rs, hg, rfl, hrs, hO, hb, hA, hC, hB⟩ := hrel
    have hlen : rs.length = i := by
      have := congrArg List.length hrs
      rw [List.length_map, List.length_take, HN.out] at this
      omega
    obtain ⟨aV, cV, rfl, _, _, _, _⟩ := hO.slabs hlen
    have HLEN := Lib.hid hlen; clear hlen
    cases gk with
    | zero =>
      obtain rfl : i = n := by omega
      have HR := Lib.hid (show rs.map sl = l by rw [hrs, List.take_of_length_le (by rw [HN.out]; exact Nat.le_refl _)])
      have c0 : wr.cell? ⟨w.heap.size + 1 + 1, 0, none⟩ = some (.int .i64 o) := hB.cell 0
      have c1 : wr.cell? ⟨w.heap.size + 1 + 1, 1, none⟩ = some (.slice aV i cV) := hB.cell 1
      have d0 : wr.cell? ⟨w.heap.size + 1, 0, none⟩ = some (.int .i64 0) := hC.cell 0
      have d1 : wr.cell? ⟨w.heap.size + 1, 1, none⟩ = some (.slice none 0 0) := hC.cell 1
      have f0 := hC.frozen 0
      have f1 := hC.frozen 1
      have a1 : wr.cell? ⟨w.heap.size, 1, none⟩ = some (.slice a i c) := hA.cell 1
      clear hg hrs
      go_wp2
      have hF := (hC.set 0 (.int .i64 o)).set 1 (.slice aV i cV)
      have hOF := (hO.far hC (by decide) (by decide) 0 (.int .i64 o)).far (hC.set 0 (.int .i64 o)) (by decide) (by decide) 1 (.slice aV i cV)
      refine bodyPost_ret (v := .agg #[.int .i64 o, .slice aV i cV]) (results_cell_row (p := 2) (ty := 24) rfl _ _ (w.heap.size + 1) 24 #[.int .i64 o, .slice aV i cV] (0, 0) _ rfl hF Try.underlying24 rfl (by kernel_rfl)) rfl ⟨_, rs, rfl, hOF, HR.out, ?_⟩
      exact (hb.setCell (by simp) _).setCell (by simp) _
    | succ g =>
      have hin : i < n := by omega
      obtain ⟨⟨f, u⟩, hs⟩ := get_some HN.out hin
      have hul := HL.out _ (List.mem_of_getElem? hs)
      have HRS := Lib.hid (show rs.map sl ++ [(f, u)] = l.take (i + 1) by rw [hrs, List.take_add_one, hs]; rfl)
      obtain ⟨b, off, rfl, hc⟩ := H (by rw [HN.out]; omega)
      obtain ⟨s0, a', c', s1, hc1, hc2, hc3, hf⟩ := hc i _ hs
      obtain ⟨um, hmm⟩ : ∃ m, u.length = m := ⟨_, rfl⟩
      simp only [hmm] at s0 s1 hc1 hul
      have S0 := Lib.hid s0; have S1 := Lib.hid s1
      have HM := Lib.hid hmm; have HG := Lib.hid hg
      have hK : KeepD w o (some ⟨b, off, none⟩) n c (.slice aV i cV) wr := ⟨hb, hA, hC, hB⟩
      have a1 := hK.cell.1
      clear hmm hg hs hc hrs s0 s1
      go_wp2
      clear a1 hA hC hB hb
      refine wp_region_in (KeepD w o (some ⟨b, off, none⟩) n c (.slice aV i cV)) [(true, 14), (false, 1), (false, 1), (true, 1), (false, 1), (false, 1), (true, 1), (false, 1)] [0, 1, 2, 3, 4, 5, 6, 7, 9, 10, 11, 12, 13, 14, 8, 15, 16, 17, 18, 19, 20] 20 (by kernel_rfl) (by kernel_rfl) (hK.below (Below.refl _ _).drew) ?_
      intro W hW hWe
      have hOW : OwnC W w.heap.size (.slice aV i cV) rs := by rw [hWe]; exact hO.later (Below.refl _ _).drew
      clear hWe hO hK
      simp only [wpSegsL, inOrder, List.filterMap_cons, List.filterMap_nil, List.getElem?_cons_zero, List.getElem?_cons_succ, List.take_succ_cons, List.take_zero, List.drop_succ_cons, List.drop_zero]
      have q0 := fun z => (hold_ok hW z).cell.1
      have q1 := fun z => (hold_ok hW z).cell.2
      have q2 := fun z => cell_later (hold_ok hW z).1 S0.out
      have q3 := fun z => cell_later (hold_ok hW z).1 S1.out
      repeat (go_big_quiet_step (fail))
      refine wpQuiet_nil ?_
      clear q0 q1 q2 q3
      go_wp2
      have hKa := hW.below (below_box W (.cells #[] 4))
      have hOa := hOW.alloc (.cells #[] 4)
      have hmade : (W.alloc (.cells #[] 4)).ownsRow W.heap.size 4 1 (.slice (some ⟨W.heap.size, 0, none⟩) 0 0) 0 [] := World.ownsRow_made W #[] 0 (Nat.le_refl _) (Nat.zero_le _) rfl
      have hzw := hW.1.size
      have hrl : ∀ r ∈ rs, r.2.2.1 < W.heap.size := fun r hr => (World.ownsRow.lt (hOW.inn r hr) r.2.2.1 rfl).2
      refine ⟨hold_of hKa, ?_⟩
      refine wpList_append_ks K50 rfl (.tmp 23) (.tmp 29) rfl (.slice (some ⟨W.heap.size, 0, none⟩) 0 0) 0 [] rfl hmade (by simp [Value.ownBlock]) _ um c' _ rfl (flags_src (hf.below hKa.1) HM.out (fun h => by have := hc3 h; omega)) ?c1 ?c2 ?_
      case c1 => omega
      case c2 => simp
      intro gg cp w2 hin2 hgi
      simp only [Nat.zero_add, List.nil_append] at hin2 ⊢
      have hK2 := hKa.grown hgi hmade hzw (by decide)
      have hO2 : OwnC w2 w.heap.size (.slice aV i cV) rs := ⟨hOa.out.kept hgi (inner_ne_outer hOa.out hmade (by decide)), fun r hr => (hOa.inn r hr).kept hgi (.inr (by
        have := hrl r hr
        simp [rv, Value.ownBlock]; omega)), hOa.nod⟩
      have hsz2 : W.heap.size < w2.heap.size := by have := hgi.size; simp at this; omega
      have hge : W.heap.size ≤ gg := (World.ownsRow.lt hin2 gg rfl).1
      clear hW hOW hf hKa hOa hmade hgi
      refine wpList_nil ⟨hold_of hK2, ?_⟩
      simp only [Act.put, List.setIfInBounds_toArray, List.set_cons_succ, List.set_cons_zero]
      repeat (go_big_quiet_step (fail))
      refine wpQuiet_nil ?_
      go_wp2
      have hK3 := hK2.below (below_box w2 (.cells #[.int .i64 f, .slice (some ⟨gg, 0, none⟩) um cp] 52))
      have hO3 := hO2.alloc (.cells #[.int .i64 f, .slice (some ⟨gg, 0, none⟩) um cp] 52)
      have hin3 := own_later hin2 (below_box w2 (.cells #[.int .i64 f, .slice (some ⟨gg, 0, none⟩) um cp] 52))
      refine ⟨hold_of hK3, ?_⟩
      refine wpList_append_k K22 rfl (.tmp 16) (.tmp 32) rfl _ _ _ rfl hO3.out _ 1 1 _ rfl (src_new w2 #[.int .i64 f, .slice (some ⟨gg, 0, none⟩) um cp] 52 2 1 1 rfl (by simp [Value.oneCell'])) ?c1 ?c2 ?_
      case c1 => rw [HLEN.out]; omega
      case c2 => exact hK3.1.size
      intro V4 w4 hown hgrow _
      have hK4 := hK3.grown hgrow hO3.out (Nat.le_refl _) (by decide)
      have hnew : w4.ownsRow w.heap.size 4 1 (.slice (some ⟨gg, 0, none⟩) um cp) um (u.map Value.bool) := (own_weaken hin3 hzw).kept hgrow (inner_ne_outer hin3 hO3.out (by decide))
      have hO4 : OwnC w4 w.heap.size V4 (rs ++ [(f, u, gg, cp)]) := by
        refine hO3.outer hgrow ?_ ?_ ?_
        · rw [List.length_append, cellsR_append]
          have e : cellsR [(f, u, gg, cp)] = [.int .i64 f, .slice (some ⟨gg, 0, none⟩) um cp] := by simp [cellsR, rv, HM.out]
          rw [e]; exact hown
        · intro r hr
          rcases List.mem_append.1 hr with hr | hr
          · exact .inl hr
          · rw [List.mem_singleton.1 hr]
            right
            show w4.ownsRow w.heap.size 4 1 (.slice (some ⟨gg, 0, none⟩) u.length cp) u.length (u.map Value.bool)
            rw [HM.out]; exact hnew
        · rw [List.map_append, List.nodup_append]
          refine ⟨hO3.nod, by simp, ?_⟩
          intro x hx y hy hxy
          simp at hy
          subst hy
          obtain ⟨r, hr, hrx⟩ := List.mem_map.1 hx
          have := hrl r hr
          omega
      obtain ⟨a4, c4, rfl, _, _, _, _⟩ := hO4.slabs (n := i + 1) (by rw [List.length_append, HLEN.out]; rfl)
      have hlen4 := Lib.hid (show (rs ++ [(f, u, gg, cp)]).map sl = l.take (i + 1) by rw [List.map_append]; exact HRS.out)
      clear hown hgrow hnew hO3 hK3 hin3 hin2 hO2 hK2
      refine wpList_nil ⟨hold_of hK4, ?_⟩
      simp only [Act.put, List.setIfInBounds_toArray, List.set_cons_succ, List.set_cons_zero]
      repeat (go_big_quiet_step (fail))
      refine wpQuiet_nil ?_
      have hB4 := hK4.2.2.2
      have d1 : w4.cell? ⟨w.heap.size + 1 + 1, 1, none⟩ = some (.slice aV i cV) := hB4.cell 1
      have d2 := hB4.frozen 1
      go_wp2
      refine ⟨trivial, NoPanic.normal ?_⟩
      go_wp2
      go_roundg g
      case rel =>
        refine ⟨i + 1, _, _, by have := HG.out; omega, by go_num, hlen4.out, hO4.far hB4 (by decide) (by decide) 1 _, hK4.1.setCell (by show w.heap.size ≤ w.heap.size + 1 + 1; omega) _, hK4.2.1.far (by show w.heap.size ≠ w.heap.size + 1 + 1; omega) _, hK4.2.2.1.far (by show w.heap.size + 1 ≠ w.heap.size + 1 + 1; omega) _, hB4.set 1 _⟩
      case measure => omega
end Go.Proofs.Ythhdiiboblaclaa
