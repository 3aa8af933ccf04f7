/- Walks: Free, of the reference. -/
import Derived.Test.YthhdiiboblaclaaW23
namespace Go.Proofs.Ythhdiiboblaclaa
open Go.RowKit Go.Over Go.Slb Go.Seg Go.Grow
theorem erase_put {α : Type} {l : List α} {i k : Nat} {r : α} (hr : l[i]? = some r) (h : i ≠ k) : (l.take (i + 1)).eraseIdx k = (l.take i).eraseIdx k ++ [r] := by
  have hlt : i < l.length := by rw [List.getElem?_eq_some_iff] at hr; exact hr.1
  have hl : (l.take i).length = i := by rw [List.length_take]; omega
  have e : l.take (i + 1) = l.take i ++ [r] := by rw [List.take_add_one, hr]; rfl
  rw [e]
  rcases Nat.lt_or_ge k i with hk | hk
  · rw [List.eraseIdx_append_of_lt_length (by omega)]
  · rw [List.eraseIdx_of_length_le (by rw [List.length_append, hl]; simp; omega), List.eraseIdx_of_length_le (by omega)]
theorem erase_skip {α : Type} {l : List α} {k : Nat} : (l.take (k + 1)).eraseIdx k = (l.take k).eraseIdx k := by
  rw [List.eraseIdx_eq_take_drop_succ, List.eraseIdx_of_length_le (l := l.take k) (by rw [List.length_take]; omega), List.drop_eq_nil_of_le (by rw [List.length_take]; omega), List.append_nil, List.take_take, Nat.min_eq_left (by omega)]
theorem erase_few {α : Type} {l : List α} {i k : Nat} : ((l.take i).eraseIdx k).length ≤ i := by
  have := (List.eraseIdx_sublist (l.take i) k).length_le
  rw [List.length_take] at this; omega
theorem OwnC.part {w : World} {base : Nat} {V V' : Value} {rs qs : List R} (h : OwnC w base V rs) (hs : qs.Sublist rs) (ho : w.ownsRow base 52 2 V' qs.length (cellsR qs)) : OwnC w base V' qs :=
  ⟨ho, fun r hr => h.inn r (hs.subset hr), (hs.map _).nodup h.nod⟩
set_option maxRecDepth 100000 in set_option maxHeartbeats 3200000 in
theorem free_23 (o : Int) (a : Option Addr) (l : List S) (n c : Nat) (x : Int) (w : World) (H : Slabs w a l) (hn : l.length = n) (hm : n ≤ 1000000) :
    Calls Try.prog 23 #[.agg #[.int .i64 o, .slice a n c], .int .i64 x] w (FreeAns w.heap.size o (freeP o l x) w) := by
  have HN := Lib.hid hn
  have hK0 := KeepR.start w o a n c
  obtain ⟨w1, hw1⟩ : ∃ W, W = ((w.alloc (.cells #[.int .i64 o, .slice a n c] 24)).alloc (.cells #[.int .i64 0, .slice none 0 0] 24)) := ⟨_, rfl⟩
  rw [← hw1] at hK0
  have hck := Lib.hid (check_17 o a l n c w1 (H.below hK0.1) hn hm)
  obtain ⟨R, hR⟩ : ∃ R, check o l = R := ⟨_, rfl⟩
  rw [hR] at hck
  have HR := Lib.hid hR; have HW := Lib.hid hw1
  clear hn hw1 hR
  go_enter Try.func23, Try.ntmps23
  go_wp2_with fail
  rw [← HW.out]
  clear HW
  refine (hck.out).mono ?_
  rintro e w2 ⟨rfl, hb2⟩
  have hK2 := hK0.below hb2
  clear hK0 hck hb2
  obtain ⟨k0, k1, k3, k4, k5, k6⟩ := hK2.cells
  by_cases hR0 : R = 0
  · subst hR0
    have hok := check_ok.1 HR.out
    have ho1 := hok.o1
    have ho2 := hok.o2
    have hli := Lib.hid (list_42 o a l n c true w2 (H.below hK2.1) HN.out (small_ok hok))
    go_wp2_with fail
    refine (hli.out).mono ?_
    rintro e w3 ⟨v, rfl, hI3, hb3⟩
    have hK3 := hK2.below hb3
    obtain ⟨L, hL⟩ : ∃ L, objs o true l = L := ⟨_, rfl⟩
    obtain ⟨nl, hnl⟩ : ∃ k, L.length = k := ⟨_, rfl⟩
    rw [hL] at hI3
    obtain ⟨aL, cL, rfl, hcL, hcm, _, hInt⟩ := hI3.ints hnl
    have HL := Lib.hid hL; have HNL := Lib.hid hnl
    unfold maxLen at hcm
    clear k0 k1 k3 k4 k5 k6 hli hb3 hK2 hL hnl hI3
    go_wp2
    go_loopg [9, 10] nl (fun g f0 i0 wr => ∃ (i : Nat), i + g = nl ∧ f0 = .bool ((L.take i).contains x) ∧ i0 = .int .i64 i ∧ Below w3.heap.size w3 wr)
    case atStart => exact ⟨0, by omega, by simp, rfl, Below.refl _ _⟩
    case round =>
      obtain ⟨i, hg, rfl, rfl, hbr⟩ := hrel
      cases gk with
      | succ g =>
        have hin : i < nl := by omega
        obtain ⟨b, off, rfl, hc⟩ := (hInt.below hbr) (by rw [HNL.out]; omega)
        have c0 := hc i (by rw [HNL.out]; exact hin)
        obtain ⟨y, hy⟩ : ∃ y, L.getD i 0 = y := ⟨_, rfl⟩
        rw [hy] at c0
        have hT := Lib.hid (show (L.take (i + 1)).contains x = ((L.take i).contains x || y == x) by
          have h1 : L[i]? = some y := by rw [← hy, List.getD_eq_getElem?_getD, List.getElem?_eq_getElem (by rw [HNL.out]; exact hin)]; rfl
          rw [List.take_add_one, h1]
          simp [Bool.beq_comm]
          rfl)
        have HGG := Lib.hid hg
        obtain ⟨fb, hfb⟩ : ∃ fb, (L.take i).contains x = fb := ⟨_, rfl⟩
        rw [hfb] at hT ⊢
        clear hc hy hfb hg
        cases fb with
        | true =>
          go_wp2
          go_roundg g
          case rel => exact ⟨i + 1, by have := HGG.out; omega, by rw [hT.out]; rfl, by go_num, hbr⟩
          case measure => omega
        | false =>
          go_wp2
          go_roundg g
          case rel => exact ⟨i + 1, by have := HGG.out; omega, by rw [hT.out]; simp, by go_num, hbr⟩
          case measure => omega
      | zero =>
        obtain rfl : i = nl := by omega
        obtain ⟨fb, hfb⟩ : ∃ fb, (L.take i).contains x = fb := ⟨_, rfl⟩
        rw [hfb]
        have HF := Lib.hid (show (x ∈ objs o true l) ↔ fb = true by
          rw [HL.out, ← hfb, List.take_of_length_le (by rw [HNL.out]; exact Nat.le_refl _)]
          simp)
        have hK4 := hK3.below hbr
        clear hg hfb hInt hK3 hbr
        obtain ⟨k0, k1, k3, k4, k5, k6⟩ := hK4.cells
        cases fb with
        | false =>
          go_wp2
          have hB := (hK4.2.2.set 0 (.int .i64 0)).set 1 (.slice none 0 0)
          refine bodyPost_ret (results_cell_two rfl _ _ (w.heap.size + 1) (.int .i64 0) (.slice none 0 0) (.int .i64 0) (.int .i64 6) rfl hB rfl rfl) rfl (free_err (freeP_none HR.out (by rw [HF.out]; simp)) (by decide) rfl ?_)
          exact (hK4.1.setCell (by simp) _).setCell (by simp) _
        | true =>
          have hmem : x ∈ objs o true l := HF.out.2 rfl
          obtain ⟨i1, s1, hi1, hs1, hx0, _⟩ := hok.slab hmem
          have hHF : hasF (x / o) l = true := by unfold hasF; rw [List.any_eq_true]; exact ⟨s1, List.mem_of_getElem? hi1, by simp [hs1]⟩
          obtain ⟨k, u, hl, _, hat0, hul, hjl, hjm, hq0, hq256, _⟩ := free_in hok hHF
          clear hi1 hs1 hHF
          obtain ⟨q, hq⟩ : ∃ q, x / o = q := ⟨_, rfl⟩
          obtain ⟨j, hj⟩ : ∃ j, (x % o).toNat = j := ⟨_, rfl⟩
          rw [hj] at hjl hjm
          rw [hq] at hl hat0 hq0 hq256
          have hqd : x.tdiv o = q := by rw [Int.tdiv_eq_ediv_of_nonneg (by omega)]; exact hq
          have hqm : x.tmod o = (j : Int) := by rw [Int.tmod_eq_emod_of_nonneg (by omega)]; exact hjm
          have hoz : (o == 0) = false := by simp; omega
          have hkn : k < n := by
            rw [List.getElem?_eq_some_iff] at hl
            have := hl.1; have := HN.out; omega
          obtain ⟨um, hum⟩ : ∃ m, u.length = m := ⟨_, rfl⟩
          rw [hum] at hul hjl
          have HME := Lib.hid hmem; have HLK := Lib.hid hl; have HAT := Lib.hid hat0; have HQ := Lib.hid hq; have HJ := Lib.hid hj; have HU := Lib.hid hum
          clear hmem hl hat0 hq hj hum hjm
          have how := Lib.hid (own_32 o a l n c wr (H.below hK4.1) HN.out (by have := ok_count hok; have := HN.out; omega) (fun s hs => by
            have h1 := hok.len s hs
            omega))
          go_wp2_with fail
          refine (how.out).mono ?_
          rintro e w5 ⟨V, rs, rfl, hO5, hrs, hb5⟩
          have hK5 := hK4.below hb5
          have hO5 := hO5.weaken hK4.1.size
          obtain ⟨aV, cV, rfl, _, _, _, _⟩ := hO5.slabs (n := n) (by have := congrArg List.length hrs; rw [List.length_map] at this; rw [this]; exact HN.out)
          clear k0 k1 k3 k4 k5 k6 how hb5 hK4
          have hK6 := hK5.below (below_box w5 (.cells #[.int .i64 o, .slice aV n cV] 24))
          have hO6 := hO5.alloc (.cells #[.int .i64 o, .slice aV n cV] 24)
          have hX6 := Blk.new w5 24 #[.int .i64 o, .slice aV n cV] [.int .i64 o, .slice aV n cV] rfl
          obtain ⟨w6, hw6⟩ : ∃ W, W = w5.alloc (.cells #[.int .i64 o, .slice aV n cV] 24) := ⟨_, rfl⟩
          rw [← hw6] at hK6 hO6 hX6
          have HX9 := Lib.hid (And.intro hK5.1.size hK5.2.2.lt)
          have HRS := Lib.hid hrs; have HW6 := Lib.hid hw6
          clear hO5 hK5 hrs hw6
          have hrk : ∃ g cg, rs[k]? = some (q, u, g, cg) := by
            have h := HLK.out
            rw [← HRS.out, List.getElem?_map] at h
            cases hr : rs[k]? with
            | none => rw [hr] at h; cases h
            | some r =>
              rw [hr] at h
              obtain ⟨f', u', g', c''⟩ := r
              simp only [Option.map_some, Option.some.injEq, sl, Prod.mk.injEq] at h
              obtain ⟨rfl, rfl⟩ := h
              exact ⟨g', c'', rfl⟩
          obtain ⟨g, cg, hr⟩ := hrk
          have HRK := Lib.hid hr
          obtain ⟨b2, off2, rfl, t0, t1⟩ := hO6.at hr
          obtain ⟨f0, f1, hg1, hg2⟩ := hO6.flag_at hr (j := j) (by rw [HU.out]; exact hjl)
          simp only at t0 t1
          rw [HU.out] at t1 hg1
          have hlr : rs.length = n := by have := congrArg List.length HRS.out; rw [List.length_map] at this; rw [this]; exact HN.out
          have HLR := Lib.hid hlr
          have k0 : w6.cell? ⟨w.heap.size, 0, none⟩ = some (.int .i64 o) := hK6.cells.1
          have x0 : w6.cell? ⟨w5.heap.size, 0, none⟩ = some (.int .i64 o) := hX6.cell 0
          have x1 : w6.cell? ⟨w5.heap.size, 1, none⟩ = some (.slice (some ⟨b2, off2, none⟩) n cV) := hX6.cell 1
          have hat := fun u => at_43 o (some ⟨b2, off2, none⟩) (rs.map sl) n cV q (over w6 u) (by obtain ⟨_, _, h1, _, _, _, h2⟩ := (hO6.later (below_over w6 u)).slabs HLR.out; cases h1; exact h2) (by rw [List.length_map]; exact HLR.out) hm
          rw [HRS.out, HAT.out] at hat
          clear hr hlr
          go_wp2_with fail
          rw [← HW6.out]
          refine wp_region_over (by kernel_rfl) (by kernel_rfl) ?_
          have q0 := fun u => over_cell k0 u
          have q1 := fun u => over_cell x0 u
          have q2 := fun u => over_cell x1 u
          repeat (go_big_quiet_step ((go_at_call 43; exact calls_over (hat _))))
          refine wpQuiet_nil ?_
          rintro _ ⟨u0, rfl⟩
          have hb7 := below_over w6 u0
          obtain ⟨w7, hw7⟩ : ∃ W, W = over w6 u0 := ⟨_, rfl⟩
          rw [← hw7] at hb7 ⊢
          have hK7 := hK6.below hb7
          have hX7 := hX6.later hb7
          have hO7 := hO6.later hb7
          have t1' := cell_later hb7 t1
          clear q0 q1 q2 hat hw7 hK6 hX6 hO6 HW6 k0 x0 x1 t0 t1 f0 f1 hb7
          have k0 : w7.cell? ⟨w.heap.size, 0, none⟩ = some (.int .i64 o) := hK7.cells.1
          have x1 : w7.cell? ⟨w5.heap.size, 1, none⟩ = some (.slice (some ⟨b2, off2, none⟩) n cV) := hX7.cell 1
          go_wp2
          refine wp_region_in (fun W => Below w7.heap.size w7 W) [(true, 11), (false, 1)] [0, 1, 2, 3, 4, 5, 6, 7, 8, 9, 10, 11] 11 (by kernel_rfl) (by kernel_rfl) (Below.refl _ _).drew ?_
          intro W hW hWe
          clear hWe
          simp only [wpSegsL, inOrder, List.filterMap_cons, List.filterMap_nil, List.getElem?_cons_zero, List.getElem?_cons_succ, List.take_succ_cons, List.take_zero, List.drop_succ_cons, List.drop_zero]
          have q0 := fun z => cell_later (hold_ok (S0 := fun W => Below w7.heap.size w7 W) hW z) k0
          have q1 := fun z => cell_later (hold_ok (S0 := fun W => Below w7.heap.size w7 W) hW z) x1
          have q2 := fun z => cell_later (hold_ok (S0 := fun W => Below w7.heap.size w7 W) hW z) t1'
          repeat (go_big_quiet_step (fail))
          refine wpQuiet_nil ?_
          clear q0 q1 q2 k0 x1 t1'
          have hK8 := hK7.below hW
          have hX8 := hX7.later hW
          have hO8 := hO7.later hW
          obtain ⟨f0, f1, _, _⟩ := hO8.flag_at HRK.out (j := j) (by rw [HU.out]; exact hjl)
          have hgm : g ∈ rs.map (·.2.2.1) := List.mem_map.2 ⟨_, List.mem_of_getElem? HRK.out, rfl⟩
          have hgl := hO8.gs_low g hgm
          have n1 : w.heap.size ≠ g := fun e => hO8.not_in hK8.2.1 (by decide) (e ▸ hgm)
          have n2 : w.heap.size + 1 ≠ g := fun e => hO8.not_in hK8.2.2 (by decide) (e ▸ hgm)
          have n3 : w5.heap.size ≠ g := fun e => hO8.not_in hX8 (by decide) (e ▸ hgm)
          have hK8 : KeepR w o a n c (W.setCell ⟨g, j, none⟩ (.bool false)) := ⟨hK8.1.setCell hgl _, hK8.2.1.far n1 _, hK8.2.2.far n2 _⟩
          have hX8 := hX8.far (p := ⟨g, j, none⟩) n3 (.bool false)
          have hO8 := hO8.flag HRK.out j false
          go_wp2
          refine ⟨trivial, NoPanic.normal ?_⟩
          obtain ⟨w8, hw8⟩ : ∃ W', W' = W.setCell ⟨g, j, none⟩ (.bool false) := ⟨_, rfl⟩
          rw [← hw8] at hK8 hX8 hO8 ⊢
          obtain ⟨rs8, hrs8⟩ : ∃ z, rs.set k (q, u.set j false, g, cg) = z := ⟨_, rfl⟩
          rw [hrs8] at hO8
          have hl8 : rs8.length = n := by rw [← hrs8, List.length_set]; exact HLR.out
          have hr8 : rs8[k]? = some (q, u.set j false, g, cg) := by rw [← hrs8, List.getElem?_set_self (by have := HLR.out; omega)]
          have HM8 := Lib.hid (show rs8.map sl = l.set k (q, u.set j false) by rw [← hrs8, List.map_set, HRS.out]; rfl)
          have HE8 := Lib.hid (show (rs8.eraseIdx k).map sl = l.eraseIdx k by rw [← hrs8, set_erase, ← HRS.out]; exact erase_map sl rs k)
          have hfa := hok.free_at (x := x) HLK.out (by rw [HQ.out])
          simp only at hfa
          rw [HJ.out] at hfa
          have hul8 : (u.set j false).length = um := by rw [List.length_set]; exact HU.out
          obtain ⟨cc, hcc⟩ : ∃ cc, cnt (u.set j false) = cc := ⟨_, rfl⟩
          have hfull : full (q, u.set j false) = true ↔ ¬ cc = 0 := by
            rw [← hcc, cnt_zero]
            show (u.set j false).contains true = true ↔ _
            cases (u.set j false).contains true <;> simp
          obtain ⟨_, _, hV1, t0, t1⟩ := hO8.at hr8
          cases hV1
          have hfl8 := flags_own (hO8.inn _ (List.mem_of_getElem? hr8)) rfl
          have hct := Lib.hid (used_34 q (some ⟨g, 0, none⟩) (u.set j false) um cg w8 hfl8 hul8 (by unfold maxLen; omega))
          rw [hcc] at hct
          simp only [hul8] at t1
          have HFA := Lib.hid hfa; have HO8 := Lib.hid hO8; have HR8 := Lib.hid hr8; have HL8 := Lib.hid hl8; have HFU := Lib.hid hfull
          have x0 : w8.cell? ⟨w5.heap.size, 0, none⟩ = some (.int .i64 o) := hX8.cell 0
          have x1 : w8.cell? ⟨w5.heap.size, 1, none⟩ = some (.slice (some ⟨b2, off2, none⟩) n cV) := hX8.cell 1
          obtain ⟨k0, k1, k3, k4, k5, k6⟩ := hK8.cells
          clear hw8 hK7 hX7 hO7 hW f0 f1 hrs8 hr8 hl8 hfa hfull hcc hul8 hfl8 n1 n2 n3 hgm
          go_wp2_with fail
          refine (hct.out).mono ?_
          rintro e w9 ⟨rfl, hb9⟩
          have hK9 := hK8.below hb9
          have hX9 := hX8.later hb9
          have hO9 := Lib.hid ((HO8.out).later hb9)
          have t0 := cell_later hb9 t0
          clear hct HO8 hK8 hX8 t1 k0 k1 k3 k4 k5 k6 x0 x1
          obtain ⟨k0, k1, k3, k4, k5, k6⟩ := hK9.cells
          have x0 : w9.cell? ⟨w5.heap.size, 0, none⟩ = some (.int .i64 o) := hX9.cell 0
          have x1 : w9.cell? ⟨w5.heap.size, 1, none⟩ = some (.slice (some ⟨b2, off2, none⟩) n cV) := hX9.cell 1
          by_cases hc0 : cc = 0
          · subst hc0
            have hXL := hX9.alloc (.cells #[.int .i64 o, .slice none 0 0] 24)
            have hKL := hK9.below (below_box w9 (.cells #[.int .i64 o, .slice none 0 0] 24))
            have hOL := (hO9.out).alloc (.cells #[.int .i64 o, .slice none 0 0] 24)
            have hZL := Blk.new w9 24 #[.int .i64 o, .slice none 0 0] [.int .i64 o, .slice none 0 0] rfl
            have HZ9 := Lib.hid (And.intro hX9.lt (And.intro hK9.1.size hK9.2.2.lt))
            have t0 := cell_later (below_box w9 (.cells #[.int .i64 o, .slice none 0 0] 24)) t0
            obtain ⟨wL, hwL⟩ : ∃ W, W = w9.alloc (.cells #[.int .i64 o, .slice none 0 0] 24) := ⟨_, rfl⟩
            rw [← hwL] at hXL hKL hOL hZL t0
            have HWL := Lib.hid hwL
            clear hwL hX9 hK9 hO9 x0 x1
            go_wp2
            rw [← HWL.out]
            clear HWL k0 k1 k3 k4 k5 k6
            have HOL := Lib.hid hOL
            have HT0 := Lib.hid t0
            clear hOL t0
            go_loopg [14] n (fun gq i0 wr => ∃ (i : Nat) (V2 : Value) (qs : List R), i + gq = n ∧ i0 = .int .i64 i ∧ qs = (rs8.take i).eraseIdx k ∧ wr.ownsRow wL.heap.size 52 2 V2 qs.length (cellsR qs) ∧ Only [w9.heap.size] wL wr ∧ Blk wr w9.heap.size 24 [.int .i64 o, V2])
            case atStart => exact ⟨0, _, [], by omega, rfl, by simp, World.ownsRow_nil _ _ _ _, Only.refl _ _, hZL⟩
            case round =>
              obtain ⟨i, V2, qs, hg, rfl, hqs, hq, hon, hZ⟩ := hrel
              have hZ9 := HZ9.out
              have hX := blk_only hXL hon (by simp; omega)
              have x1 : wr.cell? ⟨w5.heap.size, 1, none⟩ = some (.slice (some ⟨b2, off2, none⟩) n cV) := hX.cell 1
              have z1 : wr.cell? ⟨w9.heap.size, 1, none⟩ = some V2 := hZ.cell 1
              have z2 := hZ.frozen 1
              obtain ⟨a2, k2, rfl, _, _, _⟩ := own_form hq
              have hbX : b2 ∉ [w9.heap.size] := fun hm => by simp at hm; subst hm; exact hZL.not_own HOL.out.out (by decide) rfl
              have hbl : b2 < wL.heap.size := (World.ownsRow.lt HOL.out.out b2 rfl).2
              cases gk with
              | zero =>
                obtain rfl : i = n := by omega
                have hX9' := HX9.out
                have HQS := Lib.hid (show qs = rs8.eraseIdx k by rw [hqs, List.take_of_length_le (by rw [HL8.out]; exact Nat.le_refl _)])
                have hbw : Below w.heap.size wL wr := hon.below (by simp; omega) hKL.1.size
                have hKr : KeepR w o a i c wr := ⟨hKL.1.trans hbw, blk_only hKL.2.1 hon (by simp; omega), blk_only hKL.2.2 hon (by simp; omega)⟩
                have hOw : OwnC wr w.heap.size (.slice (some ⟨b2, off2, none⟩) i cV) rs8 := ⟨own_only1 HOL.out.out hon (fun k hk hm => by simp at hm; subst hm; exact hZL.not_own HOL.out.out (by decide) hk), fun r hr => own_only1 (HOL.out.inn r hr) hon (fun k hk hm => by simp at hm; subst hm; exact hZL.not_own (HOL.out.inn r hr) (by decide) hk), HOL.out.nod⟩
                have hOq : OwnC wr w.heap.size (.slice a2 qs.length k2) qs := hOw.part (by rw [HQS.out]; exact List.eraseIdx_sublist rs8 k) (own_weaken hq hKL.1.size)
                have t0 : wr.cell? ⟨b2, off2 + k * 2, none⟩ = some (.int .i64 q) := (hon.cell hbX hbl).trans HT0.out
                have hbR : b2 ∉ [w.heap.size + 1] := fun hm => by simp at hm; subst hm; exact hKr.2.2.not_own hOw.out (by decide) rfl
                have hbl2 : b2 < wr.heap.size := (World.ownsRow.lt hOw.out b2 rfl).2
                clear hg hqs hq hOw hbw
                go_wp2
                refine wp_region_in (fun W => Only [w.heap.size + 1] wr W) [(true, 7), (false, 1), (true, 2)] [0, 1, 2, 3, 4, 5, 6, 7, 8, 9] 99 (by kernel_rfl) (by kernel_rfl) ((Only.refl _ _).then (Below.refl _ _).drew) ?_
                intro W hW hWe
                have hOW : OwnC W w.heap.size (.slice a2 qs.length k2) qs := by rw [hWe]; exact hOq.later (Below.refl _ _).drew
                have hKW : KeepR w o a i c W := by rw [hWe]; exact hKr.below (Below.refl _ _).drew
                clear hWe
                simp only [wpSegsL, inOrder, List.filterMap_cons, List.filterMap_nil, List.getElem?_cons_zero, List.getElem?_cons_succ, List.take_succ_cons, List.take_zero, List.drop_succ_cons, List.drop_zero]
                have q0 := fun z => (blk_only hZ (hold_ok (S0 := fun W => Only [w.heap.size + 1] wr W) hW z) (by simp; omega)).cell 0
                have q1 := fun z => (blk_only hZ (hold_ok (S0 := fun W => Only [w.heap.size + 1] wr W) hW z) (by simp; omega)).cell 1
                have q2 := fun z => (blk_only hX (hold_ok (S0 := fun W => Only [w.heap.size + 1] wr W) hW z) (by simp; omega)).cell 1
                have q3 := fun z => ((hold_ok (S0 := fun W => Only [w.heap.size + 1] wr W) hW z).cell (p := ⟨b2, off2 + k * 2, none⟩) hbR hbl2).trans t0
                simp only [List.getElem?_cons_zero, List.getElem?_cons_succ] at q0 q1 q2
                repeat (go_big_quiet_step (fail))
                refine wpQuiet_nil ?_
                clear q0 q1 q2 q3 x1 z1 z2
                obtain ⟨_, _, d0, d1, d2, d3⟩ := hKW.cells
                go_wp2
                have hW9 : Only [w.heap.size + 1] wr ((W.setCell ⟨w.heap.size + 1, 0, none⟩ (.int .i64 o)).setCell ⟨w.heap.size + 1, 1, none⟩ (.slice a2 qs.length k2)) :=
                  (hW.grown (grown_set W _ 0 _) (fun k hk => by cases hk; exact .inr (by simp))).grown (grown_set _ _ 1 _) (fun k hk => by cases hk; exact .inr (by simp))
                refine ⟨hold_of hW9, ?_⟩
                dsimp only
                repeat (go_big_quiet_step (fail))
                refine wpQuiet_nil ?_
                refine NoPanic.normal ?_
                go_wp2
                have hF := (hKW.2.2.set 0 (.int .i64 o)).set 1 (.slice a2 qs.length k2)
                have hOF := (hOW.far hKW.2.2 (by decide) (by decide) 0 (.int .i64 o)).far (hKW.2.2.set 0 (.int .i64 o)) (by decide) (by decide) 1 (.slice a2 qs.length k2)
                refine bodyPost_ret (results_cell_two rfl _ _ (w.heap.size + 1) (.int .i64 o) (.slice a2 qs.length k2) (.int .i64 q) (.int .i64 0) rfl hF rfl rfl) rfl ?_
                have hfa := HFA.out
                have hfu : ¬ full (q, u.set j false) = true := by simpa using HFU.out
                rw [if_neg hfu, if_neg hfu] at hfa
                rw [freeP_ok HR.out HME.out, hfa.1, hfa.2]
                exact ⟨_, qs, rfl, hOF, by rw [HQS.out]; exact HE8.out, (hKW.1.setCell (by simp) _).setCell (by simp) _⟩
              | succ g2 =>
                have hin : i < n := by omega
                by_cases hik : i = k
                · have hi1 : ((i : Int) != (k : Int)) = false := by simp [hik]
                  have hi2 : ((i : Int) == (k : Int)) = true := by simp [hik]
                  go_wp2
                  go_roundg g2
                  case rel => exact ⟨i + 1, _, qs, by omega, by go_num, by rw [hqs, hik, erase_skip], hq, hon, hZ⟩
                  case measure => omega
                · have hi1 : ((i : Int) != (k : Int)) = true := by simp; omega
                  have hi2 : ((i : Int) == (k : Int)) = false := by simp; omega
                  obtain ⟨⟨y, u2, rg, rc⟩, hr⟩ := get_some HL8.out hin
                  obtain ⟨_, _, hV1, s0, s1⟩ := HOL.out.at hr
                  cases hV1
                  obtain ⟨um2, hum2⟩ : ∃ k, u2.length = k := ⟨_, rfl⟩
                  simp only [hum2] at s0 s1
                  have S0 := Lib.hid s0; have S1 := Lib.hid s1
                  have HQS := Lib.hid (show qs ++ [(y, u2, rg, rc)] = (rs8.take (i + 1)).eraseIdx k by rw [hqs, erase_put hr hik])
                  have HQL := Lib.hid (show qs.length ≤ 256 by have := erase_few (l := rs8) (i := i) (k := k); have := ok_count hok; have := HN.out; rw [← hqs] at *; omega)
                  have HU2 := Lib.hid hum2; have HG := Lib.hid hg; have HQB := Lib.hid hq
                  have hAL := hXL
                  clear hr hum2 hg hqs s0 s1
                  go_wp2
                  refine wp_region_in (KeepW wL w9.heap.size o (.slice a2 qs.length k2)) [(true, 7), (false, 1), (false, 1), (true, 1), (false, 1)] [0, 1, 2, 3, 4, 5, 6, 7, 8, 9, 10] 10 (by kernel_rfl) (by kernel_rfl) (KeepW.below ⟨hon, hZ⟩ (Below.refl _ _).drew) ?_
                  intro W hW hWe
                  have hQW : W.ownsRow wL.heap.size 52 2 (.slice a2 qs.length k2) qs.length (cellsR qs) := by rw [hWe]; exact own_later HQB.out (Below.refl _ _).drew
                  clear hWe
                  clear hon hZ hX x1 z1 z2 hq HQB
                  simp only [wpSegsL, inOrder, List.filterMap_cons, List.filterMap_nil, List.getElem?_cons_zero, List.getElem?_cons_succ, List.take_succ_cons, List.take_zero, List.drop_succ_cons, List.drop_zero]
                  have q0 := fun z => (hold_ok hW z).2.cell 1
                  have q1 := fun z => (blk_only hAL (hold_ok hW z).1 (by simp; omega)).cell 1
                  have q2 := fun z => ((hold_ok hW z).1.cell (p := ⟨b2, off2 + i * 2, none⟩) hbX hbl).trans S0.out
                  have q3 := fun z => ((hold_ok hW z).1.cell (p := ⟨b2, off2 + i * 2 + 1, none⟩) hbX hbl).trans S1.out
                  simp only [List.getElem?_cons_zero, List.getElem?_cons_succ] at q0 q1
                  repeat (go_big_quiet_step (fail))
                  refine wpQuiet_nil ?_
                  clear q0 q1 q2 q3
                  go_wp2
                  have hWa := hW.below (below_box W (.cells #[.int .i64 y, .slice (some ⟨rg, 0, none⟩) um2 rc] 52))
                  have hQa := own_later hQW (below_box W (.cells #[.int .i64 y, .slice (some ⟨rg, 0, none⟩) um2 rc] 52))
                  refine ⟨hold_of hWa, ?_⟩
                  refine wpList_append_k K22 rfl (.tmp 82) (.tmp 88) rfl _ _ _ rfl hQa _ 1 1 _ rfl (src_new W #[.int .i64 y, .slice (some ⟨rg, 0, none⟩) um2 rc] 52 2 1 1 rfl (by simp [Value.oneCell'])) ?c1 ?c2 ?_
                  case c1 => have := HQL.out; omega
                  case c2 => exact hWa.1.size
                  intro V6 w6 hown6 hg6 _
                  have hW6 := hWa.grown hg6 hQa
                  have hQ6 : w6.ownsRow wL.heap.size 52 2 V6 (qs ++ [(y, u2, rg, rc)]).length (cellsR (qs ++ [(y, u2, rg, rc)])) := by
                    have e : cellsR [(y, u2, rg, rc)] = [.int .i64 y, .slice (some ⟨rg, 0, none⟩) um2 rc] := by simp [cellsR, rv, HU2.out]
                    rw [List.length_append, cellsR_append, e]; exact hown6
                  obtain ⟨a6, k6, rfl, _, _, _⟩ := own_form hQ6
                  clear hW hQW hWa hQa hown6 hg6
                  refine wpList_nil ⟨hold_of hW6, ?_⟩
                  simp only [Act.put, List.setIfInBounds_toArray, List.set_cons_succ, List.set_cons_zero]
                  repeat (go_big_quiet_step (fail))
                  refine wpQuiet_nil ?_
                  have d1 : w6.cell? ⟨w9.heap.size, 1, none⟩ = some (.slice a2 qs.length k2) := hW6.2.cell 1
                  have d2 := hW6.2.frozen 1
                  have hB6 := hW6.2
                  go_wp2
                  refine ⟨trivial, NoPanic.normal ?_⟩
                  go_wp2
                  go_roundg g2
                  case rel =>
                    refine ⟨i + 1, _, _, by have := HG.out; omega, by go_num, HQS.out, own_far hQ6 hB6 (by decide) 1 _, hW6.1.grown (grown_set w6 _ 1 _) (fun k hk => by cases hk; exact .inr (by simp)), by simpa using hB6.set 1 (.slice a6 (qs.length + 1) k6)⟩
                  case measure => omega
          · have hcp : (0 : Int) < (cc : Int) := by omega
            have hfu := HFU.out.2 hc0
            go_wp2
            have hF := (hK9.2.2.set 0 (.int .i64 o)).set 1 (.slice (some ⟨b2, off2, none⟩) n cV)
            have hOF := ((hO9.out).far hK9.2.2 (by decide) (by decide) 0 (.int .i64 o)).far (hK9.2.2.set 0 (.int .i64 o)) (by decide) (by decide) 1 (.slice (some ⟨b2, off2, none⟩) n cV)
            refine bodyPost_ret (results_cell_two rfl _ _ (w.heap.size + 1) (.int .i64 o) (.slice (some ⟨b2, off2, none⟩) n cV) (.int .i64 (-1)) (.int .i64 0) rfl hF rfl rfl) rfl ?_
            have hfa := HFA.out
            rw [if_pos hfu, if_pos hfu] at hfa
            rw [freeP_ok HR.out HME.out, hfa.1, hfa.2]
            exact ⟨_, rs8, rfl, hOF, HM8.out, (hK9.1.setCell (by simp) _).setCell (by simp) _⟩
  · have t1 : (R == 0) = false := by simpa using hR0
    go_wp2
    have hB := (hK2.2.2.set 0 (.int .i64 0)).set 1 (.slice none 0 0)
    refine bodyPost_ret (results_cell_two rfl _ _ (w.heap.size + 1) (.int .i64 0) (.slice none 0 0) (.int .i64 0) (.int .i64 R) rfl hB rfl rfl) rfl (free_err (freeP_bad (by rw [HR.out]; exact hR0)) (by rw [HR.out]; exact hR0) (by rw [HR.out]) ?_)
    exact (hK2.1.setCell (by simp) _).setCell (by simp) _
end Go.Proofs.Ythhdiiboblaclaa
