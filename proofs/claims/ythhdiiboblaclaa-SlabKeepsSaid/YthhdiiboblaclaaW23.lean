/- Walks: Free, of the program. -/
import Derived.Test.YthhdiiboblaclaaW22
namespace Go.Proofs.Ythhdiiboblaclaa
open Go.RowKit Go.Over Go.Slb Go.Seg Go.Grow
theorem below_here {l : List S} {p q : Int} {k : Nat} {s : S} (ha : Asc p l) (hk : l[k]? = some s) (hs : s.1 = q) : below q l = k := by
  have hlt : k < l.length := by rw [List.getElem?_eq_some_iff] at hk; exact hk.1
  refine below_at (by omega) (fun i t hi ht => ?_) (fun i t hi ht => ?_)
  · rw [← hs]; exact asc_get ha ht hk hi
  · rcases Nat.lt_or_ge k i with h | h
    · rw [← hs]; exact Int.le_of_lt (asc_get ha hk ht h)
    · have e : i = k := by omega
      subst e
      rw [hk] at ht; cases ht
      omega
/-- What a release is: the error, the slabs, the frame. -/
def freeP (o : Int) (l : List S) (x : Int) : Int × List S × Int := if check o l ≠ 0 then (check o l, [], 0) else if x ∈ objs o true l then (0, freeL o l x, freeF o l x) else (6, [], 0)
theorem freeP_bad {o x : Int} {l : List S} (h : check o l ≠ 0) : freeP o l x = (check o l, [], 0) := by unfold freeP; rw [if_pos h]
theorem freeP_none {o x : Int} {l : List S} (h : check o l = 0) (hx : x ∉ objs o true l) : freeP o l x = (6, [], 0) := by unfold freeP; rw [if_neg (by simp [h]), if_neg hx]
theorem freeP_ok {o x : Int} {l : List S} (h : check o l = 0) (hx : x ∈ objs o true l) : freeP o l x = (0, freeL o l x, freeF o l x) := by unfold freeP; rw [if_neg (by simp [h]), if_pos hx]
theorem free_neg {o x : Int} {l : List S} (h : Ok o l) (hx : x < 0) : x ∉ objs o true l := fun hm => by
  obtain ⟨_, _, _, _, h0, _⟩ := h.slab hm
  omega
theorem free_nof {o x : Int} {l : List S} (h : Ok o l) (hx : hasF (x / o) l = false) : x ∉ objs o true l := fun hm => by
  obtain ⟨i, s, h1, h2, _, _⟩ := h.slab hm
  have : hasF (x / o) l = true := by unfold hasF; rw [List.any_eq_true]; exact ⟨s, List.mem_of_getElem? h1, by simp [h2]⟩
  rw [hx] at this; cases this
/-- Where an object of a slab that is there lies. -/
theorem free_in {o x : Int} {l : List S} (h : Ok o l) (hx : hasF (x / o) l = true) :
    ∃ k u, l[k]? = some (x / o, u) ∧ below (x / o) l = k ∧ atL (x / o) 0 l = ((k : Nat) : Int) ∧ (u.length : Int) = o ∧ (x % o).toNat < u.length ∧ x % o = ((x % o).toNat : Int) ∧ 0 ≤ x / o ∧ x / o < 256 ∧ (x ∈ objs o true l ↔ u.getD (x % o).toNat false = true) := by
  have ho1 := h.o1
  unfold hasF at hx
  rw [List.any_eq_true] at hx
  obtain ⟨s, hs, hsx⟩ := hx
  have hsx : s.1 = x / o := by simpa using hsx
  obtain ⟨k, hk⟩ := List.getElem?_of_mem hs
  obtain ⟨f, u⟩ := s
  simp only at hsx
  subst hsx
  have hmod0 := Int.emod_nonneg x (by omega : o ≠ 0)
  have hmod1 := Int.emod_lt_of_pos x (by omega : 0 < o)
  have hdm := Int.emod_add_mul_ediv x o
  have hul : (u.length : Int) = o := h.len (x / o, u) hs
  have hf := h.fr _ hs
  have hj : (x % o).toNat < u.length := by omega
  refine ⟨k, u, hk, below_here h.asc hk rfl, ?_, hul, hj, by omega, hf.1, hf.2, ?_⟩
  · have := atL_some (i := 0) h.asc hk rfl
    simpa using this
  · have h1 := flag_iff (b := true) h.asc h.len hs (i := (x % o).toNat) hj
    have e : x / o * o + (((x % o).toNat : Nat) : Int) = x := by rw [Int.mul_comm]; omega
    simp only at h1
    rw [e] at h1
    rw [h1, List.getD_eq_getElem?_getD, List.getElem?_eq_getElem hj]
    simp
/-- What a release and its reference give. -/
def FreeAns (base : Nat) (o : Int) (p : Int × List S × Int) (w : World) (e : Ending) (w' : World) : Prop :=
  ∃ V rs, e = .returned (.tuple #[.agg #[.int .i64 (if p.1 = 0 then o else 0), V], .int .i64 p.2.2, .int .i64 p.1]) ∧ OwnC w' base V rs ∧ rs.map sl = p.2.1 ∧ Below w.heap.size w w'
theorem free_err {base : Nat} {o r : Int} {p : Int × List S × Int} {w w' : World} {e : Ending} (hp : p = (r, [], 0)) (hr : r ≠ 0) (he : e = .returned (.tuple #[.agg #[.int .i64 0, .slice none 0 0], .int .i64 0, .int .i64 r])) (hb : Below w.heap.size w w') : FreeAns base o p w e w' := by
  subst hp
  refine ⟨.slice none 0 0, [], ?_, OwnC.nil _ _, rfl, hb⟩
  rw [he, if_neg hr]
theorem erase_cells (rs : List R) (k : Nat) : (cellsR rs).take (k * 2) ++ (cellsR rs).drop ((k + 1) * 2) = cellsR (rs.eraseIdx k) := by
  rw [cellsR_take, cellsR_drop, ← cellsR_append, List.eraseIdx_eq_take_drop_succ]
theorem OwnC.erase {w w' : World} {base : Nat} {V V' : Value} {rs : List R} {k : Nat} (h : OwnC w base V rs) (hg : w.grownBy w' V.ownBlock) (hk : k < rs.length) (ho : w'.ownsRow base 52 2 V' (rs.length - 1) ((cellsR rs).take (k * 2) ++ (cellsR rs).drop ((k + 1) * 2))) : OwnC w' base V' (rs.eraseIdx k) := by
  refine h.outer hg ?_ (fun r hr => .inl (List.mem_of_mem_eraseIdx hr)) ?_
  · rw [List.length_eraseIdx_of_lt hk, ← erase_cells]; exact ho
  · refine List.Sublist.nodup ?_ h.nod
    exact (List.eraseIdx_sublist rs k).map _
theorem set_erase {α : Type} (l : List α) (k : Nat) (x : α) : (l.set k x).eraseIdx k = l.eraseIdx k := by
  rw [List.eraseIdx_eq_take_drop_succ, List.eraseIdx_eq_take_drop_succ, List.take_set_of_le (Nat.le_refl _), List.drop_set_of_lt (Nat.lt_succ_self _)]
theorem erase_map {α β : Type} (f : α → β) (l : List α) (k : Nat) : (l.eraseIdx k).map f = (l.map f).eraseIdx k := by
  rw [List.eraseIdx_eq_take_drop_succ, List.eraseIdx_eq_take_drop_succ, List.map_append, List.map_take, List.map_drop]
set_option maxRecDepth 100000 in set_option maxHeartbeats 3200000 in
theorem free_22 (o : Int) (a : Option Addr) (l : List S) (n c : Nat) (x : Int) (w : World) (H : Slabs w a l) (hn : l.length = n) (hm : n ≤ 1000000) (hx1 : -9223372036854775808 ≤ x) (hx2 : x ≤ 9223372036854775807) :
    Calls Try.prog 22 #[.agg #[.int .i64 o, .slice a n c], .int .i64 x] w (FreeAns w.heap.size o (freeP o l x) w) := by
  have HN := Lib.hid hn
  have hK0 := KeepR.start w o a n c
  obtain ⟨w1, hw1⟩ : ∃ W, W = ((w.alloc (.cells #[.int .i64 o, .slice a n c] 24)).alloc (.cells #[.int .i64 0, .slice none 0 0] 24)) := ⟨_, rfl⟩
  rw [← hw1] at hK0
  have hck := Lib.hid (check_16 o a l n c w1 (H.below hK0.1) hn hm)
  obtain ⟨R, hR⟩ : ∃ R, check o l = R := ⟨_, rfl⟩
  rw [hR] at hck
  have HR := Lib.hid hR; have HW := Lib.hid hw1
  clear hn hw1 hR
  go_enter Try.func22, Try.ntmps22
  go_wp2_with fail
  rw [← HW.out]
  clear HW
  refine (hck.out).mono ?_
  rintro e w2 ⟨rfl, hb2⟩
  have hK2 := hK0.below hb2
  clear hK0 hck hb2
  obtain ⟨k0, k1, k3, k4, k5, k6⟩ := hK2.cells
  by_cases hR0 : R = 0
  · subst hR0
    have hok := check_ok.1 HR.out
    have ho1 := hok.o1
    have ho2 := hok.o2
    by_cases hx : x < 0
    · go_wp2
      have hB := (hK2.2.2.set 0 (.int .i64 0)).set 1 (.slice none 0 0)
      refine bodyPost_ret (results_cell_two rfl _ _ (w.heap.size + 1) (.int .i64 0) (.slice none 0 0) (.int .i64 0) (.int .i64 6) rfl hB rfl rfl) rfl (free_err (freeP_none HR.out (free_neg hok hx)) (by decide) rfl ?_)
      exact (hK2.1.setCell (by simp) _).setCell (by simp) _
    · obtain ⟨q, hq⟩ : ∃ q, x / o = q := ⟨_, rfl⟩
      have hq0 : 0 ≤ q := by rw [← hq]; exact Int.ediv_nonneg (by omega) (by omega)
      have hq1 : q ≤ 9223372036854775807 := by
        have := Int.ediv_le_self (a := x) o (by omega)
        omega
      have hqd : x.tdiv o = q := by rw [Int.tdiv_eq_ediv_of_nonneg (by omega)]; exact hq
      have hoz : (o == 0) = false := by simp; omega
      have hpl := fun u => place_36 o a l n c q (-1) (over w2 u) (H.below (below_then hK2.1 (below_over w2 u))) HN.out (by omega) hok.asc hok.fr hq0 hq1
      obtain ⟨K, hk⟩ : ∃ K, below q l = K := ⟨_, rfl⟩
      obtain ⟨T, hT⟩ : ∃ T, hasF q l = T := ⟨_, rfl⟩
      rw [hk, hT] at hpl
      have HK := Lib.hid hk; have HT := Lib.hid hT; have HQ := Lib.hid hq
      clear hk hT hq
      go_wp2_with fail
      refine wp_region_over (by kernel_rfl) (by kernel_rfl) ?_
      have q0 := fun u => over_cell k0 u
      have q1 := fun u => over_cell k1 u
      repeat (go_big_quiet_step ((go_at_call 36; exact calls_over (hpl _))))
      refine wpQuiet_nil ?_
      rintro _ ⟨u0, rfl⟩
      have hK3 := hK2.below (below_over w2 u0)
      obtain ⟨w3, hw3⟩ : ∃ W, W = over w2 u0 := ⟨_, rfl⟩
      rw [← hw3] at hK3 ⊢
      clear k0 k1 k3 k4 k5 k6 q0 q1 hpl hw3 hK2
      obtain ⟨k0, k1, k3, k4, k5, k6⟩ := hK3.cells
      cases T with
      | false =>
        go_wp2
        refine wp_region_over (by kernel_rfl) (by kernel_rfl) ?_
        repeat (go_big_quiet_step (fail))
        refine wpQuiet_nil ?_
        rintro _ ⟨u1, rfl⟩
        have hK4 := hK3.below (below_over w3 u1)
        clear k0 k1 k3 k4 k5 k6
        obtain ⟨k0, k1, k3, k4, k5, k6⟩ := hK4.cells
        go_wp2
        have hB := (hK4.2.2.set 0 (.int .i64 0)).set 1 (.slice none 0 0)
        refine bodyPost_ret (results_cell_two rfl _ _ (w.heap.size + 1) (.int .i64 0) (.slice none 0 0) (.int .i64 0) (.int .i64 6) rfl hB rfl rfl) rfl (free_err (freeP_none HR.out (free_nof hok (by rw [HQ.out]; exact HT.out))) (by decide) rfl ?_)
        exact (hK4.1.setCell (by simp) _).setCell (by simp) _
      | true =>
        obtain ⟨k, u, hl, hbl, _, hul, hjl, hjm, _, hq256, hmem⟩ := free_in hok (by rw [HQ.out]; exact HT.out)
        obtain ⟨j, hj⟩ : ∃ j, (x % o).toNat = j := ⟨_, rfl⟩
        rw [hj] at hjl hjm hmem
        rw [HQ.out] at hl hbl hq256
        obtain rfl : k = K := by rw [← hbl]; exact HK.out
        have hqm : x.tmod o = (j : Int) := by rw [Int.tmod_eq_emod_of_nonneg (by omega)]; exact hjm
        have hkn : k < n := by
          rw [List.getElem?_eq_some_iff] at hl
          have := hl.1; have := HN.out; omega
        obtain ⟨b, off, rfl, hc⟩ := (H.below hK3.1) (by rw [HN.out]; omega)
        obtain ⟨s0, a', c', s1, hc1, hc2, _, hfl⟩ := hc k _ hl
        obtain ⟨b', off', rfl, hff⟩ := hfl (by show 0 < u.length; omega)
        have f0 := hff j hjl
        simp only at s0 s1 hc1 f0
        obtain ⟨um, hum⟩ : ∃ m, u.length = m := ⟨_, rfl⟩
        obtain ⟨vv, hvv⟩ : ∃ v, u.getD j false = v := ⟨_, rfl⟩
        rw [hum] at s1 hc1 hul hjl
        rw [hvv] at f0 hmem
        have HL := Lib.hid hl; have HM := Lib.hid hmem; have HU := Lib.hid hum; have HJ := Lib.hid hj; have HV := Lib.hid hvv
        clear hc hff hfl hl hbl hmem hum hvv hj hjm
        go_wp2
        refine wp_region_over (by kernel_rfl) (by kernel_rfl) ?_
        have q0 := fun u => over_cell k0 u
        have q1 := fun u => over_cell k1 u
        have q2 := fun u => over_cell s1 u
        have q3 := fun u => over_cell f0 u
        repeat (go_big_quiet_step (fail))
        refine wpQuiet_nil ?_
        rintro _ ⟨u1, rfl⟩
        have hK4 := hK3.below (below_over w3 u1)
        obtain ⟨w4, hw4⟩ : ∃ W, W = over w3 u1 := ⟨_, rfl⟩
        rw [← hw4] at hK4 ⊢
        clear k0 k1 k3 k4 k5 k6 q0 q1 q2 q3 hw4 hK3 s0 s1 f0
        obtain ⟨k0, k1, k3, k4, k5, k6⟩ := hK4.cells
        cases vv with
        | false =>
          go_wp2
          have hB := (hK4.2.2.set 0 (.int .i64 0)).set 1 (.slice none 0 0)
          refine bodyPost_ret (results_cell_two rfl _ _ (w.heap.size + 1) (.int .i64 0) (.slice none 0 0) (.int .i64 0) (.int .i64 6) rfl hB rfl rfl) rfl (free_err (freeP_none HR.out (by rw [HM.out]; simp)) (by decide) rfl ?_)
          exact (hK4.1.setCell (by simp) _).setCell (by simp) _
        | true =>
          have hcl := Lib.hid (clone_35 o (some ⟨b, off, none⟩) l n c w4 (H.below hK4.1) HN.out (by have := ok_count hok; have := HN.out; omega) (fun s hs => by
            have h1 := hok.len s hs
            omega))
          go_wp2_with fail
          refine (hcl.out).mono ?_
          rintro e w5 ⟨V, rs, rfl, hO5, hrs, hb5⟩
          have hK5 := hK4.below hb5
          have hO5 := hO5.weaken hK4.1.size
          obtain ⟨aV, cV, rfl, _, _, _, _⟩ := hO5.slabs (n := n) (by have := congrArg List.length hrs; rw [List.length_map] at this; rw [this]; exact HN.out)
          clear k0 k1 k3 k4 k5 k6 hcl hb5 hK4
          have hK6 := hK5.below (below_box w5 (.cells #[.int .i64 o, .slice aV n cV] 24))
          have hO6 := hO5.alloc (.cells #[.int .i64 o, .slice aV n cV] 24)
          have hX6 := Blk.new w5 24 #[.int .i64 o, .slice aV n cV] [.int .i64 o, .slice aV n cV] rfl
          obtain ⟨w6, hw6⟩ : ∃ W, W = w5.alloc (.cells #[.int .i64 o, .slice aV n cV] 24) := ⟨_, rfl⟩
          rw [← hw6] at hK6 hO6 hX6
          have HX9 := Lib.hid (And.intro hK5.1.size hK5.2.2.lt)
          have HRS := Lib.hid hrs; have HW6 := Lib.hid hw6
          clear hO5 hK5 hrs hw6
          have hrk : ∃ g cg, rs[k]? = some (q, u, g, cg) := by
            have h := HL.out
            rw [← HRS.out, List.getElem?_map] at h
            cases hr : rs[k]? with
            | none => rw [hr] at h; cases h
            | some r =>
              rw [hr] at h
              obtain ⟨f', u', g', c''⟩ := r
              simp only [Option.map_some, Option.some.injEq, sl, Prod.mk.injEq] at h
              obtain ⟨rfl, rfl⟩ := h
              exact ⟨g', c'', rfl⟩
          obtain ⟨g, cg, hr⟩ := hrk
          have HRK := Lib.hid hr
          obtain ⟨b2, off2, rfl, t0, t1⟩ := hO6.at hr
          obtain ⟨f0, f1, hg1, hg2⟩ := hO6.flag_at hr (j := j) (by rw [HU.out]; exact hjl)
          simp only at t0 t1
          rw [HU.out] at t1 hg1
          have k0 : w6.cell? ⟨w.heap.size, 0, none⟩ = some (.int .i64 o) := hK6.cells.1
          have x1 : w6.cell? ⟨w5.heap.size, 1, none⟩ = some (.slice (some ⟨b2, off2, none⟩) n cV) := hX6.cell 1
          clear hr
          go_wp2_with fail
          rw [← HW6.out]
          refine wp_region_in (fun W => Below w6.heap.size w6 W) [(true, 11), (false, 1)] [0, 1, 2, 3, 4, 5, 6, 7, 8, 9, 10, 11] 11 (by kernel_rfl) (by kernel_rfl) (Below.refl _ _).drew ?_
          intro W hW hWe
          clear hWe
          simp only [wpSegsL, inOrder, List.filterMap_cons, List.filterMap_nil, List.getElem?_cons_zero, List.getElem?_cons_succ, List.take_succ_cons, List.take_zero, List.drop_succ_cons, List.drop_zero]
          have q0 := fun z => cell_later (hold_ok (S0 := fun W => Below w6.heap.size w6 W) hW z) k0
          have q1 := fun z => cell_later (hold_ok (S0 := fun W => Below w6.heap.size w6 W) hW z) x1
          have q2 := fun z => cell_later (hold_ok (S0 := fun W => Below w6.heap.size w6 W) hW z) t1
          repeat (go_big_quiet_step (fail))
          refine wpQuiet_nil ?_
          clear q0 q1 q2 k0 x1 t0 t1 f0 f1
          have hK7 := hK6.below hW
          have hX7 := hX6.later hW
          have hO7 := hO6.later hW
          obtain ⟨f0, f1, _, _⟩ := hO7.flag_at HRK.out (j := j) (by rw [HU.out]; exact hjl)
          have hgm : g ∈ rs.map (·.2.2.1) := List.mem_map.2 ⟨_, List.mem_of_getElem? HRK.out, rfl⟩
          have hgl := hO7.gs_low g hgm
          have n1 : w.heap.size ≠ g := fun e => hO7.not_in hK7.2.1 (by decide) (e ▸ hgm)
          have n2 : w.heap.size + 1 ≠ g := fun e => hO7.not_in hK7.2.2 (by decide) (e ▸ hgm)
          have n3 : w5.heap.size ≠ g := fun e => hO7.not_in hX7 (by decide) (e ▸ hgm)
          have hK8 : KeepR w o (some ⟨b, off, none⟩) n c (W.setCell ⟨g, j, none⟩ (.bool false)) := ⟨hK7.1.setCell hgl _, hK7.2.1.far n1 _, hK7.2.2.far n2 _⟩
          have hX8 := hX7.far (p := ⟨g, j, none⟩) n3 (.bool false)
          have hO8 := hO7.flag HRK.out j false
          go_wp2
          refine ⟨trivial, NoPanic.normal ?_⟩
          obtain ⟨w8, hw8⟩ : ∃ W', W' = W.setCell ⟨g, j, none⟩ (.bool false) := ⟨_, rfl⟩
          rw [← hw8] at hK8 hX8 hO8 ⊢
          obtain ⟨rs8, hrs8⟩ : ∃ z, rs.set k (q, u.set j false, g, cg) = z := ⟨_, rfl⟩
          rw [hrs8] at hO8
          have hlr : rs.length = n := by have := congrArg List.length HRS.out; rw [List.length_map] at this; rw [this]; exact HN.out
          have hl8 : rs8.length = n := by rw [← hrs8, List.length_set]; exact hlr
          have hr8 : rs8[k]? = some (q, u.set j false, g, cg) := by rw [← hrs8, List.getElem?_set_self (by omega)]
          have HM8 := Lib.hid (show rs8.map sl = l.set k (q, u.set j false) by rw [← hrs8, List.map_set, HRS.out]; rfl)
          have HE8 := Lib.hid (show (rs8.eraseIdx k).map sl = l.eraseIdx k by rw [← hrs8, set_erase, ← HRS.out]; exact erase_map sl rs k)
          have hfa := hok.free_at (x := x) HL.out (by rw [HQ.out])
          simp only at hfa
          rw [HJ.out] at hfa
          have hul8 : (u.set j false).length = um := by rw [List.length_set]; exact HU.out
          obtain ⟨bb, hbb⟩ : ∃ bb, (u.set j false).contains true = bb := ⟨_, rfl⟩
          have hfull : full (q, u.set j false) = bb := hbb
          rw [hfull] at hfa
          obtain ⟨_, _, hV1, t0, t1⟩ := hO8.at hr8
          cases hV1
          have hfl8 := flags_own (hO8.inn _ (List.mem_of_getElem? hr8)) rfl
          have hct := Lib.hid (contains_33 (some ⟨g, 0, none⟩) (u.set j false) um cg w8 hfl8 hul8 (by unfold maxLen; omega))
          rw [hbb] at hct
          simp only [hul8] at t1
          have HFA := Lib.hid hfa; have HO8 := Lib.hid hO8; have HR8 := Lib.hid hr8; have HL8 := Lib.hid hl8
          have x0 : w8.cell? ⟨w5.heap.size, 0, none⟩ = some (.int .i64 o) := hX8.cell 0
          have x1 : w8.cell? ⟨w5.heap.size, 1, none⟩ = some (.slice (some ⟨b2, off2, none⟩) n cV) := hX8.cell 1
          obtain ⟨k0, k1, k3, k4, k5, k6⟩ := hK8.cells
          clear hw8 hK6 hX6 hO6 hK7 hX7 hO7 hW f0 f1 hrs8 hr8 hl8 hlr hfa hfull hbb hul8 hfl8 n1 n2 n3 hgm HW6
          go_wp2_with fail
          refine (hct.out).mono ?_
          rintro e w9 ⟨rfl, rfl⟩
          cases bb with
          | true =>
            go_wp2
            have hX9' := HX9.out
            have hF := (hK8.2.2.set 0 (.int .i64 o)).set 1 (.slice (some ⟨b2, off2, none⟩) n cV)
            have hOF := ((HO8.out).far hK8.2.2 (by decide) (by decide) 0 (.int .i64 o)).far (hK8.2.2.set 0 (.int .i64 o)) (by decide) (by decide) 1 (.slice (some ⟨b2, off2, none⟩) n cV)
            refine bodyPost_ret (results_cell_two rfl _ _ (w.heap.size + 1) (.int .i64 o) (.slice (some ⟨b2, off2, none⟩) n cV) (.int .i64 (-1)) (.int .i64 0) rfl hF rfl rfl) rfl ?_
            rw [freeP_ok HR.out (HM.out.2 (by simp)), HFA.out.1, HFA.out.2]
            exact ⟨_, rs8, rfl, hOF, HM8.out, (hK8.1.setCell (by simp) _).setCell (by simp) _⟩
          | false =>
            have hdl := Lib.hid (delete_45 w.heap.size (.slice (some ⟨b2, off2, none⟩) n cV) n k (cellsR rs8) w8 (by have := HO8.out.out; rw [HL8.out] at this; exact this) (cellsR_one rs8) hkn (by have := ok_count hok; have := HN.out; omega))
            go_wp2_with fail
            refine (hdl.out).mono ?_
            rintro e w10 ⟨V10, rfl, hown, hgr, hvb⟩
            have hO10 := (HO8.out).erase hgr (by rw [HL8.out]; exact hkn) (by rw [HL8.out]; exact hown)
            have hK10 : KeepR w o (some ⟨b, off, none⟩) n c w10 := ⟨hK8.1.grown hgr hK8.1.size (fun z hz => (World.ownsRow.lt HO8.out.out z hz).1), hK8.2.1.grown hgr (hK8.2.1.not_own HO8.out.out (by decide)), hK8.2.2.grown hgr (hK8.2.2.not_own HO8.out.out (by decide))⟩
            have hX10 := hX8.grown hgr (hX8.not_own HO8.out.out (by decide))
            obtain ⟨a10, c10, rfl, _, _, _⟩ := own_form hown
            clear k0 k1 k3 k4 k5 k6 x0 x1 t0 t1 hK8 hX8 hdl hct HO8 hgr hvb hown
            have hX9' := HX9.out
            have x1 : w10.cell? ⟨w5.heap.size, 1, none⟩ = some (.slice (some ⟨b2, off2, none⟩) n cV) := hX10.cell 1
            have x2 := hX10.frozen 1
            have hK11 : KeepR w o (some ⟨b, off, none⟩) n c (w10.setCell ⟨w5.heap.size, 1, none⟩ (.slice a10 (n - 1) c10)) :=
              ⟨hK10.1.setCell (by exact hX9'.1) _, hK10.2.1.far (by show w.heap.size ≠ w5.heap.size; omega) _, hK10.2.2.far (by show w.heap.size + 1 ≠ w5.heap.size; omega) _⟩
            have hX11 := hX10.set 1 (.slice a10 (n - 1) c10)
            have hO11 := hO10.far hX10 (by decide) (by decide) 1 (.slice a10 (n - 1) c10)
            obtain ⟨k0, k1, k3, k4, k5, k6⟩ := hK11.cells
            have y0 : (w10.setCell ⟨w5.heap.size, 1, none⟩ (.slice a10 (n - 1) c10)).cell? ⟨w5.heap.size, 0, none⟩ = some (.int .i64 o) := hX11.cell 0
            have y1 : (w10.setCell ⟨w5.heap.size, 1, none⟩ (.slice a10 (n - 1) c10)).cell? ⟨w5.heap.size, 1, none⟩ = some (.slice a10 (n - 1) c10) := hX11.cell 1
            clear hK10
            go_wp2
            have hF := (hK11.2.2.set 0 (.int .i64 o)).set 1 (.slice a10 (n - 1) c10)
            have hOF := (hO11.far hK11.2.2 (by decide) (by decide) 0 (.int .i64 o)).far (hK11.2.2.set 0 (.int .i64 o)) (by decide) (by decide) 1 (.slice a10 (n - 1) c10)
            refine bodyPost_ret (results_cell_two rfl _ _ (w.heap.size + 1) (.int .i64 o) (.slice a10 (n - 1) c10) (.int .i64 q) (.int .i64 0) rfl hF rfl rfl) rfl ?_
            rw [freeP_ok HR.out (HM.out.2 (by simp)), HFA.out.1, HFA.out.2]
            exact ⟨_, rs8.eraseIdx k, rfl, hOF, HE8.out, (hK11.1.setCell (by simp) _).setCell (by simp) _⟩
  · have t1 : (R == 0) = false := by simpa using hR0
    go_wp2
    have hB := (hK2.2.2.set 0 (.int .i64 0)).set 1 (.slice none 0 0)
    refine bodyPost_ret (results_cell_two rfl _ _ (w.heap.size + 1) (.int .i64 0) (.slice none 0 0) (.int .i64 0) (.int .i64 R) rfl hB rfl rfl) rfl (free_err (freeP_bad (by rw [HR.out]; exact hR0)) (by rw [HR.out]; exact hR0) (by rw [HR.out]) ?_)
    exact (hK2.1.setCell (by simp) _).setCell (by simp) _
end Go.Proofs.Ythhdiiboblaclaa
