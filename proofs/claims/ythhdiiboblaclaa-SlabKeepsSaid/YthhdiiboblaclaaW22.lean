/- Walks: Alloc, of the reference. -/
import Derived.Test.YthhdiiboblaclaaW21
namespace Go.Proofs.Ythhdiiboblaclaa
open Go.RowKit Go.Over Go.Slb Go.Seg Go.Grow
/-- What the walk of the reference's Alloc keeps. -/
def KeepR (w0 : World) (o : Int) (a : Option Addr) (n c : Nat) (W : World) : Prop :=
  Below w0.heap.size w0 W ∧ Blk W w0.heap.size 24 [.int .i64 o, .slice a n c] ∧ Blk W (w0.heap.size + 1) 24 [.int .i64 0, .slice none 0 0]
theorem KeepR.below {w0 : World} {o : Int} {a : Option Addr} {n c : Nat} {W W' : World} (h : KeepR w0 o a n c W) (hb : Below W.heap.size W W') : KeepR w0 o a n c W' :=
  ⟨below_then h.1 hb, h.2.1.later hb, h.2.2.later hb⟩
theorem KeepR.start (w0 : World) (o : Int) (a : Option Addr) (n c : Nat) : KeepR w0 o a n c ((w0.alloc (.cells #[.int .i64 o, .slice a n c] 24)).alloc (.cells #[.int .i64 0, .slice none 0 0] 24)) := by
  refine ⟨(below_box w0 _).alloc (by simp) _, (Blk.new w0 24 _ _ rfl).alloc _, ?_⟩
  have := Blk.new (w0.alloc (.cells #[.int .i64 o, .slice a n c] 24)) 24 #[.int .i64 0, .slice none 0 0] [.int .i64 0, .slice none 0 0] rfl
  simpa using this
theorem KeepR.cells {w0 : World} {o : Int} {a : Option Addr} {n c : Nat} {W : World} (h : KeepR w0 o a n c W) :
    W.cell? ⟨w0.heap.size, 0, none⟩ = some (.int .i64 o) ∧ W.cell? ⟨w0.heap.size, 1, none⟩ = some (.slice a n c) ∧ W.cell? ⟨w0.heap.size + 1, 0, none⟩ = some (.int .i64 0) ∧ W.cell? ⟨w0.heap.size + 1, 1, none⟩ = some (.slice none 0 0) ∧ W.frozen? ⟨w0.heap.size + 1, 0, none⟩ = false ∧ W.frozen? ⟨w0.heap.size + 1, 1, none⟩ = false :=
  ⟨h.2.1.cell 0, h.2.1.cell 1, h.2.2.cell 0, h.2.2.cell 1, h.2.2.frozen 0, h.2.2.frozen 1⟩
theorem allocR_bad {o : Int} {l : List S} {n : Int} {F : List Int} (h : ¬ check o l = 0) : allocR o l n F = (check o l, [], []) := by unfold allocR; rw [if_pos h]
theorem allocR_arg {o : Int} {l : List S} {n : Int} {F : List Int} (h : check o l = 0) (h1 : n < 1 ∨ (F.length : Int) ≠ needL o l n) : allocR o l n F = (1, [], []) := by unfold allocR; rw [if_neg (by simp [h]), if_pos h1]
theorem allocR_add {o : Int} {l : List S} {n r : Int} {F : List Int} (h : check o l = 0) (h1 : ¬ (n < 1 ∨ (F.length : Int) ≠ needL o l n)) (hr : r ≠ 0) (h2 : addF o F l = (r, [])) : allocR o l n F = (r, [], []) := by
  unfold allocR; rw [if_neg (by simp [h]), if_neg h1, h2, if_pos hr]
theorem allocR_ok {o : Int} {l L : List S} {n : Int} {F : List Int} (h : check o l = 0) (h1 : ¬ (n < 1 ∨ (F.length : Int) ≠ needL o l n)) (h2 : addF o F l = (0, L)) :
    allocR o l n F = (0, marks o (took o l n.toNat F) L, took o l n.toNat F) := by
  unfold allocR; rw [if_neg (by simp [h]), if_neg h1, h2, if_neg (by simp)]
theorem own_take {w : World} {base e size n m g c : Nat} {xs : List Value} (h : w.ownsRow base e size (.slice (some ⟨g, 0, none⟩) n c) n xs) (hm : m ≤ n) : w.ownsRow base e size (.slice (some ⟨g, 0, none⟩) m c) m (xs.take (m * size)) := by
  have hms : m * size ≤ n * size := Nat.mul_le_mul_right _ hm
  refine ⟨by rw [List.length_take, h.1]; omega, ?_⟩
  rcases h.2 with ⟨h1, _⟩ | ⟨g', cap, cur, h1, hb, hg, h2, h3, h4, h5⟩
  · cases h1
  · cases h1
    refine .inr ⟨g, c, cur, rfl, hb, hg, by omega, h3, h4, ?_⟩
    rw [← h5, List.take_take, Nat.min_eq_left hms]
/-- Where a taken object is marked. -/
theorem mark_at {o : Int} {L : List S} {rsk : List R} {xs : List Int} {x : Int} (hL : Good o L) (ho : 1 ≤ o) (h : rsk.map sl = marks o xs L) (hs : ∃ s ∈ L, s.1 = x / o) :
    ∃ k u g c, rsk[k]? = some (x / o, u, g, c) ∧ atL (x / o) 0 (rsk.map sl) = ((k : Nat) : Int) ∧ (u.length : Int) = o ∧ (x % o).toNat < u.length ∧ 0 ≤ x ∧ x % o = ((x % o).toNat : Int) ∧ 0 ≤ x / o ∧ x / o < 256 ∧ (rsk.set k (x / o, u.set (x % o).toNat true, g, c)).map sl = marks o (xs ++ [x]) L := by
  obtain ⟨s, hs, hsx⟩ := hs
  have hf : (rsk.map sl).map (·.1) = L.map (·.1) := by rw [h, marks_fst]
  have hm : x / o ∈ (rsk.map sl).map (·.1) := by rw [hf, ← hsx]; exact List.mem_map.2 ⟨s, hs, rfl⟩
  obtain ⟨k, hk⟩ := List.getElem?_of_mem hm
  rw [List.map_map, List.getElem?_map] at hk
  cases hr : rsk[k]? with
  | none => rw [hr] at hk; cases hk
  | some r =>
    rw [hr] at hk
    obtain ⟨f, u, g, c⟩ := r
    have hfx : f = x / o := by simpa [sl] using hk
    subst hfx
    have hkl : (rsk.map sl)[k]? = some (x / o, u) := by rw [List.getElem?_map, hr]; rfl
    have hasc : Asc (-1) (rsk.map sl) := asc_of_map hL.asc hf.symm
    have hlen : ∀ s ∈ rsk.map sl, (s.2.length : Int) = o := by rw [h]; exact marks_len hL.len
    have hul : (u.length : Int) = o := hlen (x / o, u) (List.mem_of_getElem? hkl)
    have hmod0 := Int.emod_nonneg x (by omega : o ≠ 0)
    have hmod1 := Int.emod_lt_of_pos x (by omega : 0 < o)
    have hdm := Int.emod_add_mul_ediv x o
    have hf0 := hL.fr s hs
    rw [hsx] at hf0
    have hx0 : 0 ≤ x := by have := Int.mul_nonneg (show 0 ≤ o by omega) hf0.1; omega
    refine ⟨k, u, g, c, hr, ?_, hul, by omega, hx0, by omega, hf0.1, hf0.2, ?_⟩
    · have := atL_some (i := 0) hasc hkl rfl
      simpa using this
    · have e : marks o (xs ++ [x]) L = setO o true x (rsk.map sl) := by rw [h]; simp [marks]
      rw [e, setO_nth hasc hkl rfl, List.map_set]; rfl
/-- What the operations of the last region keep. -/
def KeepZ (w0 : World) (o : Int) (X : Nat) (V : Value) (W : World) : Prop := Below w0.heap.size w0 W ∧ Blk W X 24 [.int .i64 o, V]
theorem KeepZ.below {w0 : World} {o : Int} {X : Nat} {V : Value} {W W' : World} (h : KeepZ w0 o X V W) (hb : Below W.heap.size W W') : KeepZ w0 o X V W' := ⟨below_then h.1 hb, h.2.later hb⟩
set_option maxRecDepth 100000 in set_option maxHeartbeats 3200000 in
theorem alloc_20 (o : Int) (a : Option Addr) (l : List S) (n c : Nat) (N : Int) (fa : Option Addr) (F : List Int) (fm fc : Nat) (w : World) (H : Slabs w a l) (hn : l.length = n) (hm : n ≤ 1000000) (hN1 : -9223372036854775808 ≤ N) (hN2 : N ≤ 9223372036854775807) (HF : Ints w fa F) (hfm : F.length = fm) (hf1 : fm ≤ 1000) :
    Calls Try.prog 20 #[.agg #[.int .i64 o, .slice a n c], .int .i64 N, .slice fa fm fc] w (AllocAns w.heap.size o (allocR o l N F) w) := by
  have HN := Lib.hid hn; have HFM := Lib.hid hfm
  have hK0 := KeepR.start w o a n c
  obtain ⟨w1, hw1⟩ : ∃ W, W = ((w.alloc (.cells #[.int .i64 o, .slice a n c] 24)).alloc (.cells #[.int .i64 0, .slice none 0 0] 24)) := ⟨_, rfl⟩
  rw [← hw1] at hK0
  have hck := Lib.hid (check_17 o a l n c w1 (H.below hK0.1) hn hm)
  obtain ⟨R, hR⟩ : ∃ R, check o l = R := ⟨_, rfl⟩
  rw [hR] at hck
  have HR := Lib.hid hR; have HW := Lib.hid hw1
  clear hn hfm hw1 hR
  go_enter Try.func20, Try.ntmps20
  go_wp2_with fail
  rw [← HW.out]
  clear HW
  refine (hck.out).mono ?_
  rintro e w2 ⟨rfl, hb2⟩
  have hK2 := hK0.below hb2
  clear hK0 hck hb2
  obtain ⟨k0, k1, k3, k4, k5, k6⟩ := hK2.cells
  by_cases hR0 : R = 0
  · subst hR0
    have hok := check_ok.1 HR.out
    have ho1 := hok.o1
    have ho2 := hok.o2
    by_cases hN : N < 1
    · go_wp2
      have hB := (hK2.2.2.set 0 (.int .i64 0)).set 1 (.slice none 0 0)
      refine bodyPost_ret (results_cell_two rfl _ _ (w.heap.size + 1) (.int .i64 0) (.slice none 0 0) (.slice none 0 0) (.int .i64 1) rfl hB rfl rfl) rfl (ans_err (allocR_arg HR.out (.inl hN)) (by decide) rfl ?_)
      exact (hK2.1.setCell (by simp) _).setCell (by simp) _
    · have hnd := Lib.hid (need_25 o a l n c N w2 (H.below hK2.1) HN.out hm hN1 hN2)
      obtain ⟨ND, hND⟩ : ∃ v, needL o l N = v := ⟨_, rfl⟩
      rw [hND] at hnd
      have HNE := Lib.hid hND
      have hN' : decide (N < 1) = false := by simpa using hN
      clear hND
      go_wp2_with fail
      refine (hnd.out).mono ?_
      rintro e w3 ⟨rfl, hb3⟩
      have hK3 := hK2.below hb3
      clear k0 k1 k3 k4 k5 k6 hnd hb3 hK2
      obtain ⟨k0, k1, k3, k4, k5, k6⟩ := hK3.cells
      by_cases hfn : (fm : Int) = ND
      · have t2 : ((fm : Int) != ND) = false := by simpa using hfn
        have HArg := Lib.hid (show ¬ (N < 1 ∨ (F.length : Int) ≠ needL o l N) by rw [HFM.out, HNE.out]; omega)
        have HFN := Lib.hid hfn
        clear hfn
        have hli := Lib.hid (list_42 o a l n c false w3 (H.below hK3.1) HN.out (small_ok hok))
        clear t2
        have t2 : ((fm : Int) != ND) = false := by have := HFN.out; simpa using this
        go_wp2_with fail
        refine (hli.out).mono ?_
        rintro e w4 ⟨v1, rfl, hI4, hb4⟩
        have hK4 := hK3.below hb4
        have hI4 := own_weaken hI4 hK3.1.size
        clear k0 k1 k3 k4 k5 k6 hli hb4 hK3
        obtain ⟨k0, k1, k3, k4, k5, k6⟩ := hK4.cells
        have how := Lib.hid (own_32 o a l n c w4 (H.below hK4.1) HN.out (by have := ok_count hok; have := HN.out; omega) (fun s hs => by have := hok.len s hs; omega))
        go_wp2_with fail
        refine (how.out).mono ?_
        rintro e w5 ⟨V, rs, rfl, hO5, hrs, hb5⟩
        have hK5 := hK4.below hb5
        have hI5 := own_later hI4 hb5
        have hO5 := hO5.weaken hK4.1.size
        obtain ⟨aV, cV, rfl, _, _, _, _⟩ := hO5.slabs (n := n) (by have := congrArg List.length hrs; rw [List.length_map] at this; rw [this]; exact HN.out)
        clear k0 k1 k3 k4 k5 k6 how hb5 hK4 hI4
        have hK6 := hK5.below (below_box w5 (.cells #[.int .i64 o, .slice aV n cV] 24))
        have hO6 := hO5.alloc (.cells #[.int .i64 o, .slice aV n cV] 24)
        have hI6 := own_later hI5 (below_box w5 (.cells #[.int .i64 o, .slice aV n cV] 24))
        have hX6 := Blk.new w5 24 #[.int .i64 o, .slice aV n cV] [.int .i64 o, .slice aV n cV] rfl
        have hK7 := hK6.below (below_box _ (.cells #[.int .i64 o, .slice none 0 0] 24))
        have hO7 := hO6.alloc (.cells #[.int .i64 o, .slice none 0 0] 24)
        have hI7 := own_later hI6 (below_box _ (.cells #[.int .i64 o, .slice none 0 0] 24))
        have hX7 := hX6.alloc (.cells #[.int .i64 o, .slice none 0 0] 24)
        have hY7 := Blk.new (w5.alloc (.cells #[.int .i64 o, .slice aV n cV] 24)) 24 #[.int .i64 o, .slice none 0 0] [.int .i64 o, .slice none 0 0] rfl
        have hY7 : Blk ((w5.alloc (.cells #[.int .i64 o, .slice aV n cV] 24)).alloc (.cells #[.int .i64 o, .slice none 0 0] 24)) (w5.heap.size + 1) 24 [.int .i64 o, .slice none 0 0] := by simpa using hY7
        have k0 : (w5.alloc (.cells #[.int .i64 o, .slice aV n cV] 24)).cell? ⟨w.heap.size, 0, none⟩ = some (.int .i64 o) := hK6.cells.1
        have hX9 := Lib.hid (And.intro hK5.1.size hK5.2.2.lt)
        have HRS := Lib.hid hrs
        have h0 := Lib.hid (show Good o (rs.map sl) by rw [hrs]; exact ⟨hok.asc, hok.fr, hok.len⟩)
        obtain ⟨w7, hw7⟩ : ∃ W, W = ((w5.alloc (.cells #[.int .i64 o, .slice aV n cV] 24)).alloc (.cells #[.int .i64 o, .slice none 0 0] 24)) := ⟨_, rfl⟩
        rw [← hw7] at hK7 hO7 hI7 hX7 hY7
        have HW7 := Lib.hid hw7
        clear hw7 hrs hO5 hK5 hI5 hO6 hK6 hI6 hX6
        go_wp2_with fail
        rw [← HW7.out]
        clear HW7 k0
        obtain ⟨m, hmo⟩ : ∃ m : Nat, o = (m : Int) := ⟨o.toNat, by omega⟩
        have HMO := Lib.hid hmo
        clear hmo
        clear hI4 hO5
        go_loopg [13] fm (fun g i0 wr => ∃ (i : Nat) (V Vf : Value) (rs2 rsf : List R), i + g = fm ∧ i0 = .int .i64 i ∧ KeepR w o a n c wr ∧ Blk wr w5.heap.size 24 [.int .i64 o, V] ∧ Blk wr (w5.heap.size + 1) 24 [.int .i64 o, Vf] ∧ OwnC wr w.heap.size V rs2 ∧ OwnC wr w.heap.size Vf rsf ∧ OwnI wr w.heap.size v1 (objs o false l) ∧ Good o (rs2.map sl) ∧ addF o F l = addF o (F.drop i) (rs2.map sl) ∧ rsf.map sl = (F.take i).foldl (fun a f => ins (Slb.fresh o f) a) [] ∧ rsf.length = i)
        case atStart => exact ⟨0, _, _, rs, [], by omega, rfl, hK7, hX7, hY7, hO7, OwnC.nil _ _, hI7, h0.out, by rw [HRS.out]; rfl, rfl, rfl⟩
        case round =>
          clear hK7 hX7 hY7 hO7 hI7
          obtain ⟨i, V, Vf, rs2, rsf, hg, rfl, hK, hX, hY, hO, hOf, hI, hG, hA, hff, hfl⟩ := hrel
          obtain ⟨aV, cV, rfl, _, _, _, hSl⟩ := hO.slabs rfl
          obtain ⟨aW, cW, rfl, _, _, _, _⟩ := hOf.slabs hfl
          have HG := Lib.hid hG; have HA := Lib.hid hA; have HFF := Lib.hid hff; have HFL := Lib.hid hfl
          clear hG hA hff hfl
          obtain ⟨k0, k1, k3, k4, k5, k6⟩ := hK.cells
          have x0 : wr.cell? ⟨w5.heap.size, 0, none⟩ = some (.int .i64 o) := hX.cell 0
          have x1 : wr.cell? ⟨w5.heap.size, 1, none⟩ = some (.slice aV rs2.length cV) := hX.cell 1
          cases gk with
          | zero =>
            obtain rfl : i = fm := by omega
            have HADD := Lib.hid (show addF o F l = (0, rs2.map sl) by rw [HA.out, List.drop_eq_nil_of_le (by rw [HFM.out]; exact Nat.le_refl _)]; rfl)
            have hnews : rsf.map sl = news o F := by rw [HFF.out, List.take_of_length_le (by rw [HFM.out]; exact Nat.le_refl _)]; rfl
            have HD := Lib.hid (show Done o l N F from ⟨hok, by omega, by have h3 := HArg.out; omega, by rw [HADD.out]⟩)
            have HLEN := Lib.hid HD.out.took_len
            have hgn : ∀ s ∈ news o F, 0 ≤ s.1 ∧ s.1 < 256 := by
              intro s hs
              have h1 := HD.out.add_ok
              rw [← h1.2.2.2.1] at hs
              exact h1.2.1 s (List.mem_filter.1 hs).1
            have hln : ∀ s ∈ news o F, s.2.length ≤ 40 := by
              intro s hs
              rcases (news_mem F [] s).1 hs with hs | ⟨f, _, rfl⟩
              · simp at hs
              · simp [Slb.fresh]; omega
            have hlf := Lib.hid (list_42 o aW (rsf.map sl) i cW false wr (by obtain ⟨a', c', h1, _, _, _, h2⟩ := hOf.slabs HFL.out; cases h1; exact h2) (by rw [List.length_map]; exact HFL.out) ⟨by omega, ho2, by rw [List.length_map, HFL.out]; omega, by rw [hnews]; exact hgn, by rw [hnews]; exact hln⟩)
            rw [hnews] at hlf
            have y0 : wr.cell? ⟨w5.heap.size + 1, 0, none⟩ = some (.int .i64 o) := hY.cell 0
            have y1 : wr.cell? ⟨w5.heap.size + 1, 1, none⟩ = some (.slice aW i cW) := hY.cell 1
            clear hg hgn hln hnews
            go_wp2_with fail
            refine (hlf.out).mono ?_
            rintro e w6 ⟨v2, rfl, hI6, hb6⟩
            have hK6 := hK.below hb6
            have hX6 := hX.later hb6
            have hO6 := hO.later hb6
            have hI1 := own_later hI hb6
            obtain ⟨l1, hl1⟩ : ∃ x, (objs o false l).length = x := ⟨_, rfl⟩
            obtain ⟨l2, hl2⟩ : ∃ x, (objs o false (news o F)).length = x := ⟨_, rfl⟩
            have hI1 : w6.ownsRow w.heap.size 3 1 v1 l1 ((objs o false l).map (Value.int .i64)) := by unfold OwnI at hI1; rw [hl1] at hI1; exact hI1
            obtain ⟨a1, c1, rfl, _, _, _⟩ := own_form hI1
            obtain ⟨a2, c2, rfl, hnc2, _, hz2, hInt2⟩ := hI6.ints hl2
            have hsrc2 := Lib.hid (ints_src (c := c2) hInt2 hl2 (fun h => by have := hz2 h; omega))
            obtain ⟨M, hM⟩ : ∃ M : Nat, (M : Int) = N := ⟨N.toNat, by omega⟩
            have hMN : N.toNat = M := by omega
            subst hM
            have hMl : M ≤ l1 + l2 := by
              have := HLEN.out
              rw [hMN] at this
              unfold took at this
              rw [List.length_take, List.length_append, hl1, hl2] at this
              omega
            have hl12 : l1 + l2 ≤ 1000000 := by
              have h1 := objs_false_len hok.len
              have h2 := free_bound hok
              have h3 := objs_false_len (o := o) (l := news o F) (fun s hs => by
                rcases (news_mem F [] s).1 hs with hs | ⟨f, _, rfl⟩
                · simp at hs
                · simp [Slb.fresh]; omega)
              have h4 : (news o F).length = i := by
                have := news_length (o := o) F []
                rw [HFM.out] at this
                simpa [news] using this
              have h5 := mul_small2 (x := (i : Int)) (o := o) (by omega) (by omega) (by omega) ho2
              rw [hl1] at h1
              rw [hl2] at h3
              unfold free at h3
              rw [h4] at h3
              omega
            have HMN := Lib.hid hMN; have HL1 := Lib.hid hl1; have HL2 := Lib.hid hl2
            have HI1 := Lib.hid hI1
            have HM1 := Lib.hid (show 1 ≤ M by omega)
            clear hK hX hY hO hOf hI y0 y1 x0 x1 k0 k1 k3 k4 k5 k6 hb6 hI6 hMN hl1 hl2 hlf hInt2 hI1
            go_wp2_with (at_builtin; refine wpList_append_k K31 rfl (.tmp 78) (.tmp 80) rfl _ l1 _ rfl HI1.out a2 l2 c2 _ rfl hsrc2.out ?c1 ?c2 ?_)
            case c1 => omega
            case c2 => exact hK6.1.size
            intro v7 w7 hown7 hg7 _
            have hK7 : KeepR w o a n c w7 := ⟨hK6.1.grown hg7 hK6.1.size (fun q hq => (World.ownsRow.lt HI1.out q hq).1), hK6.2.1.grown hg7 (hK6.2.1.not_own HI1.out (by decide)), hK6.2.2.grown hg7 (hK6.2.2.not_own HI1.out (by decide))⟩
            have hX7 := hX6.grown hg7 (hX6.not_own HI1.out (by decide))
            have hO7 : OwnC w7 w.heap.size (.slice aV rs2.length cV) rs2 := ⟨hO6.out.kept hg7 (inner_ne_outer hO6.out HI1.out (by decide)), fun r hr => (hO6.inn r hr).kept hg7 (inner_ne_outer (hO6.inn r hr) HI1.out (by decide)), hO6.nod⟩
            obtain ⟨g7, c7, rfl, _, _, hc7, hc7m⟩ := own_pos hown7 (by have := HM1.out; omega)
            obtain ⟨T, hT⟩ : ∃ T, took o l M F = T := ⟨_, rfl⟩
            obtain ⟨L, hL⟩ : ∃ L, rs2.map sl = L := ⟨_, rfl⟩
            obtain ⟨nn, hnn⟩ : ∃ k, rs2.length = k := ⟨_, rfl⟩
            have hI7 : w7.ownsRow w.heap.size 3 1 (.slice (some ⟨g7, 0, none⟩) M c7) M (T.map (Value.int .i64)) := by
              have h := own_take hown7 hMl
              rw [← List.map_append, Nat.mul_one, ← List.map_take] at h
              rw [← hT]; exact h
            have hTl : T.length = M := by
              have := HLEN.out
              rw [HMN.out, hT] at this; exact this
            have hADD := HADD.out
            have hG := HG.out
            rw [hL] at hADD hG
            rw [hnn] at hX7 hO7
            have HT := Lib.hid hT; have HTL := Lib.hid hTl; have HL := Lib.hid hL; have HNN := Lib.hid hnn; have HADL := Lib.hid hADD; have HGL := Lib.hid hG
            have HNK := Lib.hid (show nn ≤ 256 by have := hG.count; rw [← hL, List.length_map, hnn] at this; exact this)
            clear hT hTl hL hnn hADD hG hg7 hown7 HI1 hO6 hX6 hK6 hsrc2
            go_wp2
            go_loopg [14] M (fun g i0 wr => ∃ (i : Nat) (rsk : List R), i + g = M ∧ i0 = .int .i64 i ∧ KeepR w o a n c wr ∧ Blk wr w5.heap.size 24 [.int .i64 o, .slice aV nn cV] ∧ OwnC wr w.heap.size (.slice aV nn cV) rsk ∧ wr.ownsRow w.heap.size 3 1 (.slice (some ⟨g7, 0, none⟩) M c7) M (T.map (Value.int .i64)) ∧ rsk.map sl = marks o (T.take i) L)
            case atStart => exact ⟨0, rs2, by omega, rfl, hK7, hX7, hO7, hI7, by rw [HL.out]; rfl⟩
            case round =>
              clear hK7 hX7 hO7 hI7
              obtain ⟨i, rsk, hg, rfl, hK, hX, hO, hI, hmk⟩ := hrel
              have HMK := Lib.hid hmk; have HGG := Lib.hid hg
              obtain ⟨k0, k1, k3, k4, k5, k6⟩ := hK.cells
              have x0 : wr.cell? ⟨w5.heap.size, 0, none⟩ = some (.int .i64 o) := hX.cell 0
              have x1 : wr.cell? ⟨w5.heap.size, 1, none⟩ = some (.slice aV nn cV) := hX.cell 1
              cases gk with
              | zero =>
                obtain rfl : i = M := by omega
                have HMF := Lib.hid (show rsk.map sl = marks o T L by rw [hmk, List.take_of_length_le (by rw [HTL.out]; exact Nat.le_refl _)])
                have hC := hK.2.2
                clear hg hmk k0 k1 k3 k4 k5 k6
                go_wp2
                refine wp_region_in (KeepZ w o w5.heap.size (.slice aV nn cV)) [(true, 2), (false, 1), (false, 1), (false, 1), (true, 2)] [0, 2, 1, 3, 4, 5, 6] 99 (by kernel_rfl) (by kernel_rfl) (KeepZ.below ⟨hK.1, hX⟩ (Below.refl _ _).drew) ?_
                intro W hW hWe
                have hOW : OwnC W w.heap.size (.slice aV nn cV) rsk := by rw [hWe]; exact hO.later (Below.refl _ _).drew
                have hIW : W.ownsRow w.heap.size 3 1 (.slice (some ⟨g7, 0, none⟩) i c7) i (T.map (Value.int .i64)) := by rw [hWe]; exact own_later hI (Below.refl _ _).drew
                have hCW : Blk W (w.heap.size + 1) 24 [.int .i64 0, .slice none 0 0] := by rw [hWe]; exact hC.later (Below.refl _ _).drew
                clear hWe hO hI hC hK hX x0 x1
                simp only [wpSegsL, inOrder, List.filterMap_cons, List.filterMap_nil, List.getElem?_cons_zero, List.getElem?_cons_succ, List.take_succ_cons, List.take_zero, List.drop_succ_cons, List.drop_zero]
                have q0 := fun z => (hold_ok hW z).2.cell 0
                have q1 := fun z => (hold_ok hW z).2.cell 1
                simp only [List.getElem?_cons_zero, List.getElem?_cons_succ] at q0 q1
                repeat (go_big_quiet_step (fail))
                refine wpQuiet_nil ?_
                clear q0 q1
                go_wp2
                have hWa := hW.below (below_box W (.cells #[] 3))
                have hOa := hOW.alloc (.cells #[] 3)
                have hIa := own_later hIW (below_box W (.cells #[] 3))
                have hCa := hCW.later (below_box W (.cells #[] 3))
                have hmade : (W.alloc (.cells #[] 3)).ownsRow W.heap.size 3 1 (.slice (some ⟨W.heap.size, 0, none⟩) 0 0) 0 [] := World.ownsRow_made W #[] 0 (Nat.le_refl _) (Nat.zero_le _) rfl
                have hzw := hW.1.size
                have hInt : Ints (W.alloc (.cells #[] 3)) (some ⟨g7, 0, none⟩) T := by
                  have h : OwnI (W.alloc (.cells #[] 3)) w.heap.size (.slice (some ⟨g7, 0, none⟩) i c7) T := by unfold OwnI; rw [HTL.out]; exact hIa
                  obtain ⟨_, _, h1, _, _, _, h2⟩ := h.ints HTL.out
                  cases h1; exact h2
                have hsrc := ints_src (c := c7) hInt HTL.out (fun h => by cases h)
                refine ⟨hold_of hWa, ?_⟩
                refine wpList_append_ks K31 rfl (.tmp 112) (.tmp 113) rfl (.slice (some ⟨W.heap.size, 0, none⟩) 0 0) 0 [] rfl hmade (by simp [Value.ownBlock]) _ i c7 _ rfl hsrc ?c1 ?c2 ?_
                case c1 => omega
                case c2 => simp
                intro gg cp w8 hin8 hg8
                simp only [Nat.zero_add, List.nil_append] at hin8 ⊢
                have hb8 : Below W.heap.size W w8 := (below_box W (.cells #[] 3)).grown hg8 (by simp) (fun k hk => by simp [Value.ownBlock] at hk; omega)
                have hW8 := hW.below hb8
                have hO8 := hOW.later hb8
                have hC8 := hCW.later hb8
                have hin8 := own_weaken hin8 hzw
                clear hW hOW hIW hCW hWa hOa hIa hCa hmade hInt hsrc hg8 hb8
                refine wpList_nil ⟨hold_of hW8, ?_⟩
                simp only [Act.put, List.setIfInBounds_toArray, List.set_cons_succ, List.set_cons_zero]
                have d0 : w8.cell? ⟨w.heap.size + 1, 0, none⟩ = some (.int .i64 0) := hC8.cell 0
                have d1 : w8.cell? ⟨w.heap.size + 1, 1, none⟩ = some (.slice none 0 0) := hC8.cell 1
                have d2 := hC8.frozen 0
                have d3 := hC8.frozen 1
                go_wp2
                have hX9' := hX9.out
                have hO9 := (hO8.far hC8 (by decide) (by decide) 0 (.int .i64 o)).far (hC8.set 0 (.int .i64 o)) (by decide) (by decide) 1 (.slice aV nn cV)
                have hI9 := own_far (own_far hin8 hC8 (by decide) 0 (.int .i64 o)) (hC8.set 0 (.int .i64 o)) (by decide) 1 (.slice aV nn cV)
                have hC9 := (hC8.set 0 (.int .i64 o)).set 1 (.slice aV nn cV)
                have hW9 : KeepZ w o w5.heap.size (.slice aV nn cV) ((w8.setCell ⟨w.heap.size + 1, 0, none⟩ (.int .i64 o)).setCell ⟨w.heap.size + 1, 1, none⟩ (.slice aV nn cV)) :=
                  ⟨(hW8.1.setCell (by simp) _).setCell (by simp) _, (hW8.2.far (by show w5.heap.size ≠ w.heap.size + 1; omega) _).far (by show w5.heap.size ≠ w.heap.size + 1; omega) _⟩
                refine ⟨hold_of hW9, ?_⟩
                dsimp only
                repeat (go_big_quiet_step (fail))
                refine wpQuiet_nil ?_
                refine NoPanic.normal ?_
                go_wp2
                refine bodyPost_ret (results_cell_two rfl _ _ (w.heap.size + 1) (.int .i64 o) (.slice aV nn cV) (.slice (some ⟨gg, 0, none⟩) i cp) (.int .i64 0) rfl hC9 rfl rfl) rfl ?_
                rw [allocR_ok HR.out HArg.out HADL.out, HMN.out, HT.out]
                refine ⟨_, rsk, _, rfl, hO9, HMF.out, ?_, hW9.1⟩
                unfold OwnI
                rw [HTL.out]
                exact hI9
              | succ g =>
                have hin : i < M := by omega
                obtain ⟨x, hx⟩ := get_some HTL.out hin
                have hxm : x ∈ took o l M F := by rw [HT.out]; exact List.mem_of_getElem? hx
                have hxs := HD.out.took_in x (by rw [HMN.out]; exact hxm)
                rw [HADL.out] at hxs
                obtain ⟨k, u, gu, cu, hr, hat0, hul, hjl, hx0, hjm, hq0, hq1, hset⟩ := mark_at HGL.out ho1 hmk hxs
                obtain ⟨q, hq⟩ : ∃ q, x / o = q := ⟨_, rfl⟩
                obtain ⟨j, hj⟩ : ∃ j, (x % o).toNat = j := ⟨_, rfl⟩
                rw [hq] at hr hat0 hq0 hq1 hset
                rw [hj] at hjl hjm hset
                have hqd : x.tdiv o = q := by rw [Int.tdiv_eq_ediv_of_nonneg hx0]; exact hq
                have hqm : x.tmod o = (j : Int) := by rw [Int.tmod_eq_emod_of_nonneg hx0]; exact hjm
                have hoz : (o == 0) = false := by simp; omega
                have hlk : rsk.length = nn := by
                  have h1 := congrArg List.length (congrArg (List.map (·.1)) hmk)
                  rw [marks_fst, List.length_map, List.length_map, List.length_map, ← HL.out, List.length_map, HNN.out] at h1
                  exact h1
                have hkn : k < nn := by
                  rw [List.getElem?_eq_some_iff] at hr
                  have := hr.1; omega
                have HLK := Lib.hid hlk
                clear hlk
                obtain ⟨b, off, rfl, s0, s1⟩ := hO.at hr
                obtain ⟨f0, f1, hc1, hc2⟩ := hO.flag_at hr hjl
                have c0 : wr.cell? ⟨g7, i, none⟩ = some (.int .i64 x) := by
                  have := World.ownsRow.cells hI (g := g7) rfl i (.int .i64 x) (by rw [List.getElem?_map, hx]; rfl)
                  rwa [add_row, Nat.zero_add] at this
                have HSET := Lib.hid hset; have HR := Lib.hid hr; have HAT := Lib.hid hat0
                have hbx := Lib.hid hj
                have hjo : (j : Int) < 32 := by omega
                have HTK := Lib.hid (show T.take (i + 1) = T.take i ++ [x] by rw [List.take_add_one, hx]; rfl)
                clear hx hxm hxs hq hj hmk hr hat0 hset hg hul hjm
                have HU := Lib.hid hjl
                have HHO := Lib.hid hO
                go_wp2
                clear k0 k3 k4 k5 k6
                refine wp_region_in (fun W => Below wr.heap.size wr W) [(true, 17), (false, 1), (true, 4), (false, 1)] [0, 1, 2, 3, 4, 5, 6, 7, 8, 9, 14, 15, 16, 17, 18, 19, 20, 10, 11, 12, 13, 21, 22] 22 (by kernel_rfl) (by kernel_rfl) (Below.refl _ _).drew ?_
                intro W hW hWe
                clear hWe
                simp only [wpSegsL, inOrder, List.filterMap_cons, List.filterMap_nil, List.getElem?_cons_zero, List.getElem?_cons_succ, List.take_succ_cons, List.take_zero, List.drop_succ_cons, List.drop_zero]
                have kk : wr.cell? ⟨w.heap.size, 0, none⟩ = some (.int .i64 o) := hK.2.1.cell 0
                have q0 := fun z => cell_later (hold_ok (S0 := fun W => Below wr.heap.size wr W) hW z) x0
                have q1 := fun z => cell_later (hold_ok (S0 := fun W => Below wr.heap.size wr W) hW z) x1
                have q2 := fun z => cell_later (hold_ok (S0 := fun W => Below wr.heap.size wr W) hW z) c0
                have q3 := fun z => cell_later (hold_ok (S0 := fun W => Below wr.heap.size wr W) hW z) kk
                have q4 := fun z => cell_later (hold_ok (S0 := fun W => Below wr.heap.size wr W) hW z) s1
                repeat (go_big_quiet_step (fail))
                refine wpQuiet_nil ?_
                have hOW := hO.later hW
                have hat := at_43 o (some ⟨b, off, none⟩) (rsk.map sl) nn cV q W (by obtain ⟨_, _, h1, _, _, _, h2⟩ := hOW.slabs HLK.out; cases h1; exact h2) (by rw [List.length_map]; exact HLK.out) (by have := HNK.out; omega)
                rw [HAT.out] at hat
                have HATC := Lib.hid hat
                clear hat
                go_wp2_with fail
                refine (HATC.out).mono ?_
                rintro e w8 ⟨rfl, hb8⟩
                have hW8 : Below wr.heap.size wr w8 := below_then hW hb8
                clear hOW HATC
                go_wp2
                refine ⟨hold_of hW8, ?_⟩
                dsimp only
                repeat (go_big_quiet_step (fail))
                refine wpQuiet_nil ?_
                clear q0 q1 q2 q3 q4
                have hO8 := hO.later hW8
                obtain ⟨f0', f1', _, _⟩ := hO8.flag_at HR.out HU.out
                clear f0 f1
                go_wp2
                refine ⟨trivial, NoPanic.normal ?_⟩
                go_wp2
                go_roundg g
                case rel =>
                  have hK8 := hK.below hW8
                  have hX8 := hX.later hW8
                  have hI8 := own_later hI hW8
                  have hgm : gu ∈ rsk.map (·.2.2.1) := List.mem_map.2 ⟨_, List.mem_of_getElem? HR.out, rfl⟩
                  have hgl := hO8.gs_low gu hgm
                  have n1 : w.heap.size ≠ gu := fun e => hO8.not_in hK8.2.1 (by decide) (e ▸ hgm)
                  have n2 : w.heap.size + 1 ≠ gu := fun e => hO8.not_in hK8.2.2 (by decide) (e ▸ hgm)
                  have n3 : w5.heap.size ≠ gu := fun e => hO8.not_in hX8 (by decide) (e ▸ hgm)
                  refine ⟨i + 1, rsk.set k (q, u.set j true, gu, cu), by have := HGG.out; omega, by go_num, ⟨hK8.1.setCell hgl _, hK8.2.1.far n1 _, hK8.2.2.far n2 _⟩, hX8.far n3 _, hO8.flag HR.out j true, own_flag_kept hI8 (hO8.inn _ (List.mem_of_getElem? HR.out)) (by decide) j _, ?_⟩
                  rw [HTK.out]; exact HSET.out
                case measure => omega
          | succ g =>
            have hin : i < fm := by omega
            obtain ⟨b, off, rfl, hc⟩ := HF (by rw [HFM.out]; omega)
            have hc0 := hc i (by rw [HFM.out]; exact hin)
            obtain ⟨f, hf⟩ : ∃ f, F.getD i 0 = f := ⟨_, rfl⟩
            rw [hf] at hc0
            have HC0 := Lib.hid hc0
            have c0 := cell_later hK.1 hc0
            clear hc0
            have hst := addF_step (o := o) (L := rs2.map sl) HFM.out hin
            rw [hf] at hst
            have HST := Lib.hid hst; have HGG := Lib.hid hg
            have HTK := Lib.hid (show F.take (i + 1) = F.take i ++ [f] by
              have h1 : F[i]? = some f := by rw [← hf, List.getD_eq_getElem?_getD, List.getElem?_eq_getElem (by rw [HFM.out]; exact hin)]; rfl
              rw [List.take_add_one, h1]; rfl)
            clear hc hst hf hg
            by_cases hf0 : f < 0
            · have HE := Lib.hid (show addF o F l = (2, []) by rw [HA.out, HST.out, if_pos (.inl hf0)])
              go_wp2
              have hB := (hK.2.2.set 0 (.int .i64 0)).set 1 (.slice none 0 0)
              refine bodyPost_ret (results_cell_two rfl _ _ (w.heap.size + 1) (.int .i64 0) (.slice none 0 0) (.slice none 0 0) (.int .i64 2) rfl hB rfl rfl) rfl (ans_err (allocR_add HR.out HArg.out (by decide) HE.out) (by decide) rfl ?_)
              exact (hK.1.setCell (by simp) _).setCell (by simp) _
            · by_cases hf1 : 256 ≤ f
              · have HE := Lib.hid (show addF o F l = (2, []) by rw [HA.out, HST.out, if_pos (.inr hf1)])
                go_wp2
                have hB := (hK.2.2.set 0 (.int .i64 0)).set 1 (.slice none 0 0)
                refine bodyPost_ret (results_cell_two rfl _ _ (w.heap.size + 1) (.int .i64 0) (.slice none 0 0) (.slice none 0 0) (.int .i64 2) rfl hB rfl rfl) rfl (ans_err (allocR_add HR.out HArg.out (by decide) HE.out) (by decide) rfl ?_)
                exact (hK.1.setCell (by simp) _).setCell (by simp) _
              · have hat := fun u => at_43 o aV (rs2.map sl) rs2.length cV f (over wr u) (hSl.below (below_over wr u)) (by simp) (by have := HG.out.count; rw [List.length_map] at this; omega)
                obtain ⟨K, hk⟩ : ∃ K, atL f 0 (rs2.map sl) = K := ⟨_, rfl⟩
                rw [hk] at hat
                have HK := Lib.hid hk
                clear hk hSl
                go_wp2_with fail
                refine wp_region_over (by kernel_rfl) (by kernel_rfl) ?_
                have q0 := fun u => over_cell x0 u
                have q1 := fun u => over_cell x1 u
                have q2 := fun u => over_cell c0 u
                repeat (go_big_quiet_step ((go_at_call 43; exact calls_over (hat _))))
                refine wpQuiet_nil ?_
                rintro _ ⟨u, rfl⟩
                have hb6 := below_over wr u
                obtain ⟨w6, hw6⟩ : ∃ W, W = over wr u := ⟨_, rfl⟩
                rw [← hw6] at hb6 ⊢
                clear hw6 q0 q1 q2 hat
                have hK6 := hK.below hb6
                have hX6 := hX.later hb6
                have hY6 := hY.later hb6
                have hO6 := hO.later hb6
                have hOf6 := hOf.later hb6
                have hI6 := own_later hI hb6
                have c6 := cell_later hb6 c0
                clear hK hX hY hO hOf hI c0 k0 k1 k3 k4 k5 k6 x0 x1 hb6
                obtain ⟨k0, k1, k3, k4, k5, k6⟩ := hK6.cells
                have x0 : w6.cell? ⟨w5.heap.size, 0, none⟩ = some (.int .i64 o) := hX6.cell 0
                have x1 : w6.cell? ⟨w5.heap.size, 1, none⟩ = some (.slice aV rs2.length cV) := hX6.cell 1
                by_cases hT : hasF f (rs2.map sl) = true
                · have HE := Lib.hid (show addF o F l = (7, []) by rw [HA.out, HST.out, if_neg (by omega), if_pos hT])
                  have hk0 : 0 ≤ K := by rw [← HK.out]; exact atL_nonneg hT 0
                  go_wp2
                  have hB := (hK6.2.2.set 0 (.int .i64 0)).set 1 (.slice none 0 0)
                  refine bodyPost_ret (results_cell_two rfl _ _ (w.heap.size + 1) (.int .i64 0) (.slice none 0 0) (.slice none 0 0) (.int .i64 7) rfl hB rfl rfl) rfl (ans_err (allocR_add HR.out HArg.out (by decide) HE.out) (by decide) rfl ?_)
                  exact (hK6.1.setCell (by simp) _).setCell (by simp) _
                · have hT' : hasF f (rs2.map sl) = false := by simpa using hT
                  have HT := Lib.hid hT'
                  obtain rfl : K = -1 := by rw [← HK.out]; exact atL_none hT'
                  clear hT hT'
                  go_wp2
                  refine wp_region_in (fun W => Below w6.heap.size w6 W) [(true, 5), (false, 1), (false, 1)] [0, 1, 2, 3, 4, 5, 6] 6 (by kernel_rfl) (by kernel_rfl) (Below.refl _ _).drew ?_
                  intro W hW hWe
                  clear hWe
                  simp only [wpSegsL, inOrder, List.filterMap_cons, List.filterMap_nil, List.getElem?_cons_zero, List.getElem?_cons_succ, List.take_succ_cons, List.take_zero, List.drop_succ_cons, List.drop_zero]
                  have q0 := fun z => cell_later (hold_ok (S0 := fun W => Below w6.heap.size w6 W) hW z) x0
                  have q1 := fun z => cell_later (hold_ok (S0 := fun W => Below w6.heap.size w6 W) hW z) x1
                  have q2 := fun z => cell_later (hold_ok (S0 := fun W => Below w6.heap.size w6 W) hW z) c6
                  repeat (go_big_quiet_step (fail))
                  refine wpQuiet_nil ?_
                  clear q0 q1 q2
                  have hOW := hO6.later hW
                  have hwi := Lib.hid (with_44 w.heap.size o m aV rs2.length cV f rs2 W hOW rfl (by have := HG.out.count; rw [List.length_map] at this; omega) HMO.out (by have := HMO.out; omega) (Nat.le_trans hK6.1.size hW.size))
                  go_wp2_with fail
                  refine (hwi.out).mono ?_
                  rintro e w8 ⟨V8, rs8, rfl, hO8, hrs8, hb8⟩
                  have hW8 : Below w6.heap.size w6 w8 := below_then hW hb8
                  obtain ⟨a8, k8, rfl, _, _, _, _⟩ := hO8.slabs rfl
                  clear hwi hOW hW hb8
                  have hX8 := hX6.later hW8
                  have x8 : w8.cell? ⟨w5.heap.size, 0, none⟩ = some (.int .i64 o) := hX8.cell 0
                  have x9 : w8.cell? ⟨w5.heap.size, 1, none⟩ = some (.slice aV rs2.length cV) := hX8.cell 1
                  have x8f := hX8.frozen 0
                  have x9f := hX8.frozen 1
                  go_wp2
                  refine ⟨hold_of hW8, ?_⟩
                  go_wp2
                  refine ⟨trivial, NoPanic.normal ?_⟩
                  have hX9' := hX9.out
                  have hK8 := hK6.below hW8
                  have hY8 := hY6.later hW8
                  have hOf8 := hOf6.later hW8
                  have hI8 := own_later hI6 hW8
                  have hKz : KeepR w o a n c ((w8.setCell ⟨w5.heap.size, 0, none⟩ (.int .i64 o)).setCell ⟨w5.heap.size, 1, none⟩ (.slice a8 rs8.length k8)) :=
                    ⟨(hK8.1.setCell (by exact hX9'.1) _).setCell (by exact hX9'.1) _, (hK8.2.1.far (by show w.heap.size ≠ w5.heap.size; omega) _).far (by show w.heap.size ≠ w5.heap.size; omega) _, (hK8.2.2.far (by show w.heap.size + 1 ≠ w5.heap.size; omega) _).far (by show w.heap.size + 1 ≠ w5.heap.size; omega) _⟩
                  have hYz := (hY8.far (p := ⟨w5.heap.size, 0, none⟩) (by show w5.heap.size + 1 ≠ w5.heap.size; omega) (.int .i64 o)).far (p := ⟨w5.heap.size, 1, none⟩) (by show w5.heap.size + 1 ≠ w5.heap.size; omega) (.slice a8 rs8.length k8)
                  have hOfz := (hOf8.far hX8 (by decide) (by decide) 0 (.int .i64 o)).far (hX8.set 0 (.int .i64 o)) (by decide) (by decide) 1 (.slice a8 rs8.length k8)
                  have hOz := (hO8.far hX8 (by decide) (by decide) 0 (.int .i64 o)).far (hX8.set 0 (.int .i64 o)) (by decide) (by decide) 1 (.slice a8 rs8.length k8)
                  have hIz := own_far (own_far hI8 hX8 (by decide) 0 (.int .i64 o)) (hX8.set 0 (.int .i64 o)) (by decide) 1 (.slice a8 rs8.length k8)
                  have hXz := (hX8.set 0 (.int .i64 o)).set 1 (.slice a8 rs8.length k8)
                  have HSL := Lib.hid hrs8
                  clear hK8 hY8 hOf8 hI8 hX8 hO8 hK6 hX6 hY6 hO6 hOf6 hI6 x0 x1 x8 x9 x8f x9f c6 k0 k1 k3 k4 k5 k6 hrs8 hW8
                  go_wp2_with fail
                  obtain ⟨wz, hwz⟩ : ∃ W, W = ((w8.setCell ⟨w5.heap.size, 0, none⟩ (.int .i64 o)).setCell ⟨w5.heap.size, 1, none⟩ (.slice a8 rs8.length k8)) := ⟨_, rfl⟩
                  rw [← hwz] at hKz hYz hOfz hOz hIz hXz ⊢
                  clear hwz
                  have c6 := cell_later hKz.1 HC0.out
                  have x0 : wz.cell? ⟨w5.heap.size + 1, 0, none⟩ = some (.int .i64 o) := hYz.cell 0
                  have x1 : wz.cell? ⟨w5.heap.size + 1, 1, none⟩ = some (.slice aW i cW) := hYz.cell 1
                  refine wp_region_in (fun W => Below wz.heap.size wz W) [(true, 5), (false, 1), (false, 1)] [0, 1, 2, 3, 4, 5, 6] 6 (by kernel_rfl) (by kernel_rfl) (Below.refl _ _).drew ?_
                  intro W hW hWe
                  clear hWe
                  simp only [wpSegsL, inOrder, List.filterMap_cons, List.filterMap_nil, List.getElem?_cons_zero, List.getElem?_cons_succ, List.take_succ_cons, List.take_zero, List.drop_succ_cons, List.drop_zero]
                  have q0 := fun z => cell_later (hold_ok (S0 := fun W => Below wz.heap.size wz W) hW z) x0
                  have q1 := fun z => cell_later (hold_ok (S0 := fun W => Below wz.heap.size wz W) hW z) x1
                  have q2 := fun z => cell_later (hold_ok (S0 := fun W => Below wz.heap.size wz W) hW z) c6
                  repeat (go_big_quiet_step (fail))
                  refine wpQuiet_nil ?_
                  clear q0 q1 q2
                  have hOW := hOfz.later hW
                  have hwi := Lib.hid (with_44 w.heap.size o m aW i cW f rsf W hOW HFL.out (by omega) HMO.out (by have := HMO.out; omega) (Nat.le_trans hKz.1.size hW.size))
                  go_wp2_with fail
                  refine (hwi.out).mono ?_
                  rintro e w9 ⟨V9, rs9, rfl, hO9, hrs9, hb9⟩
                  have hW9 : Below wz.heap.size wz w9 := below_then hW hb9
                  have hl9 : rs9.length = i + 1 := by
                    have := congrArg List.length hrs9
                    rw [List.length_map, ins_length, List.length_map, HFL.out] at this; exact this
                  obtain ⟨a9, k9, rfl, _, _, _, _⟩ := hO9.slabs hl9
                  clear hwi hOW hW hb9
                  have hY9 := hYz.later hW9
                  have x8 : w9.cell? ⟨w5.heap.size + 1, 0, none⟩ = some (.int .i64 o) := hY9.cell 0
                  have x9 : w9.cell? ⟨w5.heap.size + 1, 1, none⟩ = some (.slice aW i cW) := hY9.cell 1
                  have x8f := hY9.frozen 0
                  have x9f := hY9.frozen 1
                  go_wp2
                  refine ⟨hold_of hW9, ?_⟩
                  go_wp2
                  refine ⟨trivial, NoPanic.normal ?_⟩
                  have hK9 := hKz.below hW9
                  have hX9z := hXz.later hW9
                  have hO8z := hOz.later hW9
                  have hI9 := own_later hIz hW9
                  go_wp2
                  go_roundg g
                  case rel =>
                    refine ⟨i + 1, _, _, rs8, rs9, by have := HGG.out; omega, by go_num,
                      ⟨(hK9.1.setCell (by show w.heap.size ≤ w5.heap.size + 1; omega) _).setCell (by show w.heap.size ≤ w5.heap.size + 1; omega) _, (hK9.2.1.far (by show w.heap.size ≠ w5.heap.size + 1; omega) _).far (by show w.heap.size ≠ w5.heap.size + 1; omega) _, (hK9.2.2.far (by show w.heap.size + 1 ≠ w5.heap.size + 1; omega) _).far (by show w.heap.size + 1 ≠ w5.heap.size + 1; omega) _⟩,
                      (hX9z.far (by show w5.heap.size ≠ w5.heap.size + 1; omega) _).far (by show w5.heap.size ≠ w5.heap.size + 1; omega) _, (hY9.set 0 _).set 1 _,
                      (hO8z.far hY9 (by decide) (by decide) 0 (.int .i64 o)).far (hY9.set 0 (.int .i64 o)) (by decide) (by decide) 1 _, (hO9.far hY9 (by decide) (by decide) 0 (.int .i64 o)).far (hY9.set 0 (.int .i64 o)) (by decide) (by decide) 1 _,
                      own_far (own_far hI9 hY9 (by decide) 0 (.int .i64 o)) (hY9.set 0 (.int .i64 o)) (by decide) 1 _, ?_, ?_, ?_, hl9⟩
                    · rw [HSL.out]; exact HG.out.ins (by omega) (by omega) (by omega) HT.out
                    · rw [HA.out, HST.out, if_neg (by omega), if_neg (by rw [HT.out]; simp), HSL.out]
                    · rw [hrs9, HFF.out, HTK.out, List.foldl_append]; rfl
                  case measure => omega
      · have t2 : ((fm : Int) != ND) = true := by simpa using hfn
        go_wp2
        have hB := (hK3.2.2.set 0 (.int .i64 0)).set 1 (.slice none 0 0)
        refine bodyPost_ret (results_cell_two rfl _ _ (w.heap.size + 1) (.int .i64 0) (.slice none 0 0) (.slice none 0 0) (.int .i64 1) rfl hB rfl rfl) rfl (ans_err (allocR_arg HR.out (.inr (by rw [HFM.out, HNE.out]; exact hfn))) (by decide) rfl ?_)
        exact (hK3.1.setCell (by simp) _).setCell (by simp) _
  · have t1 : (R == 0) = false := by simpa using hR0
    go_wp2
    have hB := (hK2.2.2.set 0 (.int .i64 0)).set 1 (.slice none 0 0)
    refine bodyPost_ret (results_cell_two rfl _ _ (w.heap.size + 1) (.int .i64 0) (.slice none 0 0) (.slice none 0 0) (.int .i64 R) rfl hB rfl rfl) rfl (ans_err (allocR_bad (by rw [HR.out]; exact hR0)) (by rw [HR.out]; exact hR0) (by rw [HR.out]) ?_)
    exact (hK2.1.setCell (by simp) _).setCell (by simp) _
end Go.Proofs.Ythhdiiboblaclaa
