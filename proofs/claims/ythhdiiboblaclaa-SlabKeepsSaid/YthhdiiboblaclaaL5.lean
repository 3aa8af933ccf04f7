/- The walk of the law on the release of what was allocated. -/
import Derived.Test.YthhdiiboblaclaaL4
import Derived.Test.YthhdiiboblaclaaSeg3
namespace Go.Proofs.Ythhdiiboblaclaa
open Go.RowKit Go.Over Go.Slb Go.Seg Go.Grow
theorem objs_range {o x : Int} {b : Bool} {l : List S} (h : Ok o l) (hx : x ∈ objs o b l) : 0 ≤ x ∧ x ≤ 100000 := by
  obtain ⟨s, hs, i, hi, rfl⟩ := mem_objs.1 hx
  have h1 := h.fr s hs
  have h2 := h.len s hs
  have h3 := lt_of_flag hi
  have h4 := mul_small h1.1 h1.2 (by have := h.o1; omega) h.o2
  have := h.o2
  omega
theorem Ints.only {w w' : World} {gs : List Nat} {a : Option Addr} {l : List Int} (h : Ints w a l) (ho : Only gs w w') (hn : ∀ b off, a = some ⟨b, off, none⟩ → 0 < l.length → b ∉ gs) : Ints w' a l := by
  intro h0
  have hl := ints_low h h0
  obtain ⟨b, off, rfl, hc⟩ := h h0
  refine ⟨b, off, rfl, fun i hi => ?_⟩
  rw [ho.cell (hn b off rfl h0) (hl b off rfl)]; exact hc i hi
set_option maxRecDepth 100000 in set_option maxHeartbeats 3200000 in
theorem law_back (o : Int) (a : Option Addr) (l : List S) (n c : Nat) (N : Int) (fa : Option Addr) (F : List Int) (fm fc : Nat) (w : World) (H : Slabs w a l) (hn : l.length = n) (hN1 : -9223372036854775808 ≤ N) (hN2 : N ≤ 9223372036854775807) (HF : Ints w fa F) (hfm : F.length = fm) :
    Calls Try.prog 7 #[.agg #[.int .i64 o, .slice a n c], .int .i64 N, .slice fa fm fc] w fun e w' => e = .returned (.bool true) ∧ Below w.heap.size w w' := by
  have HFM := Lib.hid hfm
  clear hfm
  have HN := Lib.hid hn
  have b1 := below_box w (.cells #[.int .i64 o, .slice a n c] 24)
  have X1 := Blk.new w 24 #[.int .i64 o, .slice a n c] [.int .i64 o, .slice a n c] rfl
  obtain ⟨w1, hw1⟩ : ∃ W, W = w.alloc (.cells #[.int .i64 o, .slice a n c] 24) := ⟨_, rfl⟩
  rw [← hw1] at b1 X1
  have hfw := few_12 o a l n c w1 (H.below b1) hn
  obtain ⟨fb, hfb⟩ : ∃ fb, fewB 20 l = fb := ⟨_, rfl⟩
  rw [hfb] at hfw
  have HFW := Lib.hid hfw; have HW := Lib.hid hw1; have HFB := Lib.hid hfb
  clear hn hw1 hfw hfb
  go_enter Try.func7, Try.ntmps7
  go_wp2_with fail
  rw [← HW.out]
  refine (HFW.out).mono ?_
  rintro e w2 ⟨rfl, b2⟩
  have X2 := X1.later b2
  have B2 := below_then b1 b2
  have x0 : w2.cell? ⟨w.heap.size, 0, none⟩ = some (.int .i64 o) := X2.cell 0
  have x1 : w2.cell? ⟨w.heap.size, 1, none⟩ = some (.slice a n c) := X2.cell 1
  clear HW HFW b1 b2 X1
  cases fb with
  | false =>
    go_wp2_with (go_at_call 13; refine (awake_13 _).mono ?_; rintro e w' ⟨rfl, hz⟩)
    go_ret
    exact ⟨rfl, (by repeat (first | with_reducible exact Below.refl _ _ | with_reducible assumption | with_reducible refine below_alloc ?_ _ | with_reducible refine Below.drew ?_ | with_reducible refine below_drewN ?_ _ | with_reducible refine below_then ?_ (by with_reducible assumption)))⟩
  | true =>
    have hfs := few_spec HFB.out
    have hn20 : n ≤ 20 := by have := hfs.1; have := HN.out; omega
    have hl40 := hfs.2
    clear hfs HFB
    rcases Nat.lt_or_ge 40 fm with h40 | h40
    · go_wp2_with (go_at_call 13; refine (awake_13 _).mono ?_; rintro e w' ⟨rfl, hz⟩)
      go_ret
      exact ⟨rfl, (by repeat (first | with_reducible exact Below.refl _ _ | with_reducible assumption | with_reducible refine below_alloc ?_ _ | with_reducible refine Below.drew ?_ | with_reducible refine below_drewN ?_ _ | with_reducible refine below_then ?_ (by with_reducible assumption)))⟩
    · have hdo := alloc_done (o := o) (l := l) (N := N) (F := F)
      obtain ⟨P, hP⟩ : ∃ P, allocP o l N F = P := ⟨_, rfl⟩
      rw [hP] at hdo
      obtain ⟨pr, pL, px⟩ := P
      simp only at hdo
      have HP := Lib.hid hP
      clear hP
      go_wp2_with fail
      refine (alloc_19 o a l n c N fa F fm fc w2 (H.below B2) HN.out (by omega) hN1 hN2 (HF.below B2) HFM.out (by omega)).mono ?_
      rintro e w3 ⟨V, rs, v, rfl, hO, hrs, hI, b3⟩
      rw [HP.out] at hrs hI ⊢
      simp only at hrs hI
      have X3 := X2.later b3
      have B3 := below_then B2 b3
      have hO := hO.weaken B2.size
      obtain ⟨m, hm⟩ : ∃ m, pL.length = m := ⟨_, rfl⟩
      obtain ⟨k, hk⟩ : ∃ k, px.length = k := ⟨_, rfl⟩
      obtain ⟨a3, c3, rfl, _, _, _, _⟩ := hO.slabs (n := m) (by have := congrArg List.length hrs; rw [List.length_map] at this; rw [this]; exact hm)
      have hI' := hI
      obtain ⟨ai, ci, rfl, hki, hkm, _, I3⟩ := hI.ints hk
      have HRS := Lib.hid hrs; have HM := Lib.hid hm; have HK := Lib.hid hk
      clear x0 x1 X2 B2 b3 hI hm hk hrs
      by_cases hp0 : pr = 0
      · subst hp0
        have hD := hdo rfl
        have hal := hD.alloc
        rw [HP.out] at hal
        simp only [Prod.mk.injEq, true_and] at hal
        have hB0 := hD.back0
        rw [← hal.1] at hB0
        have HT := Lib.hid hal.2
        have hkN : (k : Int) = N := by
          have h1 := hD.took_len
          rw [← hal.2, HK.out] at h1
          have := hD.pos
          omega
        obtain rfl : N = (k : Int) := hkN.symm
        rw [show (if ((0, pL, px) : Int × List S × List Int).1 = 0 then o else 0) = o from if_pos rfl]
        clear hdo hkN hal
        have X4 := X3.alloc (.cells #[.int .i64 o, .slice a3 m c3] 24)
        have Y4 := Blk.new w3 24 #[.int .i64 o, .slice a3 m c3] [.int .i64 o, .slice a3 m c3] rfl
        have b4 := below_box w3 (.cells #[.int .i64 o, .slice a3 m c3] 24)
        have B4 := below_then B3 b4
        have O4 := hO.alloc (.cells #[.int .i64 o, .slice a3 m c3] 24)
        have I4 := I3.below b4
        have T4 := own_later (show w3.ownsRow w2.heap.size 3 1 (.slice ai k ci) px.length (px.map (Value.int .i64)) from hI') b4
        have hYb := B3.size
        obtain ⟨w4, hw4⟩ : ∃ W, W = w3.alloc (.cells #[.int .i64 o, .slice a3 m c3] 24) := ⟨_, rfl⟩
        rw [← hw4] at X4 Y4 B4 O4 I4 T4
        have HW4 := Lib.hid hw4
        have HB0 := Lib.hid hB0; have HYB := Lib.hid hYb
        have HYL := Lib.hid X3.lt
        clear hw4 X3 B3 hO I3 b4 hI' hB0 hYb
        go_wp2
        rw [← HW4.out]
        clear HW4
        go_loopg [10, 11] k (fun g b0 i0 wr => ∃ (i : Nat) (d : List S) (back : List Int) (V Vb : Value) (rs : List R), i + g = k ∧ Vb = b0 ∧ i0 = .int .i64 i ∧ Back o l k F i d back ∧ OwnC wr w.heap.size V rs ∧ rs.map sl = d ∧ OwnI wr w4.heap.size Vb back ∧ Only [w3.heap.size] w4 wr ∧ Blk wr w3.heap.size 24 [.int .i64 o, V])
        case atStart => exact ⟨0, pL, [], _, _, rs, by omega, rfl, rfl, HB0.out, O4, HRS.out, World.ownsRow_nil _ _ _ _, Only.refl _ _, Y4⟩
        case round =>
          obtain ⟨i, d, back, V, Vb, rs, hg, rfl, rfl, hBk, hO, hrs, hIb, hon, hY⟩ := hrel
          have hbw : Below w.heap.size w4 wr := hon.below (by have := HYB.out; simp; omega) B4.size
          have hYl := HYL.out
          have hX : Blk wr w.heap.size 24 [.int .i64 o, .slice a n c] := blk_only X4 hon (by simp; omega)
          have hJ : Ints wr ai px := I4.only hon (fun b off hb h0 hm => by
            subst hb
            have e : b = w3.heap.size := by simpa using hm
            subst e
            exact Y4.not_own T4 (by decide) rfl)
          obtain ⟨dm, hdm⟩ : ∃ x, d.length = x := ⟨_, rfl⟩
          obtain ⟨bm, hbm⟩ : ∃ x, back.length = x := ⟨_, rfl⟩
          obtain ⟨aV, cV, rfl, _, _, _, hS⟩ := hO.slabs (n := dm) (by have := congrArg List.length hrs; rw [List.length_map] at this; rw [this]; exact hdm)
          rw [hrs] at hS
          obtain ⟨aB, cB, rfl, _, _, _, hIB⟩ := hIb.ints hbm
          have HBK := Lib.hid hBk; have HRS2 := Lib.hid hrs; have HDM := Lib.hid hdm; have HBM := Lib.hid hbm
          clear hBk hrs hdm hbm
          have y0 : wr.cell? ⟨w3.heap.size, 0, none⟩ = some (.int .i64 o) := hY.cell 0
          have y1 : wr.cell? ⟨w3.heap.size, 1, none⟩ = some (.slice aV dm cV) := hY.cell 1
          have x0 : wr.cell? ⟨w.heap.size, 0, none⟩ = some (.int .i64 o) := hX.cell 0
          have x1 : wr.cell? ⟨w.heap.size, 1, none⟩ = some (.slice a n c) := hX.cell 1
          cases gk with
          | zero =>
            obtain rfl : i = k := by omega
            have hfin := HBK.out
            obtain ⟨rfl, hlen⟩ := Back.done hD (by rw [show (i : Int).toNat = i by omega]; exact hfin)
            obtain rfl : bm = fm := by rw [← HBM.out, hlen]; exact HFM.out
            obtain rfl : dm = n := by rw [← HDM.out]; exact HN.out
            have t1 : ((bm : Int) == (bm : Int)) = true := by simp
            have hb9 : Below w.heap.size w wr := B4.trans hbw
            clear hg hfin hlen hIb hIB hJ hon hY
            go_wp2_with fail
            refine (same_18 o a aV d dm c cV wr (H.below hb9) hS HN.out (by omega) (fun s hs => by have := hl40 s hs; omega)).mono ?_
            rintro e w8 ⟨rfl, b8⟩
            have B9 := below_then hb9 b8
            clear b8 hb9
            go_wp2_with (go_at_call 13; refine (awake_13 _).mono ?_; rintro e w' ⟨rfl, hz⟩)
            go_ret
            exact ⟨rfl, (by repeat (first | with_reducible exact Below.refl _ _ | with_reducible assumption | with_reducible refine below_alloc ?_ _ | with_reducible refine Below.drew ?_ | with_reducible refine below_drewN ?_ _ | with_reducible refine below_then ?_ (by with_reducible assumption)))⟩
          | succ g =>
            have hik : i < k := by omega
            obtain ⟨x, hx⟩ := get_some HK.out hik
            have hst := HBK.out.step hD (x := x) (by rw [← HT.out]; exact hx)
            have hdk := HBK.out.ok
            have hxr := objs_range hdk hst.1
            have hfp := freeP_ok (check_ok.2 hdk) hst.1
            obtain ⟨b, off, rfl, hc⟩ := hJ (by rw [HK.out]; omega)
            have c0 := hc i (by rw [HK.out]; exact hik)
            rw [List.getD_eq_getElem?_getD, hx] at c0
            simp only [Option.getD_some] at c0
            obtain ⟨f, hf⟩ : ∃ f, freeF o d x = f := ⟨_, rfl⟩
            obtain ⟨L, hL⟩ : ∃ L, freeL o d x = L := ⟨_, rfl⟩
            rw [hf, hL] at hst hfp
            have HGG := Lib.hid hg; have HFP := Lib.hid hfp; have HST := Lib.hid hst.2
            have hb0 : Below w.heap.size w wr := B4.trans hbw
            clear hc hx hg hst hfp hf hL
            go_wp2
            refine wp_region_fork (fun W => Below wr.heap.size wr W) [0, 1, 2, 3, 4] 5 10 [(true, 4), (false, 1), (false, 1), (true, 2)] [6, 7, 8, 9, 10, 11, 12, 13] [(false, 1), (true, 4), (false, 1), (true, 2)] [5, 6, 7, 8, 9, 11, 12, 13] (by kernel_rfl) (by kernel_rfl) (Below.refl _ _).drew ?_
            intro W hW hWe
            clear hWe
            simp only [wpSegsL, inOrder, List.filterMap_cons, List.filterMap_nil, List.getElem?_cons_zero, List.getElem?_cons_succ, List.take_succ_cons, List.take_zero, List.drop_succ_cons, List.drop_zero]
            have q0 := fun z => cell_later (hold_ok (S0 := fun W => Below wr.heap.size wr W) hW z) y0
            have q1 := fun z => cell_later (hold_ok (S0 := fun W => Below wr.heap.size wr W) hW z) y1
            have q2 := fun z => cell_later (hold_ok (S0 := fun W => Below wr.heap.size wr W) hW z) c0
            show wpQuiet _ _ _ _ (_ :: _ :: _ :: _ :: [_]) _
            repeat (go_big_quiet_step (fail))
            refine wpQuiet_nil ?_
            clear q0 q1 q2
            refine ⟨?_, ?_⟩
            · show wpList _ _ _ [_] _ _
              go_wp2_with fail
              refine (free_22 o aV d dm cV x W (hS.below hW) HDM.out (by have := ok_count hdk; have := HDM.out; omega) (by omega) (by omega)).mono ?_
              rintro e w6 ⟨V6, rs6, rfl, hO6, hrs6, b6⟩
              rw [HFP.out] at hrs6 ⊢
              simp only at hrs6
              rw [show (if ((0, L, f) : Int × List S × Int).1 = 0 then o else 0) = o from if_pos rfl]
              obtain ⟨m6, hm6⟩ : ∃ z, L.length = z := ⟨_, rfl⟩
              have hO6 := hO6.weaken (show w.heap.size ≤ W.heap.size by have := hW.size; have := hb0.size; omega)
              obtain ⟨a6, c6, rfl, _, _, _, _⟩ := hO6.slabs (n := m6) (by have := congrArg List.length hrs6; rw [List.length_map] at this; rw [this]; exact hm6)
              have HR6 := Lib.hid hrs6
              have hW6 := below_then hW b6
              clear hrs6 hm6
              go_wp2
              refine ⟨hold_of hW6, ?_⟩
              show wpQuiet _ _ _ _ (_ :: _ :: _ :: [_]) _
              repeat (go_big_quiet_step (fail))
              refine wpQuiet_nil ?_
              go_wp2
              refine ⟨hold_of (below_alloc hW6 _), ?_⟩
              go_wp2
              refine ⟨hold_of (below_alloc hW6 _), ?_⟩
              show wpQuiet _ _ _ _ (_ :: [_]) _
              repeat (go_big_quiet_step (fail))
              refine wpQuiet_nil ?_
              refine NoPanic.normal ?_
              have hW9 := below_alloc hW6 (.cells #[.int .i64 o, .slice a6 m6 c6] 24)
              have hPB := Blk.new w6 24 #[.int .i64 o, .slice a6 m6 c6] [.int .i64 o, .slice a6 m6 c6] rfl
              have hO9 := hO6.alloc (.cells #[.int .i64 o, .slice a6 m6 c6] 24)
              obtain ⟨w9, hw9⟩ : ∃ W, W = w6.alloc (.cells #[.int .i64 o, .slice a6 m6 c6] 24) := ⟨_, rfl⟩
              obtain ⟨pB, hpB⟩ : ∃ z, z = w6.heap.size := ⟨_, rfl⟩
              rw [← hw9, ← hpB] at hPB
              rw [← hw9] at hW9 hO9 ⊢
              rw [← hpB]
              clear hw9 hpB hW6 hO6 b6 y0 y1 x0 x1 c0
              have hon9 := hon.then hW9
              have hY9 := hY.later hW9
              have hI9 : w9.ownsRow w4.heap.size 3 1 (.slice aB bm cB) bm (back.map (Value.int .i64)) := by
                have h := own_later hIb hW9
                rw [HBM.out] at h; exact h
              have hIB9 := hIB.below hW9
              have hb9 : Below w.heap.size w w9 := below_then hb0 hW9
              clear hW9 hon hY hIb hIB hW
              rcases HST.out with ⟨rfl, hbk⟩ | ⟨hfx, hf0, hf1, hf2, hbk⟩
              · have HBN := Lib.hid hbk
                clear hbk
                obtain ⟨w10, hw10⟩ : ∃ W, W = w9 := ⟨_, rfl⟩
                rw [← hw10] at hon9 hY9 hI9 hPB hO9 ⊢
                clear hw10 hIB9 hb9
                have hon10 := hon9; have hY10 := hY9; have hP10 := hPB; have hO10 := hO9
                have hI10 : w10.ownsRow w4.heap.size 3 1 (.slice aB bm cB) back.length (back.map (Value.int .i64)) := by rw [HBM.out]; exact hI9
                clear hon9 hY9 hI9 hPB hO9
                have hY10' := hY10
                have p0 : w10.cell? ⟨pB, 0, none⟩ = some (.int .i64 o) := hP10.cell 0
                have p1 : w10.cell? ⟨pB, 1, none⟩ = some (.slice a6 m6 c6) := hP10.cell 1
                have z0 : w10.cell? ⟨w3.heap.size, 0, none⟩ = some (.int .i64 o) := hY10.cell 0
                have z1 : w10.cell? ⟨w3.heap.size, 1, none⟩ = some (.slice aV dm cV) := hY10.cell 1
                have z2 := hY10.frozen 0
                have z3 := hY10.frozen 1
                go_wp2
                go_roundg g
                case rel =>
                  refine ⟨i + 1, L, _, .slice a6 m6 c6, _, rs6, by have := HGG.out; omega, rfl, by go_num, HBN.out, (hO10.far hY10 (by decide) (by decide) 0 (.int .i64 o)).far (hY10.set 0 (.int .i64 o)) (by decide) (by decide) 1 (.slice a6 m6 c6), HR6.out, own_far (own_far hI10 hY10 (by decide) 0 (.int .i64 o)) (hY10.set 0 (.int .i64 o)) (by decide) 1 (.slice a6 m6 c6), (hon10.grown (grown_set w10 _ 0 _) (fun k hk => by cases hk; exact .inr (by simp))).grown (grown_set _ _ 1 _) (fun k hk => by cases hk; exact .inr (by simp)), (hY10.set 0 (.int .i64 o)).set 1 (.slice a6 m6 c6)⟩
                case measure => omega
              · have HBN := Lib.hid hbk
                rw [← hfx] at hf0 hf1 hf2
                have hfn : ¬ f = -1 := by omega
                have t1 : (f != -1) = true := by simpa using hfn
                have e1 : back.contains f = false := by simpa using hf1
                have e2 : F.contains f = true := by simpa using hf2
                have HFX := Lib.hid hfx
                have hbm40 : bm ≤ 60 := by
                  have := HBK.out.len
                  rw [HBM.out, HN.out, HFM.out] at this; omega
                have d1 := has_26 aB back bm cB f w9 hIB9 HBM.out (by omega)
                have d2 := has_26 fa F fm fc f w9 (HF.below hb9) HFM.out (by omega)
                rw [e1] at d1
                rw [e2] at d2
                have HD1 := Lib.hid d1; have HD2 := Lib.hid d2
                clear hbk hfx e1 e2 d1 d2 hf1 hf2
                go_wp2_with fail
                refine (HD1.out).mono ?_
                rintro e w8 ⟨rfl, rfl⟩
                go_wp2_with fail
                refine (HD2.out).mono ?_
                rintro e w8 ⟨rfl, rfl⟩
                have b10 := below_box w9 (.cells #[.int .i64 f] 3)
                have HIA := Lib.hid (own_later hI9 b10)
                have hsz : w4.heap.size ≤ w9.heap.size := hon9.size
                go_wp2_with (at_builtin; refine wpList_append_k K31 rfl (.tmp 64) (.tmp 66) rfl _ bm _ rfl HIA.out _ 1 1 _ rfl (src_new w9 #[.int .i64 f] 3 1 1 1 rfl (by simp [Value.oneCell'])) ?c1 ?c2 ?_)
                case c1 => omega
                case c2 => simp; omega
                intro V10 w10 hown10 hg10 _
                have hon10 := (hon9.then b10).grown hg10 (fun q hq => .inl (World.ownsRow.lt HIA.out q hq).1)
                have hY10 := (hY9.later b10).grown hg10 ((hY9.later b10).not_own HIA.out (by decide))
                have hP10 := (hPB.later b10).grown hg10 ((hPB.later b10).not_own HIA.out (by decide))
                have hOb := hO9.later b10
                have hO10 : OwnC w10 w.heap.size (.slice a6 m6 c6) rs6 := ⟨hOb.out.kept hg10 (inner_ne_outer hOb.out HIA.out (by decide)), fun r hr => (hOb.inn r hr).kept hg10 (inner_ne_outer (hOb.inn r hr) HIA.out (by decide)), hOb.nod⟩
                have hI10 : w10.ownsRow w4.heap.size 3 1 V10 (back ++ [f]).length ((back ++ [f]).map (Value.int .i64)) := by
                  rw [List.length_append, List.map_append, HBM.out]; exact hown10
                obtain ⟨a10, c10, rfl, _, _, _⟩ := own_form hown10
                have hbk := HBN.out
                have HBN := Lib.hid (show Back o l (k : Int) F (i + 1) L (back ++ [f]) by
                  have h := hbk
                  have h2 := HFX.out
                  rw [h2]; exact h)
                clear hbk hon9 hY9 hI9 hPB hO9 HIA hown10 hg10 hOb b10 hIB9 HD1 HD2
                have hY10' := hY10
                have p0 : w10.cell? ⟨pB, 0, none⟩ = some (.int .i64 o) := hP10.cell 0
                have p1 : w10.cell? ⟨pB, 1, none⟩ = some (.slice a6 m6 c6) := hP10.cell 1
                have z0 : w10.cell? ⟨w3.heap.size, 0, none⟩ = some (.int .i64 o) := hY10.cell 0
                have z1 : w10.cell? ⟨w3.heap.size, 1, none⟩ = some (.slice aV dm cV) := hY10.cell 1
                have z2 := hY10.frozen 0
                have z3 := hY10.frozen 1
                go_wp2
                go_roundg g
                case rel =>
                  refine ⟨i + 1, L, _, .slice a6 m6 c6, _, rs6, by have := HGG.out; omega, rfl, by go_num, HBN.out, (hO10.far hY10 (by decide) (by decide) 0 (.int .i64 o)).far (hY10.set 0 (.int .i64 o)) (by decide) (by decide) 1 (.slice a6 m6 c6), HR6.out, own_far (own_far hI10 hY10 (by decide) 0 (.int .i64 o)) (hY10.set 0 (.int .i64 o)) (by decide) 1 (.slice a6 m6 c6), (hon10.grown (grown_set w10 _ 0 _) (fun k hk => by cases hk; exact .inr (by simp))).grown (grown_set _ _ 1 _) (fun k hk => by cases hk; exact .inr (by simp)), (hY10.set 0 (.int .i64 o)).set 1 (.slice a6 m6 c6)⟩
                case measure => omega
            · show wpList _ _ _ [_] _ _
              go_wp2
              have hWa := below_alloc hW (.cells #[.int .i64 0, .slice none 0 0] 24)
              refine ⟨hold_of hWa, ?_⟩
              have hPa := Blk.new W 24 #[.int .i64 0, .slice none 0 0] [.int .i64 0, .slice none 0 0] rfl
              have hpb : wr.heap.size ≤ W.heap.size := hW.size
              obtain ⟨Wa, hWa'⟩ : ∃ X, X = W.alloc (.cells #[.int .i64 0, .slice none 0 0] 24) := ⟨_, rfl⟩
              obtain ⟨pB, hpB⟩ : ∃ z, z = W.heap.size := ⟨_, rfl⟩
              rw [← hWa', ← hpB] at hPa
              rw [← hWa'] at hWa ⊢
              rw [← hpB] at hpb ⊢
              clear hWa' hpB
              dsimp only
              go_wp2_with fail
              refine (free_22 o aV d dm cV x Wa (hS.below hWa) HDM.out (by have := ok_count hdk; have := HDM.out; omega) (by omega) (by omega)).mono ?_
              rintro e w6 ⟨V6, rs6, rfl, hO6, hrs6, b6⟩
              rw [HFP.out] at hrs6 ⊢
              simp only at hrs6
              rw [show (if ((0, L, f) : Int × List S × Int).1 = 0 then o else 0) = o from if_pos rfl]
              obtain ⟨m6, hm6⟩ : ∃ z, L.length = z := ⟨_, rfl⟩
              have hO6 := hO6.weaken (show w.heap.size ≤ Wa.heap.size by have := hWa.size; have := hb0.size; omega)
              obtain ⟨a6, c6, rfl, _, _, _, _⟩ := hO6.slabs (n := m6) (by have := congrArg List.length hrs6; rw [List.length_map] at this; rw [this]; exact hm6)
              have HR6 := Lib.hid hrs6
              have hW6 := below_then hWa b6
              have hP6 := hPa.later b6
              clear hrs6 hm6
              go_wp2
              refine ⟨hold_of hW6, ?_⟩
              show wpQuiet _ _ _ _ (_ :: _ :: _ :: [_]) _
              repeat (go_big_quiet_step (fail))
              refine wpQuiet_nil ?_
              have d0 : w6.cell? ⟨pB, 0, none⟩ = some (.int .i64 0) := hP6.cell 0
              have d1 : w6.cell? ⟨pB, 1, none⟩ = some (.slice none 0 0) := hP6.cell 1
              have d2 := hP6.frozen 0
              have d3 := hP6.frozen 1
              go_wp2
              have hW9 : Below wr.heap.size wr ((w6.setCell ⟨pB, 0, none⟩ (.int .i64 o)).setCell ⟨pB, 1, none⟩ (.slice a6 m6 c6)) := (hW6.setCell hpb _).setCell hpb _
              refine ⟨hold_of hW9, ?_⟩
              show wpQuiet _ _ _ _ (_ :: [_]) _
              repeat (go_big_quiet_step (fail))
              refine wpQuiet_nil ?_
              refine NoPanic.normal ?_
              have hPB := (hP6.set 0 (.int .i64 o)).set 1 (.slice a6 m6 c6)
              have hO9 := (hO6.far hP6 (by decide) (by decide) 0 (.int .i64 o)).far (hP6.set 0 (.int .i64 o)) (by decide) (by decide) 1 (.slice a6 m6 c6)
              replace hPB : Blk ((w6.setCell ⟨pB, 0, none⟩ (.int .i64 o)).setCell ⟨pB, 1, none⟩ (.slice a6 m6 c6)) pB 24 [.int .i64 o, .slice a6 m6 c6] := hPB
              obtain ⟨w9, hw9⟩ : ∃ X, X = (w6.setCell ⟨pB, 0, none⟩ (.int .i64 o)).setCell ⟨pB, 1, none⟩ (.slice a6 m6 c6) := ⟨_, rfl⟩
              rw [← hw9] at hW9 hPB hO9 ⊢
              clear hw9 hW6 hO6 b6 d0 d1 d2 d3 hP6 hPa hWa y0 y1 x0 x1 c0
              have hon9 := hon.then hW9
              have hY9 := hY.later hW9
              have hI9 : w9.ownsRow w4.heap.size 3 1 (.slice aB bm cB) bm (back.map (Value.int .i64)) := by
                have h := own_later hIb hW9
                rw [HBM.out] at h; exact h
              have hIB9 := hIB.below hW9
              have hb9 : Below w.heap.size w w9 := below_then hb0 hW9
              clear hW9 hon hY hIb hIB hW
              rcases HST.out with ⟨rfl, hbk⟩ | ⟨hfx, hf0, hf1, hf2, hbk⟩
              · have HBN := Lib.hid hbk
                clear hbk
                obtain ⟨w10, hw10⟩ : ∃ W, W = w9 := ⟨_, rfl⟩
                rw [← hw10] at hon9 hY9 hI9 hPB hO9 ⊢
                clear hw10 hIB9 hb9
                have hon10 := hon9; have hY10 := hY9; have hP10 := hPB; have hO10 := hO9
                have hI10 : w10.ownsRow w4.heap.size 3 1 (.slice aB bm cB) back.length (back.map (Value.int .i64)) := by rw [HBM.out]; exact hI9
                clear hon9 hY9 hI9 hPB hO9
                have hY10' := hY10
                have p0 : w10.cell? ⟨pB, 0, none⟩ = some (.int .i64 o) := hP10.cell 0
                have p1 : w10.cell? ⟨pB, 1, none⟩ = some (.slice a6 m6 c6) := hP10.cell 1
                have z0 : w10.cell? ⟨w3.heap.size, 0, none⟩ = some (.int .i64 o) := hY10.cell 0
                have z1 : w10.cell? ⟨w3.heap.size, 1, none⟩ = some (.slice aV dm cV) := hY10.cell 1
                have z2 := hY10.frozen 0
                have z3 := hY10.frozen 1
                go_wp2
                go_roundg g
                case rel =>
                  refine ⟨i + 1, L, _, .slice a6 m6 c6, _, rs6, by have := HGG.out; omega, rfl, by go_num, HBN.out, (hO10.far hY10 (by decide) (by decide) 0 (.int .i64 o)).far (hY10.set 0 (.int .i64 o)) (by decide) (by decide) 1 (.slice a6 m6 c6), HR6.out, own_far (own_far hI10 hY10 (by decide) 0 (.int .i64 o)) (hY10.set 0 (.int .i64 o)) (by decide) 1 (.slice a6 m6 c6), (hon10.grown (grown_set w10 _ 0 _) (fun k hk => by cases hk; exact .inr (by simp))).grown (grown_set _ _ 1 _) (fun k hk => by cases hk; exact .inr (by simp)), (hY10.set 0 (.int .i64 o)).set 1 (.slice a6 m6 c6)⟩
                case measure => omega
              · have HBN := Lib.hid hbk
                rw [← hfx] at hf0 hf1 hf2
                have hfn : ¬ f = -1 := by omega
                have t1 : (f != -1) = true := by simpa using hfn
                have e1 : back.contains f = false := by simpa using hf1
                have e2 : F.contains f = true := by simpa using hf2
                have HFX := Lib.hid hfx
                have hbm40 : bm ≤ 60 := by
                  have := HBK.out.len
                  rw [HBM.out, HN.out, HFM.out] at this; omega
                have d1 := has_26 aB back bm cB f w9 hIB9 HBM.out (by omega)
                have d2 := has_26 fa F fm fc f w9 (HF.below hb9) HFM.out (by omega)
                rw [e1] at d1
                rw [e2] at d2
                have HD1 := Lib.hid d1; have HD2 := Lib.hid d2
                clear hbk hfx e1 e2 d1 d2 hf1 hf2
                go_wp2_with fail
                refine (HD1.out).mono ?_
                rintro e w8 ⟨rfl, rfl⟩
                go_wp2_with fail
                refine (HD2.out).mono ?_
                rintro e w8 ⟨rfl, rfl⟩
                have b10 := below_box w9 (.cells #[.int .i64 f] 3)
                have HIA := Lib.hid (own_later hI9 b10)
                have hsz : w4.heap.size ≤ w9.heap.size := hon9.size
                go_wp2_with (at_builtin; refine wpList_append_k K31 rfl (.tmp 64) (.tmp 66) rfl _ bm _ rfl HIA.out _ 1 1 _ rfl (src_new w9 #[.int .i64 f] 3 1 1 1 rfl (by simp [Value.oneCell'])) ?c1 ?c2 ?_)
                case c1 => omega
                case c2 => simp; omega
                intro V10 w10 hown10 hg10 _
                have hon10 := (hon9.then b10).grown hg10 (fun q hq => .inl (World.ownsRow.lt HIA.out q hq).1)
                have hY10 := (hY9.later b10).grown hg10 ((hY9.later b10).not_own HIA.out (by decide))
                have hP10 := (hPB.later b10).grown hg10 ((hPB.later b10).not_own HIA.out (by decide))
                have hOb := hO9.later b10
                have hO10 : OwnC w10 w.heap.size (.slice a6 m6 c6) rs6 := ⟨hOb.out.kept hg10 (inner_ne_outer hOb.out HIA.out (by decide)), fun r hr => (hOb.inn r hr).kept hg10 (inner_ne_outer (hOb.inn r hr) HIA.out (by decide)), hOb.nod⟩
                have hI10 : w10.ownsRow w4.heap.size 3 1 V10 (back ++ [f]).length ((back ++ [f]).map (Value.int .i64)) := by
                  rw [List.length_append, List.map_append, HBM.out]; exact hown10
                obtain ⟨a10, c10, rfl, _, _, _⟩ := own_form hown10
                have hbk := HBN.out
                have HBN := Lib.hid (show Back o l (k : Int) F (i + 1) L (back ++ [f]) by
                  have h := hbk
                  have h2 := HFX.out
                  rw [h2]; exact h)
                clear hbk hon9 hY9 hI9 hPB hO9 HIA hown10 hg10 hOb b10 hIB9 HD1 HD2
                have hY10' := hY10
                have p0 : w10.cell? ⟨pB, 0, none⟩ = some (.int .i64 o) := hP10.cell 0
                have p1 : w10.cell? ⟨pB, 1, none⟩ = some (.slice a6 m6 c6) := hP10.cell 1
                have z0 : w10.cell? ⟨w3.heap.size, 0, none⟩ = some (.int .i64 o) := hY10.cell 0
                have z1 : w10.cell? ⟨w3.heap.size, 1, none⟩ = some (.slice aV dm cV) := hY10.cell 1
                have z2 := hY10.frozen 0
                have z3 := hY10.frozen 1
                go_wp2
                go_roundg g
                case rel =>
                  refine ⟨i + 1, L, _, .slice a6 m6 c6, _, rs6, by have := HGG.out; omega, rfl, by go_num, HBN.out, (hO10.far hY10 (by decide) (by decide) 0 (.int .i64 o)).far (hY10.set 0 (.int .i64 o)) (by decide) (by decide) 1 (.slice a6 m6 c6), HR6.out, own_far (own_far hI10 hY10 (by decide) 0 (.int .i64 o)) (hY10.set 0 (.int .i64 o)) (by decide) 1 (.slice a6 m6 c6), (hon10.grown (grown_set w10 _ 0 _) (fun k hk => by cases hk; exact .inr (by simp))).grown (grown_set _ _ 1 _) (fun k hk => by cases hk; exact .inr (by simp)), (hY10.set 0 (.int .i64 o)).set 1 (.slice a6 m6 c6)⟩
                case measure => omega
      · have t1 : (pr == 0) = false := by simpa using hp0
        clear hdo
        go_wp2_with (go_at_call 13; refine (awake_13 _).mono ?_; rintro e w' ⟨rfl, hz⟩)
        go_ret
        exact ⟨rfl, (by repeat (first | with_reducible exact Below.refl _ _ | with_reducible assumption | with_reducible refine below_alloc ?_ _ | with_reducible refine Below.drew ?_ | with_reducible refine below_drewN ?_ _ | with_reducible refine below_then ?_ (by with_reducible assumption)))⟩
end Go.Proofs.Ythhdiiboblaclaa
