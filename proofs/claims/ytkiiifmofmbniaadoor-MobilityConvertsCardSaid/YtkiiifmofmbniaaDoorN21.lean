/- Walks: a conversion, of the document; the law on conversions. -/
import Derived.Test.YtkiiifmofmbniaaDoorN20
import Derived.Test.YtkiiifmofmbniaaDoorM17
namespace Go.Mob
open Go.Can
theorem lay_st {s : List Int} {i n : Nat} {x : Int} (hs : s[i]? = some x) (hi : i < n) : (s.take i ++ List.replicate (n - i) 0).set i x = s.take (i + 1) ++ List.replicate (n - (i + 1)) 0 := by
  have hlt : i < s.length := by rw [List.getElem?_eq_some_iff] at hs; exact hs.1
  have hl : (s.take i).length = i := by rw [List.length_take]; omega
  rw [List.set_append_right _ _ (by omega), hl, Nat.sub_self, List.take_add_one, hs, show n - i = (n - (i + 1)) + 1 by omega, List.replicate_succ, List.set_cons_zero]
  simp
theorem lay_ze {s : List Int} {i n : Nat} (hs : s.length = n) (hi : i < n) : (s.take i ++ List.replicate (n - i) 0)[i]? = some 0 := by
  have hl : (s.take i).length = i := by rw [List.length_take, hs]; omega
  rw [List.getElem?_append_right (by omega), hl, Nat.sub_self, List.getElem?_replicate, if_pos (by omega)]
end Go.Mob
namespace Go.Proofs.YtkiiifmofmbniaaDoor
open Go.RowKit Go.Over Go.Mob Go.Can Go.Seg Go.Grow
set_option maxRecDepth 100000 in set_option maxHeartbeats 3200000 in
theorem refConvert_27 (v : Value) (p : P) (f t : Int) (w : World) (H : Rpv w v p) (hm : lenB p) : Calls Tryd.prog 27 #[v, .int .i64 f, .int .i64 t] w (AnsS w (convP p f t)) := by
  obtain ⟨R, hR⟩ : ∃ R, convP p f t = R := ⟨_, rfl⟩
  rw [hR]
  have HR := Lib.hid hR
  clear hR
  obtain ⟨cs, rfl, hV⟩ := H
  have X0 := XZ.new hV
  have HV0 := Lib.hid hV
  clear hV
  go_enter Tryd.func27, Tryd.ntmps27
  go_upto_region 1 with fail
  obtain ⟨w1, hw1⟩ : ∃ W, W = (w.alloc (.cells cs.toArray 26)).alloc (.cells #[.int .i64 0, .slice none 0 0, .slice none 0 0, .slice none 0 0, .slice none 0 0, .slice none 0 0, .slice none 0 0, .slice none 0 0, .slice none 0 0, .slice none 0 0, .slice none 0 0, .slice none 0 0, .slice none 0 0, .slice none 0 0, .slice none 0 0, .slice none 0 0, .slice none 0 0] 26) := ⟨_, rfl⟩
  rw [← hw1] at X0 ⊢
  obtain ⟨gr, hgr⟩ : ∃ g, w.heap.size + 1 = g := ⟨_, rfl⟩
  obtain ⟨g, hg0⟩ : ∃ g, w.heap.size = g := ⟨_, rfl⟩
  have X1 : XZ w g gr cs p w1 := by rw [← hgr, ← hg0]; exact X0
  rw [hgr, hg0]
  clear hw1 X0 hg0 hgr
  go_wp2_with ((with_reducible refine ld ?_ X1.x.x X1.x.v.len ?_); (focus rfl))
  refine (refCheck_15 _ p w1 X1.x.rpv hm).mono ?_
  rintro e w2 ⟨rfl, b2⟩
  have X2 := X1.below b2
  clear X1 b2
  obtain ⟨c, hc⟩ : ∃ c, chk p = c := ⟨_, rfl⟩
  rw [hc]
  by_cases hc0 : c = 0
  · subst hc0
    have HV := Lib.hid (vd_of hc)
    have HR2 := Lib.hid (show R = if insB p f 0 = false then (Mob.zero, 2) else if kindB t = false then (Mob.zero, 1) else (conv p f t, 0) by rw [← HR.out]; unfold convP; rw [if_neg (by rw [hc]; decide)])
    clear HR hc
    go_wp2_with ((with_reducible refine ld ?_ X2.x.x X2.x.v.len ?_); (focus rfl))
    refine (block_51 _ p f 0 (by decide) w2 X2.x.rpv HV.out.l.rng).mono ?_
    rintro e w3 ⟨rfl, b3⟩
    have X3 := X2.below b3
    clear X2 b3
    cases hin : insB p f 0 with
    | false =>
      have HF := Lib.hid (show R = (Mob.zero, 2) by rw [HR2.out, if_pos hin])
      clear hin HR2
      have h1z := (MixP.pv (ownP_zero w 0)).one
      go_wp2_with ((with_reducible refine st26 (cs := zP) ?_ ?_ X3.z zP_len zP_len h1z ?_); (focus rfl); (focus rfl); intro w5 hB5 hg5)
      refine bodyPost_ret (results_p1 rfl _ _ gr zP _ rfl hB5 zP_len rfl) rfl ?_
      rw [HF.out]
      exact ⟨zP, Mob.zero, rfl, ownP_zero _ _, X3.x.b.grown hg5 X3.x.b.size (fun k hk => by cases hk; exact X3.l), sm_zero⟩
    | true =>
      have HIN := Lib.hid hin
      have HR3 := Lib.hid (show R = if kindB t = false then (Mob.zero, 1) else (conv p f t, 0) by rw [HR2.out, if_neg (by rw [hin]; decide)])
      clear HR2
      by_cases htk : t < 0 ∨ 3 ≤ t
      · have HF := Lib.hid (show R = (Mob.zero, 1) by rw [HR3.out, if_pos (by unfold kindB; rw [decide_eq_false_iff_not]; omega)])
        clear hin
        rcases htk with htk | htk
        · have t2 : decide (t < 0) = true := by simpa using htk
          have h1z := (MixP.pv (ownP_zero w 0)).one
          go_wp2_with ((with_reducible refine st26 (cs := zP) ?_ ?_ X3.z zP_len zP_len h1z ?_); (focus rfl); (focus rfl); intro w5 hB5 hg5)
          refine bodyPost_ret (results_p1 rfl _ _ gr zP _ rfl hB5 zP_len rfl) rfl ?_
          rw [HF.out]
          exact ⟨zP, Mob.zero, rfl, ownP_zero _ _, X3.x.b.grown hg5 X3.x.b.size (fun k hk => by cases hk; exact X3.l), sm_zero⟩
        · have t2 : decide (t < 0) = false := by simp; omega
          have t3 : decide (3 ≤ t) = true := by simpa using htk
          have h1z := (MixP.pv (ownP_zero w 0)).one
          go_wp2_with ((with_reducible refine st26 (cs := zP) ?_ ?_ X3.z zP_len zP_len h1z ?_); (focus rfl); (focus rfl); intro w5 hB5 hg5)
          refine bodyPost_ret (results_p1 rfl _ _ gr zP _ rfl hB5 zP_len rfl) rfl ?_
          rw [HF.out]
          exact ⟨zP, Mob.zero, rfl, ownP_zero _ _, X3.x.b.grown hg5 X3.x.b.size (fun k hk => by cases hk; exact X3.l), sm_zero⟩
      · obtain ⟨t, rfl⟩ : ∃ n : Nat, t = (n : Int) := ⟨t.toNat, by omega⟩
        have ht : t < 3 := by omega
        have HF := Lib.hid (show R = (conv p f (t : Int), 0) by rw [HR3.out, if_neg (by unfold kindB; simp; omega)])
        have t2 : decide ((t : Int) < 0) = false := by simp
        have t3 : decide (3 ≤ (t : Int)) = false := by simp; omega
        obtain ⟨i1, i2, _⟩ := ins_open hin
        obtain ⟨hv1, hv2, _⟩ := conv_vd HV.out hin ht
        have HC1 := Lib.hid hv1; have HC2 := Lib.hid hv2
        have HRNG0 := Lib.hid (show ∀ x, Cov (F p) x → p.st ≤ x ∧ x < p.st + 16 * (p.ty.length : Int) from fun x hx => by
          have := cov_range HV.out.l (cov_iff.2 hx); exact ⟨this.1, this.2.1⟩)
        have hb0 : p.st ≤ f := i1
        have hb1 : f < p.st + 16 * (p.ty.length : Int) := i2
        clear htk hin HR3 i1 i2 hv1 hv2
        obtain ⟨st, ty, fr⟩ := p
        obtain ⟨r1, r2, r3, r4, r5, _⟩ := rng_of HV.out.l.rng
        simp only at r1 r2 r3 r4 r5
        obtain ⟨s0, rfl⟩ : ∃ s : Nat, st = (s : Int) := ⟨st.toNat, by omega⟩
        have HRR := Lib.hid (show rngB ⟨(s0 : Int), ty, fun _ => []⟩ = true from HV.out.l.rng)
        obtain ⟨n, hn⟩ : ∃ n, ty.length = n := ⟨_, rfl⟩
        have HN := Lib.hid hn
        rw [hn] at r3 r4 r5
        clear hn r2
        simp only at hb0 hb1
        have hnb : f < (s0 : Int) + 16 * (n : Int) := by have := HN.out; omega
        have HRNG := Lib.hid (show ∀ x, Cov (F ⟨(s0 : Int), ty, fr⟩) x → (s0 : Int) ≤ x ∧ x < (s0 : Int) + 16 * (n : Int) from fun x hx => by have := HRNG0.out x hx; rw [HN.out] at this; exact this)
        obtain ⟨fn, rfl⟩ : ∃ n : Nat, f = (n : Int) := ⟨f.toNat, by omega⟩
        obtain ⟨aT, nT, cT, hT, hnT, _, _, _, hIT⟩ := X3.x.v.types X3.x.x
        obtain rfl : nT = n := by rw [← hnT]; exact HN.out
        have hn0 : 0 < nT := by omega
        clear hnT HRNG0 hb1
        have hn1000 : nT ≤ 1000 := by omega
        go_upto_region 9 with (refine wpList_make_ints _ rfl _ _ rfl .i64 .i64 (nT : Int) (nT : Int) nT rfl rfl rfl rfl hn0 hn1000 ?_; intro w5 hT5 b5)
        have X6 := X3.below b5
        have hlt2 : w.heap.size ≤ w3.heap.size := X3.x.b.size
        obtain ⟨gt, hgt'⟩ : ∃ g, w3.heap.size = g := ⟨_, rfl⟩
        rw [hgt'] at hT5 hlt2 ⊢
        clear hgt' b5 X3 hT hIT
        go_wp2
        go_loopg [10] nT (fun gg v16 wr => ∃ i : Nat, i + gg = nT ∧ v16 = .int .i64 i ∧ XZ w g gr cs ⟨(s0 : Int), ty, fr⟩ wr ∧ Blk wr gt 3 (nums (ty.take i ++ List.replicate (nT - i) 0)))
        case atStart => exact ⟨0, by omega, rfl, X6, by rw [List.take_zero, List.nil_append]; exact hT5⟩
        case round =>
          clear X6 hT5
          obtain ⟨i, hi, rfl, X7, T7⟩ := hrel
          cases gk with
          | zero =>
            obtain rfl : i = nT := by omega
            obtain ⟨n, rfl⟩ : ∃ m, m = i := ⟨_, rfl⟩
            have hin2 : ¬ n < n := by omega
            have T8 : Blk wr gt 3 (nums ty) := by
              have := T7
              rw [List.take_of_length_le (by rw [HN.out]; omega), Nat.sub_self, List.replicate_zero, List.append_nil] at this
              exact this
            clear hi T7
            obtain ⟨qi, hqi⟩ : ∃ i, (((fn : Int) - (s0 : Int)) / 16).toNat = i := ⟨_, rfl⟩
            have e1 : ((fn : Int) - (s0 : Int)).tdiv 16 = (qi : Int) := by rw [Int.tdiv_eq_ediv_of_nonneg (by omega)]; omega
            have hqn : qi < n := by omega
            have hq16 : qi < 16 := by omega
            have HTY := Lib.hid (show (conv ⟨(s0 : Int), ty, fr⟩ (fn : Int) (t : Int)).ty = ty.set qi (t : Int) by rw [← hqi]; rfl)
            have HLEN := Lib.hid (show (ty.set qi (t : Int)).length = n by rw [List.length_set]; exact HN.out)
            have HQR := Lib.hid (show rngB ⟨(s0 : Int), ty.set qi (t : Int), fun _ => []⟩ = true by
              have h2 : rngB ⟨(conv ⟨(s0 : Int), ty, fr⟩ (fn : Int) (t : Int)).st, (conv ⟨(s0 : Int), ty, fr⟩ (fn : Int) (t : Int)).ty, fun _ => []⟩ = true := HC1.out.l.rng
              rw [HTY.out] at h2
              exact h2)
            obtain ⟨y, hy⟩ := get_some HN.out hqn
            have c0 := T8.cell qi
            rw [nums_get hy] at c0
            have f0 := T8.frozen qi
            have h0 := X7.x.v.start X7.x.x
            clear hy hqi
            go_upto_region 14 with fail
            have X9 := XZ.row HV0.out X7 T8 hlt2 qi (.int .i64 (t : Int))
            have T9 := T8.set qi (.int .i64 (t : Int))
            rw [nums_put] at T9
            clear X7 T8 c0 f0 h0
            obtain ⟨wx, hwx⟩ : ∃ W, W = wr.setCell ⟨gt, qi, none⟩ (.int .i64 (t : Int)) := ⟨_, rfl⟩
            rw [← hwx] at X9 T9 ⊢
            clear hwx
            have hst : cs[0]? = some (.int .i64 (s0 : Int)) := X9.x.v.st
            refine wp_region_plan (fun U => Below w.heap.size w U ∧ Blk U g 26 cs) (.quiet [0, 1, 2, 3] (.only 4 (.only 5 (.only 6 (.quiet [7] .done))))) 99 (by kernel_rfl) (by kernel_rfl) ⟨X9.x.b.drew, X9.x.x.later (Below.refl _ _).drew⟩ ?_
            intro W hW hWe
            have bW : Below wx.heap.size wx W := by rw [hWe]; exact (Below.refl _ _).drew
            clear hWe
            simp only [wpPlan, inOrder, List.filterMap_cons, List.filterMap_nil, List.getElem?_cons_zero, List.getElem?_cons_succ]
            have q0 := fun z => ((hold_ok (S0 := fun U => Below w.heap.size w U ∧ Blk U g 26 cs) hW z).2.cell 0).trans hst
            show wpQuiet _ _ _ _ (_ :: _ :: _ :: [_]) _
            go_big_quiet_step (fail)
            go_big_quiet_step (fail)
            go_big_quiet_step (fail)
            refine ldq rfl (fun U ⟨z, hz⟩ => by rw [hz]; exact (hold_ok (S0 := fun U => Below w.heap.size w U ∧ Blk U g 26 cs) hW z).2) X9.x.v.len ?_
            simp only [Act.put, List.setIfInBounds_toArray, List.set_cons_succ, List.set_cons_zero]
            refine wpQuiet_nil ?_
            clear q0 hW
            have X10 := X9.below bW
            have T10 := T9.later bW
            clear X9 T9 bW
            show wpList _ _ _ [_] _ _
            go_wp2_with fail
            refine (set_38 _ _ W X10.x.rpv HV.out.l).mono ?_
            rintro e w4 ⟨gs, rfl, hS4, hls, b4⟩
            have X11 := X10.below b4
            have T11 := T10.later b4
            have HSET := Lib.hid (show ∀ x : Nat, x < 256 → ((cnts (covA ⟨(s0 : Int), ty, fr⟩ 0)).getD x 0 ≠ 0 ↔ Cov (F ⟨(s0 : Int), ty, fr⟩) (x : Int)) from fun x hx => by
              rw [List.getD_eq_getElem?_getD, cnts_get _ hx, ← cnt_pos]
              simp only [Option.getD_some]
              omega)
            clear X10 T10 b4
            go_wp2
            refine ⟨hold_of (S0 := fun U => Below w.heap.size w U ∧ Blk U g 26 cs) ⟨X11.x.b, X11.x.x⟩, ?_⟩
            show wpList _ _ _ [_] _ _
            go_wp2_with fail
            refine (with_41 s0 (some ⟨gt, 0, none⟩) (some ⟨gs, 0, none⟩) (ty.set qi (t : Int)) (cnts (covA ⟨(s0 : Int), ty, fr⟩ 0)) n n 256 w4 (ints_blk T11) (ints_blk hS4) HLEN.out (cnts_len _) _ HQR.out HSET.out HRNG.out).mono ?_
            rintro e w6 ⟨ds, q, rfl, hO, b6, q1, q2, q3, q4⟩
            have X12 := X11.below b6
            have hO6 := MixP.weaken hO X11.x.b.size
            have h1c := (MixP.pv hO6).one
            have hl6 := (MixP.pv hO6).len
            clear hO X11 b6 hS4 T11
            go_wp2
            refine ⟨hold_of (S0 := fun U => Below w.heap.size w U ∧ Blk U g 26 cs) ⟨X12.x.b, X12.x.x⟩, ?_⟩
            show wpList _ _ _ [_] _ _
            go_wp2_with ((with_reducible refine st26 (cs := ds) ?_ ?_ X12.z zP_len hl6 h1c ?_); (focus rfl); (focus rfl); intro w7 hB7 hg7)
            refine ⟨hold_of (S0 := fun U => Below w.heap.size w U ∧ Blk U g 26 cs) ⟨X12.x.b.grown hg7 X12.x.b.size (fun k hk => by cases hk; exact X12.l), X12.x.x.grown hg7 (by simpa using Ne.symm X12.n)⟩, ?_⟩
            show wpQuiet _ _ _ _ [_] _
            simp only [Act.put]
            repeat (go_big_quiet_step (fail))
            refine wpQuiet_nil ?_
            refine NoPanic.normal ?_
            go_wp2
            refine bodyPost_ret (results_p1 rfl _ _ gr ds _ rfl hB7 hl6 rfl) rfl ?_
            rw [HF.out]
            exact ⟨ds, q, rfl, OwnP.grown hO6 X12.z hg7, X12.x.b.grown hg7 X12.x.b.size (fun k hk => by cases hk; exact X12.l), sm_vd HC1.out rfl HTY.out (fun x => by rw [HC2.out]) ⟨q1, q2, q3, q4⟩⟩
          | succ gg =>
            have hin2 : i < nT := by omega
            have HI := Lib.hid hi
            obtain ⟨aT, n2, cT, hT, hnT, _, _, _, hIT⟩ := X7.x.v.types X7.x.x
            obtain rfl : n2 = nT := by rw [← hnT]; exact HN.out
            obtain ⟨x, hx⟩ := get_some HN.out hin2
            obtain ⟨bT, oT, rfl, cx⟩ := hIT.at hx
            have c0 := T7.cell i
            rw [nums_get (lay_ze HN.out hin2)] at c0
            have f0 := T7.frozen i
            have HLS := Lib.hid (lay_st (n := n2) hx hin2)
            clear hi hx hnT hIT
            go_wp2
            have X8 := XZ.row HV0.out X7 T7 hlt2 i (.int .i64 x)
            have T8 := T7.set i (.int .i64 x)
            rw [nums_put, HLS.out] at T8
            clear X7 T7 c0 f0 hT cx
            go_roundg gg
            case rel => exact ⟨i + 1, by have := HI.out; omega, by go_num, X8, T8⟩
            case measure => omega
  · have HF := Lib.hid (show R = (Mob.zero, c) by rw [← HR.out]; unfold convP; rw [if_pos (by rw [hc]; exact hc0), hc])
    have t0 : (c != 0) = true := by simpa using hc0
    have h1z := (MixP.pv (ownP_zero w 0)).one
    go_wp2_with ((with_reducible refine st26 (cs := zP) ?_ ?_ X2.z zP_len zP_len h1z ?_); (focus rfl); (focus rfl); intro w5 hB5 hg5)
    refine bodyPost_ret (results_p1 rfl _ _ gr zP _ rfl hB5 zP_len rfl) rfl ?_
    rw [HF.out]
    exact ⟨zP, Mob.zero, rfl, ownP_zero _ _, X2.x.b.grown hg5 X2.x.b.size (fun k hk => by cases hk; exact X2.l), sm_zero⟩
set_option maxRecDepth 100000 in set_option maxHeartbeats 3200000 in
theorem converts_10 (v : Value) (p : P) (f t : Int) (w : World) (H : Rpv w v p) (hFB : FB w) : Calls Tryd.prog 10 #[v, .int .i64 f, .int .i64 t] w fun e w' => e = .returned (.bool true) ∧ Below w.heap.size w w' := by
  obtain ⟨cs, rfl, hV⟩ := H
  have X0 := PX.new hV
  have HV0 := Lib.hid hV
  clear hV
  go_enter Tryd.func10, Tryd.ntmps10
  go_upto_region 1 with fail
  obtain ⟨w1, hw1⟩ : ∃ W, W = w.alloc (.cells cs.toArray 26) := ⟨_, rfl⟩
  have X1 : PX w w.heap.size cs p w1 := by rw [hw1]; exact X0
  rw [← hw1]
  obtain ⟨g, hg0⟩ : ∃ g, w.heap.size = g := ⟨_, rfl⟩
  rw [hg0] at X1 ⊢
  clear hw1 X0 hg0
  go_wp2_with fail
  refine (awake_12 _ (hFB.below X1.b)).mono ?_
  rintro e w2 ⟨rfl, b2⟩
  have X2 := X1.below b2
  clear X1 b2
  go_wp2_with ((with_reducible refine ldg ?_ ?_ X2.x X2.v.len ?_); (focus rfl); (focus rfl))
  refine (few_13 _ p _ X2.rpv).mono ?_
  rintro e w3 ⟨rfl, b3⟩
  have X3 := X2.below b3
  clear X2 b3
  cases hfew : fewB p with
  | false =>
    go_wp2_with fail
    refine (awake_12 _ (hFB.below X3.b)).mono ?_
    rintro e w4 ⟨rfl, b4⟩
    go_wp2
    go_ret
    exact ⟨rfl, (X3.below b4).b⟩
  | true =>
  have HLB := Lib.hid (few_len hfew)
  have HFEW := Lib.hid (few_all hfew)
  clear hfew
  go_wp2_with ((with_reducible refine ld ?_ X3.x X3.v.len ?_); (focus rfl))
  refine (convert_26 _ p f t w3 X3.rpv).mono ?_
  obtain ⟨RR, hR⟩ : ∃ R, convP p f t = R := ⟨_, rfl⟩
  obtain ⟨pq, c⟩ := RR
  rw [hR]
  have HR := Lib.hid hR
  clear hR
  rintro e w2 ⟨cs1, rfl, hO, b2⟩
  have X4 := X3.below b2
  have hO1w := MixP.weaken hO X3.b.size
  have hz1 := Blk.new w2 26 #[.int .i64 0, .slice none 0 0, .slice none 0 0, .slice none 0 0, .slice none 0 0, .slice none 0 0, .slice none 0 0, .slice none 0 0, .slice none 0 0, .slice none 0 0, .slice none 0 0, .slice none 0 0, .slice none 0 0, .slice none 0 0, .slice none 0 0, .slice none 0 0, .slice none 0 0] zP rfl
  have h11 := (MixP.pv hO1w).one
  have hl1 := (MixP.pv hO1w).len
  go_upto_region 4 with ((with_reducible refine st26 (cs := cs1) ?_ ?_ hz1 zP_len hl1 h11 ?_); (focus rfl); (focus rfl); intro wS hBS hgS)
  have V1 := VP.new hO1w (below_then X3.b b2) hz1 hBS hgS
  have bS : Below w2.heap.size w2 wS := (below_box w2 (.cells #[.int .i64 0, .slice none 0 0, .slice none 0 0, .slice none 0 0, .slice none 0 0, .slice none 0 0, .slice none 0 0, .slice none 0 0, .slice none 0 0, .slice none 0 0, .slice none 0 0, .slice none 0 0, .slice none 0 0, .slice none 0 0, .slice none 0 0, .slice none 0 0, .slice none 0 0] 26)).grown hgS (by simp) (fun k hk => Nat.le_of_eq (Option.some.inj hk))
  obtain ⟨g1, hgq⟩ : ∃ g, w2.heap.size = g := ⟨_, rfl⟩
  rw [hgq] at V1 ⊢
  clear hgq hBS hgS hz1 h11 hl1 hO1w
  have X5 := X4.below bS
  clear hO b2 bS X4 X3
  go_wp2_with ((with_reducible refine ld ?_ X5.x X5.v.len ?_); (focus rfl))
  refine (refConvert_27 _ p f t wS X5.rpv HLB.out).mono ?_
  rw [HR.out]
  rintro e w4 ⟨cs2, q, rfl, hO, b4, hq⟩
  have V2 := V1.below b4
  have X6 := X5.below b4
  have HSQ := Lib.hid hq
  have hO4 := MixP.weaken hO V1.b.size
  clear V1 X5 hq hO b4
  have hz4 := Blk.new w4 26 #[.int .i64 0, .slice none 0 0, .slice none 0 0, .slice none 0 0, .slice none 0 0, .slice none 0 0, .slice none 0 0, .slice none 0 0, .slice none 0 0, .slice none 0 0, .slice none 0 0, .slice none 0 0, .slice none 0 0, .slice none 0 0, .slice none 0 0, .slice none 0 0, .slice none 0 0] zP rfl
  have h14 := (MixP.pv hO4).one
  have hl4 := (MixP.pv hO4).len
  go_upto_region 5 with ((with_reducible refine st26 (cs := cs2) ?_ ?_ hz4 zP_len hl4 h14 ?_); (focus rfl); (focus rfl); intro wT hBT hgT)
  have V4 := VP.new hO4 V2.b hz4 hBT hgT
  have bT : Below w4.heap.size w4 wT := (below_box w4 (.cells #[.int .i64 0, .slice none 0 0, .slice none 0 0, .slice none 0 0, .slice none 0 0, .slice none 0 0, .slice none 0 0, .slice none 0 0, .slice none 0 0, .slice none 0 0, .slice none 0 0, .slice none 0 0, .slice none 0 0, .slice none 0 0, .slice none 0 0, .slice none 0 0, .slice none 0 0] 26)).grown hgT (by simp) (fun k hk => Nat.le_of_eq (Option.some.inj hk))
  have V3 := V2.below bT
  have X7 := X6.below bT
  obtain ⟨g4, hg4⟩ : ∃ g, w4.heap.size = g := ⟨_, rfl⟩
  rw [hg4] at V4 ⊢
  clear hg4 hBT hgT hz4 h14 hl4 hO4 V2 X6 bT
  obtain ⟨ty, hty⟩ : ∃ x, typeP p f = x := ⟨_, rfl⟩
  obtain ⟨ct, hct⟩ : ∃ x, countP p t = x := ⟨_, rfl⟩
  have K1 := fun u => calls_over (same_18 _ _ pq q _ (V3.below (below_over wT u)).rpv (V4.below (below_over wT u)).rpv HSQ.out.1 HSQ.out.2.1 HSQ.out.2.2.1 HSQ.out.2.2.2)
  have K2 := fun u => calls_over (type_24 _ p f _ (X7.below (below_over wT u)).rpv)
  have K3 := fun u => calls_over (refType_28 _ p f _ (X7.below (below_over wT u)).rpv HLB.out)
  have K4 := fun u => calls_over (count_25 _ p t _ (X7.below (below_over wT u)).rpv)
  have K5 := fun u => calls_over (refCount_29 _ p t _ (X7.below (below_over wT u)).rpv HLB.out)
  rw [hty] at K2 K3
  rw [hct] at K4 K5
  have C1 := Lib.hid K1; have C2 := Lib.hid K2; have C3 := Lib.hid K3; have C4 := Lib.hid K4; have C5 := Lib.hid K5
  have tc : (c == c) = true := by simp
  have t1 : (ty == ty) = true := by simp
  have t2 : (ct == ct) = true := by simp
  clear K1 K2 K3 K4 K5 hty hct
  go_wp2_with fail
  refine wp_region_over (by kernel_rfl) (by kernel_rfl) ?_
  repeat (go_big_quiet_step (fail))
  go_big_quiet_want
  rename_i K hK
  refine quiet_run (v := .agg cs1.toArray) (fun w' hw' => ?_) ?_
  · obtain ⟨u, rfl⟩ := hw'
    exact run_load_row rfl g1 rfl 26 cs1.toArray (0, 0) _ (V3.x.later (below_over wT u)) Tryd.underlying26 rfl (by rw [info26]; simp [V3.v.len])
  refine hK _ ?_
  clear hK K
  simp only [Act.put, List.setIfInBounds_toArray, List.set_cons_succ, List.set_cons_zero]
  go_big_quiet_want
  rename_i K hK
  refine quiet_run (v := .agg cs2.toArray) (fun w' hw' => ?_) ?_
  · obtain ⟨u, rfl⟩ := hw'
    exact run_load_row rfl g4 rfl 26 cs2.toArray (0, 0) _ (V4.x.later (below_over wT u)) Tryd.underlying26 rfl (by rw [info26]; simp [V4.v.len])
  refine hK _ ?_
  clear hK K
  simp only [Act.put, List.setIfInBounds_toArray, List.set_cons_succ, List.set_cons_zero]
  go_big_quiet_step ((go_at_call 18; exact C1.out _))
  repeat (go_big_quiet_step (fail))
  go_big_quiet_want
  rename_i K hK
  refine quiet_run (v := .agg cs.toArray) (fun w' hw' => ?_) ?_
  · obtain ⟨u, rfl⟩ := hw'
    exact run_load_row rfl g rfl 26 cs.toArray (0, 0) _ (X7.x.later (below_over wT u)) Tryd.underlying26 rfl (by rw [info26]; simp [X7.v.len])
  refine hK _ ?_
  clear hK K
  simp only [Act.put, List.setIfInBounds_toArray, List.set_cons_succ, List.set_cons_zero]
  go_big_quiet_step (fail)
  go_big_quiet_step ((go_at_call 24; exact C2.out _))
  go_big_quiet_want
  rename_i K hK
  refine quiet_run (v := .agg cs.toArray) (fun w' hw' => ?_) ?_
  · obtain ⟨u, rfl⟩ := hw'
    exact run_load_row rfl g rfl 26 cs.toArray (0, 0) _ (X7.x.later (below_over wT u)) Tryd.underlying26 rfl (by rw [info26]; simp [X7.v.len])
  refine hK _ ?_
  clear hK K
  simp only [Act.put, List.setIfInBounds_toArray, List.set_cons_succ, List.set_cons_zero]
  go_big_quiet_step (fail)
  go_big_quiet_step ((go_at_call 28; exact C3.out _))
  repeat (go_big_quiet_step (fail))
  go_big_quiet_want
  rename_i K hK
  refine quiet_run (v := .agg cs.toArray) (fun w' hw' => ?_) ?_
  · obtain ⟨u, rfl⟩ := hw'
    exact run_load_row rfl g rfl 26 cs.toArray (0, 0) _ (X7.x.later (below_over wT u)) Tryd.underlying26 rfl (by rw [info26]; simp [X7.v.len])
  refine hK _ ?_
  clear hK K
  simp only [Act.put, List.setIfInBounds_toArray, List.set_cons_succ, List.set_cons_zero]
  go_big_quiet_step (fail)
  go_big_quiet_step ((go_at_call 25; exact C4.out _))
  go_big_quiet_want
  rename_i K hK
  refine quiet_run (v := .agg cs.toArray) (fun w' hw' => ?_) ?_
  · obtain ⟨u, rfl⟩ := hw'
    exact run_load_row rfl g rfl 26 cs.toArray (0, 0) _ (X7.x.later (below_over wT u)) Tryd.underlying26 rfl (by rw [info26]; simp [X7.v.len])
  refine hK _ ?_
  clear hK K
  simp only [Act.put, List.setIfInBounds_toArray, List.set_cons_succ, List.set_cons_zero]
  go_big_quiet_step (fail)
  go_big_quiet_step ((go_at_call 29; exact C5.out _))
  repeat (go_big_quiet_step (fail))
  refine wpQuiet_nil ?_
  rintro _ ⟨u, rfl⟩
  have hfin := (X7.below (below_over wT u)).b
  go_wp2
  go_ret
  exact ⟨rfl, hfin⟩
end Go.Proofs.YtkiiifmofmbniaaDoor
