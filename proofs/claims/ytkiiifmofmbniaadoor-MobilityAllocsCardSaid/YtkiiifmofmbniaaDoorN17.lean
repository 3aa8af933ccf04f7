/- Walks: a request is served, of the document. -/
import Derived.Test.YtkiiifmofmbniaaDoorN16
namespace Go.Mob
open Go.Can
theorem lay_step' {s : List Int} {i n : Nat} {x : Int} (hs : s[i]? = some x) (hi : i < n) : (s.take i ++ List.replicate (n - i) 0).set i x = s.take (i + 1) ++ List.replicate (n - (i + 1)) 0 := by
  have hlt : i < s.length := by rw [List.getElem?_eq_some_iff] at hs; exact hs.1
  have hl : (s.take i).length = i := by rw [List.length_take]; omega
  rw [List.set_append_right _ _ (by omega), hl, Nat.sub_self, List.take_add_one, hs, show n - i = (n - (i + 1)) + 1 by omega, List.replicate_succ, List.set_cons_zero]
  simp
theorem lay_zero {s : List Int} {i n : Nat} (hs : s.length = n) (hi : i < n) : (s.take i ++ List.replicate (n - i) 0)[i]? = some 0 := by
  have hl : (s.take i).length = i := by rw [List.length_take, hs]; omega
  rw [List.getElem?_append_right (by omega), hl, Nat.sub_self, List.getElem?_replicate, if_pos (by omega)]
/-- What a request that is served gives. -/
theorem alloc_ty {p : P} (h : Vd p) {k t : Nat} (hk : k < 5) (ht : t < 3) {u : Int} {j : Nat} (hf : find p k (t : Int) = some (u, j)) :
    ∃ q, allocP p (k : Int) (t : Int) = (q, (p.fr (base u + j)).getD 0 0, 0) ∧ Took p k q ((p.fr (base u + j)).getD 0 0) ∧ q.ty = if u ≠ (t : Int) ∧ 3 ≤ j then p.ty.set (((p.fr (base u + j)).getD 0 0 - p.st) / 16).toNat (t : Int) else p.ty := by
  obtain ⟨q, f, e, T, _⟩ := alloc_ok h hk ht hf
  have e0 : allocP p (k : Int) (t : Int) = ((takeP p u j k t).1, (takeP p u j k t).2, 0) := by
    unfold allocP
    rw [if_neg (by rw [chk_of h]; decide), if_neg (by omega), if_neg (by unfold kindB; simp; omega), Int.toNat_natCast, hf]
  rw [e] at e0
  have h1 : q = (takeP p u j k t).1 := (Prod.mk.inj e0).1
  have h2 : f = (takeP p u j k t).2 := (Prod.mk.inj (Prod.mk.inj e0).2).1
  have h3 : f = (p.fr (base u + j)).getD 0 0 := by rw [h2]; rfl
  rw [← h3]
  refine ⟨q, e, T, ?_⟩
  rw [h1]
  have hty : (takeP p u j k t).1.ty = (if u ≠ (t : Int) ∧ 3 ≤ j then conv p ((p.fr (base u + j)).getD 0 0) (t : Int) else p).ty := rfl
  rw [hty, ← h3]
  split <;> rfl
end Go.Mob
namespace Go.Proofs.YtkiiifmofmbniaaDoor
open Go.RowKit Go.Over Go.Mob Go.Can Go.Seg Go.Grow
set_option maxRecDepth 100000 in set_option maxHeartbeats 3200000 in
theorem refAlloc_20 (v : Value) (p : P) (o t : Int) (w : World) (H : Rpv w v p) (hm : lenB p) : Calls Tryd.prog 20 #[v, .int .i64 o, .int .i64 t] w (AnsS2 w (allocP p o t)) := by
  obtain ⟨R, hR⟩ : ∃ R, allocP p o t = R := ⟨_, rfl⟩
  rw [hR]
  have HR := Lib.hid hR
  clear hR
  obtain ⟨cs, rfl, hV⟩ := H
  have X0 := XZ.new hV
  have HV0 := Lib.hid hV
  clear hV
  go_enter Tryd.func20, Tryd.ntmps20
  go_upto_region 1 with fail
  obtain ⟨w1, hw1⟩ : ∃ W, W = (w.alloc (.cells cs.toArray 26)).alloc (.cells #[.int .i64 0, .slice none 0 0, .slice none 0 0, .slice none 0 0, .slice none 0 0, .slice none 0 0, .slice none 0 0, .slice none 0 0, .slice none 0 0, .slice none 0 0, .slice none 0 0, .slice none 0 0, .slice none 0 0, .slice none 0 0, .slice none 0 0, .slice none 0 0, .slice none 0 0] 26) := ⟨_, rfl⟩
  rw [← hw1] at X0 ⊢
  obtain ⟨gr, hgr⟩ : ∃ g, w.heap.size + 1 = g := ⟨_, rfl⟩
  obtain ⟨g, hg0⟩ : ∃ g, w.heap.size = g := ⟨_, rfl⟩
  have X1 : XZ w g gr cs p w1 := by rw [← hgr, ← hg0]; exact X0
  rw [hgr, hg0]
  clear hw1 X0 hg0 hgr
  go_wp2_with ((with_reducible refine ld ?_ X1.x.x X1.x.v.len ?_); (focus rfl))
  refine (refCheck_15 _ p w1 X1.x.rpv hm).mono ?_
  rintro e w2 ⟨rfl, b2⟩
  have X2 := X1.below b2
  clear X1 b2
  obtain ⟨c, hc⟩ : ∃ c, chk p = c := ⟨_, rfl⟩
  rw [hc]
  by_cases hc0 : c = 0
  · subst hc0
    have HV := Lib.hid (vd_of hc)
    have HR2 := Lib.hid (show R = if o < 0 ∨ 4 < o then (Mob.zero, 0, 2) else if kindB t = false then (Mob.zero, 0, 1) else serveP p o.toNat t by rw [← HR.out]; exact if_neg (by rw [hc]; decide))
    clear hc
    by_cases ho : o < 0 ∨ 4 < o
    · have HF := Lib.hid (show R = (Mob.zero, 0, 2) by rw [HR2.out, if_pos ho])
      rcases ho with ho | ho
      · have t1 : decide (o < 0) = true := by simpa using ho
        have h1z := (MixP.pv (ownP_zero w 0)).one
        go_wp2_with ((with_reducible refine st26 (cs := zP) ?_ ?_ X2.z zP_len zP_len h1z ?_); (focus rfl); (focus rfl); intro w5 hB5 hg5)
        refine bodyPost_ret (results_p2 rfl _ _ gr zP _ _ rfl hB5 zP_len rfl rfl) rfl ?_
        rw [HF.out]
        exact ⟨zP, Mob.zero, rfl, ownP_zero _ _, X2.x.b.grown hg5 X2.x.b.size (fun k hk => by cases hk; exact X2.l), sm_zero⟩
      · have t0 : decide (o < 0) = false := by simp; omega
        have t1 : decide (4 < o) = true := by simpa using ho
        have h1z := (MixP.pv (ownP_zero w 0)).one
        go_wp2_with ((with_reducible refine st26 (cs := zP) ?_ ?_ X2.z zP_len zP_len h1z ?_); (focus rfl); (focus rfl); intro w5 hB5 hg5)
        refine bodyPost_ret (results_p2 rfl _ _ gr zP _ _ rfl hB5 zP_len rfl rfl) rfl ?_
        rw [HF.out]
        exact ⟨zP, Mob.zero, rfl, ownP_zero _ _, X2.x.b.grown hg5 X2.x.b.size (fun k hk => by cases hk; exact X2.l), sm_zero⟩
    · obtain ⟨k, rfl⟩ : ∃ k : Nat, o = (k : Int) := ⟨o.toNat, by omega⟩
      have hk5 : k < 5 := by omega
      rw [Int.toNat_natCast, if_neg ho] at HR2
      have t0 : decide ((k : Int) < 0) = false := by simp
      have t1 : decide (4 < (k : Int)) = false := by simp; omega
      by_cases htk : t < 0 ∨ 3 ≤ t
      · have HF := Lib.hid (show R = (Mob.zero, 0, 1) by rw [HR2.out, if_pos (by unfold kindB; rw [decide_eq_false_iff_not]; omega)])
        rcases htk with htk | htk
        · have t2 : decide (t < 0) = true := by simpa using htk
          have h1z := (MixP.pv (ownP_zero w 0)).one
          go_wp2_with ((with_reducible refine st26 (cs := zP) ?_ ?_ X2.z zP_len zP_len h1z ?_); (focus rfl); (focus rfl); intro w5 hB5 hg5)
          refine bodyPost_ret (results_p2 rfl _ _ gr zP _ _ rfl hB5 zP_len rfl rfl) rfl ?_
          rw [HF.out]
          exact ⟨zP, Mob.zero, rfl, ownP_zero _ _, X2.x.b.grown hg5 X2.x.b.size (fun k hk => by cases hk; exact X2.l), sm_zero⟩
        · have t2 : decide (t < 0) = false := by simp; omega
          have t3 : decide (3 ≤ t) = true := by simpa using htk
          have h1z := (MixP.pv (ownP_zero w 0)).one
          go_wp2_with ((with_reducible refine st26 (cs := zP) ?_ ?_ X2.z zP_len zP_len h1z ?_); (focus rfl); (focus rfl); intro w5 hB5 hg5)
          refine bodyPost_ret (results_p2 rfl _ _ gr zP _ _ rfl hB5 zP_len rfl rfl) rfl ?_
          rw [HF.out]
          exact ⟨zP, Mob.zero, rfl, ownP_zero _ _, X2.x.b.grown hg5 X2.x.b.size (fun k hk => by cases hk; exact X2.l), sm_zero⟩
      · obtain ⟨t, rfl⟩ : ∃ n : Nat, t = (n : Int) := ⟨t.toNat, by omega⟩
        have ht : t < 3 := by omega
        rw [if_neg (by unfold kindB; simp; omega)] at HR2
        have t2 : decide ((t : Int) < 0) = false := by simp
        have t3 : decide (3 ≤ (t : Int)) = false := by simp; omega
        clear htk ho
        go_wp2_with ((with_reducible refine ld ?_ X2.x.x X2.x.v.len ?_); (focus rfl))
        refine (choose_49 _ p k t w2 X2.x.rpv ht hk5).mono ?_
        rintro e w3 ⟨rfl, b3⟩
        have X3 := X2.below b3
        clear X2 b3
        cases hfd : find p k (t : Int) with
        | none =>
          have HF := Lib.hid (show R = (Mob.zero, 0, 16) by rw [HR2.out]; unfold serveP; rw [hfd])
          clear hfd HR2
          simp only [chF]
          have h1z := (MixP.pv (ownP_zero w 0)).one
          go_wp2_with ((with_reducible refine st26 (cs := zP) ?_ ?_ X3.z zP_len zP_len h1z ?_); (focus rfl); (focus rfl); intro w5 hB5 hg5)
          refine bodyPost_ret (results_p2 rfl _ _ gr zP _ _ rfl hB5 zP_len rfl rfl) rfl ?_
          rw [HF.out]
          exact ⟨zP, Mob.zero, rfl, ownP_zero _ _, X3.x.b.grown hg5 X3.x.b.size (fun k hk => by cases hk; exact X3.l), sm_zero⟩
        | some r =>
          obtain ⟨u, j⟩ := r
          obtain ⟨q0, hal, hTk, hty⟩ := alloc_ty HV.out hk5 ht hfd
          obtain ⟨cv, hcv⟩ : ∃ b, decide (u ≠ (t : Int) ∧ 3 ≤ j) = b := ⟨_, rfl⟩
          obtain ⟨f, hf⟩ : ∃ f, (p.fr (base u + j)).getD 0 0 = f := ⟨_, rfl⟩
          rw [hf] at hal hTk hty
          have HF := Lib.hid (show R = (q0, f, 0) by rw [← HR.out]; exact hal)
          have HTK := Lib.hid hTk
          have HTY0 := Lib.hid (show q0.ty = if cv = true then p.ty.set ((f - p.st) / 16).toNat (t : Int) else p.ty by
            rw [hty, ← hcv]
            by_cases h : u ≠ (t : Int) ∧ 3 ≤ j
            · rw [if_pos h, if_pos (decide_eq_true h)]
            · rw [if_neg h, if_neg (by rw [decide_eq_false h]; decide)])
          have hin := hTk.r.2
          obtain ⟨z1, z2, z3⟩ := ins_lt HV.out.l.rng hk5 hin
          obtain ⟨i1, i2, _⟩ := ins_open hin
          simp only [chF]
          rw [hcv, hf]
          clear hfd hal hTk hty hcv hf HR2 HR
          obtain ⟨fn, rfl⟩ : ∃ n : Nat, f = (n : Int) := ⟨f.toNat, by omega⟩
          obtain ⟨m, hm1⟩ : ∃ m, 2 ^ k = m := ⟨_, rfl⟩
          have hfm : fn + m ≤ 256 := by
            have : (fn : Int) + ((2 ^ k : Nat) : Int) ≤ 256 := z3
            rw [hm1] at this; omega
          have hm16 : m ≤ 16 := by rw [← hm1]; exact pow_le16 hk5
          have HWM := Lib.hid (show wrap64 ((2 : Int) ^ k) = (m : Int) by rw [← hm1]; exact wrap_pow hk5)
          have hwm : ∀ i : Nat, i = k → wrap64 ((2 : Int) ^ i) = (m : Int) := fun i hi => by subst hi; exact HWM.out
          have HM1 := Lib.hid hm1
          clear hm1 z1 z2 z3
          go_wp2_with ((with_reducible refine ld ?_ X3.x.x X3.x.v.len ?_); (focus rfl))
          refine (set_38 _ p w3 X3.x.rpv HV.out.l).mono ?_
          rintro e w4 ⟨gs, rfl, hS4, hls, b4⟩
          have X4 := X3.below b4
          have hlg : w.heap.size ≤ gs := by have := X3.x.b.size; omega
          clear X3 b4 hls
          go_wp2
          go_loopg [14] m (fun gg v14 wr => ∃ (j : Nat) (lv : List Int), j + gg = m ∧ v14 = .int .i64 ((fn + j : Nat) : Int) ∧ XZ w g gr cs p wr ∧ Blk wr gs 3 (nums lv) ∧ lv.length = 256 ∧ (∀ x : Nat, x < 256 → (lv.getD x 0 ≠ 0 ↔ Cov (F p) (x : Int) ∧ ¬ (fn ≤ x ∧ x < fn + j))))
          case atStart => exact ⟨0, _, by omega, by rw [Nat.add_zero], X4, hS4, cnts_len _, fun x hx => by
            rw [List.getD_eq_getElem?_getD, cnts_get _ hx, ← cnt_pos]
            simp only [Option.getD_some]
            omega⟩
          case round =>
            clear X4 hS4
            obtain ⟨j2, lv, hj, rfl, X5, S5, hll, hmk⟩ := hrel
            have HLL := Lib.hid hll; have HMK := Lib.hid hmk
            obtain ⟨xq, hxq⟩ : ∃ x, fn + j2 = x := ⟨_, rfl⟩
            clear hll hmk
            cases gk with
            | zero =>
              obtain rfl : j2 = m := by omega
              have tq : decide ((xq : Int) < (fn : Int) + (j2 : Int)) = false := by simp; omega
              rw [hxq]
              have HSET := Lib.hid (show ∀ x : Nat, x < 256 → (lv.getD x 0 ≠ 0 ↔ (Cov (F p) (x : Int) ∧ ¬ In (fn : Int) k (x : Int))) from fun x hx => by
                rw [HMK.out x hx]
                unfold In pw
                rw [HM1.out]
                exact ⟨fun h => ⟨h.1, by omega⟩, fun h => ⟨h.1, by omega⟩⟩)
              have HRNG0 := Lib.hid (show ∀ x, (Cov (F p) x ∧ ¬ In (fn : Int) k x) → p.st ≤ x ∧ x < p.st + 16 * (p.ty.length : Int) from fun x hx => by
                have := cov_range HV.out.l (cov_iff.2 hx.1); exact ⟨this.1, this.2.1⟩)
              have hb0 : p.st ≤ (fn : Int) := i1
              have hb1 : (fn : Int) < p.st + 16 * (p.ty.length : Int) := i2
              clear hj hxq HMK
              obtain ⟨st, ty, fr⟩ := p
              obtain ⟨r1, r2, r3, r4, r5, _⟩ := rng_of HV.out.l.rng
              simp only at r1 r2 r3 r4 r5
              obtain ⟨s0, rfl⟩ : ∃ s : Nat, st = (s : Int) := ⟨st.toNat, by omega⟩
              have HRR := Lib.hid (show rngB ⟨(s0 : Int), ty, fun _ => []⟩ = true from HV.out.l.rng)
              obtain ⟨n, hn⟩ : ∃ n, ty.length = n := ⟨_, rfl⟩
              have HN := Lib.hid hn
              rw [hn] at r3 r4 r5
              clear hn r2
              simp only at hb0 hb1
              have hnb : (fn : Int) < (s0 : Int) + 16 * (n : Int) := by have := HN.out; omega
              have HRNG := Lib.hid (show ∀ x, (Cov (F ⟨(s0 : Int), ty, fr⟩) x ∧ ¬ In (fn : Int) k x) → (s0 : Int) ≤ x ∧ x < (s0 : Int) + 16 * (n : Int) from fun x hx => by have := HRNG0.out x hx; rw [HN.out] at this; exact this)
              obtain ⟨aT, nT, cT, hT, hnT, _, _, _, hIT⟩ := X5.x.v.types X5.x.x
              obtain rfl : nT = n := by rw [← hnT]; exact HN.out
              have hn0 : 0 < nT := by omega
              clear hnT HRNG0 hb1
              have hn1000 : nT ≤ 1000 := by omega
              go_upto_region 17 with (refine wpList_make_ints _ rfl _ _ rfl .i64 .i64 (nT : Int) (nT : Int) nT rfl rfl rfl rfl hn0 hn1000 ?_; intro w5 hT5 b5)
              have X6 := X5.below b5
              have S6 := S5.later b5
              have hgt : gs < wr.heap.size := S5.lt
              have hlt2 : w.heap.size ≤ wr.heap.size := X5.x.b.size
              obtain ⟨gt, hgt'⟩ : ∃ g, wr.heap.size = g := ⟨_, rfl⟩
              rw [hgt'] at hT5 hgt hlt2 ⊢
              have hne : gs ≠ gt := by omega
              clear hgt' b5 X5 S5 hT hIT
              go_wp2
              go_loopg [16] nT (fun gg v16 wr => ∃ i : Nat, i + gg = nT ∧ v16 = .int .i64 i ∧ XZ w g gr cs ⟨(s0 : Int), ty, fr⟩ wr ∧ Blk wr gs 3 (nums lv) ∧ Blk wr gt 3 (nums (ty.take i ++ List.replicate (nT - i) 0)))
              case atStart => exact ⟨0, by omega, rfl, X6, S6, by rw [List.take_zero, List.nil_append]; exact hT5⟩
              case round =>
                clear X6 S6 hT5
                obtain ⟨i, hi, rfl, X7, S7, T7⟩ := hrel
                cases gk with
                | zero =>
                  obtain rfl : i = nT := by omega
                  obtain ⟨n, rfl⟩ : ∃ m, m = i := ⟨_, rfl⟩
                  have hin2 : ¬ n < n := by omega
                  have T8 : Blk wr gt 3 (nums ty) := by
                    have := T7
                    rw [List.take_of_length_le (by rw [HN.out]; omega), Nat.sub_self, List.replicate_zero, List.append_nil] at this
                    exact this
                  clear hi T7
                  cases cv with
                  | false =>
                    have HTY := Lib.hid (show q0.ty = ty by rw [HTY0.out, if_neg (by decide)])
                    have HQR := Lib.hid (show rngB ⟨(s0 : Int), ty, fun _ => []⟩ = true from HRR.out)
                    have X9 := X7; have S9 := S7; have T9 := T8
                    clear X7 S7 T8
                    obtain ⟨aT, nT, cT, hT, hnT, _, _, _, hIT⟩ := X9.x.v.types X9.x.x
                    have h0 := X9.x.v.start X9.x.x
                    go_wp2_with fail
                    clear hT h0
                    refine (with_41 s0 (some ⟨gt, 0, none⟩) (some ⟨gs, 0, none⟩) ty lv n n 256 wr (ints_blk T9) (ints_blk S9) HN.out HLL.out _ HQR.out HSET.out HRNG.out).mono ?_
                    rintro e w6 ⟨ds, q, rfl, hO, b6, q1, q2, q3, q4⟩
                    have X10 := X9.below b6
                    have hO6 := MixP.weaken hO X9.x.b.size
                    have h1c := (MixP.pv hO6).one
                    have hl6 := (MixP.pv hO6).len
                    clear hO X9 b6 S9 T9
                    go_wp2_with ((with_reducible refine st26 (cs := ds) ?_ ?_ X10.z zP_len hl6 h1c ?_); (focus rfl); (focus rfl); intro w7 hB7 hg7)
                    refine bodyPost_ret (results_p2 rfl _ _ gr ds _ _ rfl hB7 hl6 rfl rfl) rfl ?_
                    rw [HF.out]
                    exact ⟨ds, q, rfl, OwnP.grown hO6 X10.z hg7, X10.x.b.grown hg7 X10.x.b.size (fun k hk => by cases hk; exact X10.l), sm_vd HTK.out.v HTK.out.s HTY.out HTK.out.c ⟨q1, q2, q3, q4⟩⟩
                  | true =>
                    obtain ⟨qi, hqi⟩ : ∃ i, (((fn : Int) - (s0 : Int)) / 16).toNat = i := ⟨_, rfl⟩
                    have e1 : ((fn : Int) - (s0 : Int)).tdiv 16 = (qi : Int) := by rw [Int.tdiv_eq_ediv_of_nonneg (by omega)]; omega
                    have hqn : qi < n := by omega
                    have hq16 : qi < 16 := by omega
                    have HTY := Lib.hid (show q0.ty = ty.set qi (t : Int) by rw [HTY0.out, if_pos rfl, ← hqi])
                    have HLEN := Lib.hid (show (ty.set qi (t : Int)).length = n by rw [List.length_set]; exact HN.out)
                    have HQR := Lib.hid (show rngB ⟨(s0 : Int), ty.set qi (t : Int), fun _ => []⟩ = true by
                      have h1 := HTK.out.v.l.rng
                      have h2 : rngB ⟨q0.st, q0.ty, fun _ => []⟩ = true := h1
                      rw [HTY.out, HTK.out.s] at h2
                      exact h2)
                    obtain ⟨y, hy⟩ := get_some HN.out hqn
                    have c0 := T8.cell qi
                    rw [nums_get hy] at c0
                    have f0 := T8.frozen qi
                    have h0 := X7.x.v.start X7.x.x
                    clear hy hqi
                    go_upto_region 23 with fail
                    have X9 := XZ.row HV0.out X7 T8 hlt2 qi (.int .i64 (t : Int))
                    have S9 := S7.far (p := ⟨gt, qi, none⟩) hne (.int .i64 (t : Int))
                    have T9 := T8.set qi (.int .i64 (t : Int))
                    rw [nums_put] at T9
                    clear X7 S7 T8 c0 f0 h0
                    obtain ⟨wx, hwx⟩ : ∃ W, W = wr.setCell ⟨gt, qi, none⟩ (.int .i64 (t : Int)) := ⟨_, rfl⟩
                    rw [← hwx] at X9 S9 T9 ⊢
                    clear hwx
                    obtain ⟨aT, nT, cT, hT, hnT, _, _, _, hIT⟩ := X9.x.v.types X9.x.x
                    have h0 := X9.x.v.start X9.x.x
                    go_wp2_with fail
                    clear hT h0
                    refine (with_41 s0 (some ⟨gt, 0, none⟩) (some ⟨gs, 0, none⟩) (ty.set qi (t : Int)) lv n n 256 wx (ints_blk T9) (ints_blk S9) HLEN.out HLL.out _ HQR.out HSET.out HRNG.out).mono ?_
                    rintro e w6 ⟨ds, q, rfl, hO, b6, q1, q2, q3, q4⟩
                    have X10 := X9.below b6
                    have hO6 := MixP.weaken hO X9.x.b.size
                    have h1c := (MixP.pv hO6).one
                    have hl6 := (MixP.pv hO6).len
                    clear hO X9 b6 S9 T9
                    go_wp2_with ((with_reducible refine st26 (cs := ds) ?_ ?_ X10.z zP_len hl6 h1c ?_); (focus rfl); (focus rfl); intro w7 hB7 hg7)
                    refine bodyPost_ret (results_p2 rfl _ _ gr ds _ _ rfl hB7 hl6 rfl rfl) rfl ?_
                    rw [HF.out]
                    exact ⟨ds, q, rfl, OwnP.grown hO6 X10.z hg7, X10.x.b.grown hg7 X10.x.b.size (fun k hk => by cases hk; exact X10.l), sm_vd HTK.out.v HTK.out.s HTY.out HTK.out.c ⟨q1, q2, q3, q4⟩⟩
                | succ gg =>
                  have hin2 : i < nT := by omega
                  have HI := Lib.hid hi
                  obtain ⟨aT, n2, cT, hT, hnT, _, _, _, hIT⟩ := X7.x.v.types X7.x.x
                  obtain rfl : n2 = nT := by rw [← hnT]; exact HN.out
                  obtain ⟨x, hx⟩ := get_some HN.out hin2
                  obtain ⟨bT, oT, rfl, cx⟩ := hIT.at hx
                  have c0 := T7.cell i
                  rw [nums_get (lay_zero HN.out hin2)] at c0
                  have f0 := T7.frozen i
                  have HLS := Lib.hid (lay_step' (n := n2) hx hin2)
                  clear hi hx hnT hIT
                  go_wp2
                  have X8 := XZ.row HV0.out X7 T7 hlt2 i (.int .i64 x)
                  have S8 := S7.far (p := ⟨gt, i, none⟩) hne (.int .i64 x)
                  have T8 := T7.set i (.int .i64 x)
                  rw [nums_put, HLS.out] at T8
                  clear X7 S7 T7 c0 f0 hT cx
                  go_roundg gg
                  case rel => exact ⟨i + 1, by have := HI.out; omega, by go_num, X8, S8, T8⟩
                  case measure => omega
            | succ gg =>
              have hjm : j2 < m := by omega
              have tq : decide ((xq : Int) < (fn : Int) + (m : Int)) = true := by simp; omega
              have hx256 : xq < 256 := by omega
              obtain ⟨y, hy⟩ := get_some HLL.out hx256
              have c0 := S5.cell xq
              rw [nums_get hy] at c0
              have f0 := S5.frozen xq
              have HJ := Lib.hid hj; have HXQ := Lib.hid hxq
              rw [hxq]
              clear hj hxq hy
              go_wp2
              have X6 := XZ.row HV0.out X5 S5 hlg xq (.int .i64 0)
              have S6 := S5.set xq (.int .i64 0)
              rw [nums_put] at S6
              clear X5 S5 c0 f0
              go_roundg gg
              case rel =>
                refine ⟨j2 + 1, _, by have := HJ.out; omega, by have := HXQ.out; rw [show fn + (j2 + 1) = xq + 1 by omega]; go_num, X6, S6, by rw [List.length_set]; exact HLL.out, fun x hx => ?_⟩
                rw [getD_set (by rw [HLL.out]; exact hx256)]
                have hxe := HXQ.out
                by_cases e : x = xq
                · rw [if_pos e]
                  exact ⟨fun h => absurd rfl h, fun h => absurd (by omega) h.2⟩
                · rw [if_neg e, HMK.out x hx]
                  exact ⟨fun h => ⟨h.1, by omega⟩, fun h => ⟨h.1, by omega⟩⟩
              case measure => omega
  · have HF := Lib.hid (show R = (Mob.zero, 0, c) by rw [← HR.out]; unfold allocP; rw [if_pos (by rw [hc]; exact hc0), hc])
    have t0 : (c != 0) = true := by simpa using hc0
    have h1z := (MixP.pv (ownP_zero w 0)).one
    go_wp2_with ((with_reducible refine st26 (cs := zP) ?_ ?_ X2.z zP_len zP_len h1z ?_); (focus rfl); (focus rfl); intro w5 hB5 hg5)
    refine bodyPost_ret (results_p2 rfl _ _ gr zP _ _ rfl hB5 zP_len rfl rfl) rfl ?_
    rw [HF.out]
    exact ⟨zP, Mob.zero, rfl, ownP_zero _ _, X2.x.b.grown hg5 X2.x.b.size (fun k hk => by cases hk; exact X2.l), sm_zero⟩
end Go.Proofs.YtkiiifmofmbniaaDoor
