/- Walks: a block is given back, of the document. -/
import Derived.Test.YtkiiifmofmbniaaDoorN14
namespace Go.Mob
open Go.Can
theorem anyFree_iff {p : P} (h : Vd p) : ∀ {n : Nat} {f : Int}, (∀ i : Nat, i < n → insB p (f + (i : Int)) 0 = true) → (anyFree p f n = true ↔ ∃ i : Nat, i < n ∧ Cov (F p) (f + (i : Int)))
  | 0, f, _ => by
    constructor
    · intro h; cases h
    · rintro ⟨i, hi, _⟩; omega
  | n + 1, f, hh => by
    unfold anyFree
    have h0 := hh 0 (by omega)
    simp only [Int.natCast_zero, Int.add_zero] at h0
    rw [Bool.or_eq_true, isFree_iff h h0, anyFree_iff h (n := n) (f := f + 1) fun i hi => by
      have := hh (i + 1) (by omega)
      rwa [show f + ((i + 1 : Nat) : Int) = f + 1 + (i : Int) by omega] at this]
    constructor
    · rintro (h1 | ⟨i, h1, h2⟩)
      · exact ⟨0, by omega, by simpa using h1⟩
      · exact ⟨i + 1, by omega, by rwa [show f + ((i + 1 : Nat) : Int) = f + 1 + (i : Int) by omega]⟩
    · rintro ⟨i, h1, h2⟩
      cases i with
      | zero => exact .inl (by simpa using h2)
      | succ i => exact .inr ⟨i, by omega, by rwa [show f + ((i + 1 : Nat) : Int) = f + 1 + (i : Int) by omega] at h2⟩
theorem cnt_pos {p : P} {x : Nat} : 0 < (covA p 0).count (x : Int) ↔ Cov (F p) (x : Int) := by
  rw [List.count_pos_iff]; exact cov_iff
theorem in_zero {p : P} {f : Int} {k : Nat} (hr : rngB p = true) (hk : k < 5) (h : insB p f k = true) {i : Nat} (hi : i < 2 ^ k) : insB p (f + (i : Int)) 0 = true := by
  obtain ⟨i1, i2, _⟩ := ins_open h
  obtain ⟨_, z2, _⟩ := ins_lt hr hk h
  have : (i : Int) < pw k := by unfold pw; omega
  unfold insB
  rw [decide_eq_true_eq, pw_zero]
  omega
end Go.Mob
namespace Go.Proofs.YtkiiifmofmbniaaDoor
open Go.RowKit Go.Over Go.Mob Go.Can Go.Seg Go.Grow
/-- What a call of the document's gives: the program's answer. -/
def AnsS (w : World) (R : P × Int) (e : Ending) (w' : World) : Prop := ∃ cs q, e = .returned (.tuple #[.agg cs.toArray, .int .i64 R.2]) ∧ OwnP w' w.heap.size cs q ∧ Below w.heap.size w w' ∧ Sm R.1 q
def AnsS2 (w : World) (R : P × Int × Int) (e : Ending) (w' : World) : Prop := ∃ cs q, e = .returned (.tuple #[.agg cs.toArray, .int .i64 R.2.1, .int .i64 R.2.2]) ∧ OwnP w' w.heap.size cs q ∧ Below w.heap.size w w' ∧ Sm R.1 q
/-- A number of a row that is the call's own is set: the variables of argument and result stay. -/
theorem XZ.row {w W : World} {g gr gs : Nat} {cs bs : List Value} {p : P} (hV : PV w cs p) (h : XZ w g gr cs p W) (hB : Blk W gs 3 bs) (hl : w.heap.size ≤ gs) (i : Nat) (u : Value) : XZ w g gr cs p (W.setCell ⟨gs, i, none⟩ u) :=
  ⟨PX.row hV h.x hB hl i u, h.z.far (p := ⟨gs, i, none⟩) (h.z.ne_type hB (by decide)) u, h.n, h.l⟩
set_option maxRecDepth 100000 in set_option maxHeartbeats 3200000 in
theorem refFree_22 (v : Value) (p : P) (f o : Int) (w : World) (H : Rpv w v p) (hm : lenB p) : Calls Tryd.prog 22 #[v, .int .i64 f, .int .i64 o] w (AnsS w (freeP p f o)) := by
  obtain ⟨R, hR⟩ : ∃ R, freeP p f o = R := ⟨_, rfl⟩
  rw [hR]
  have HR := Lib.hid hR
  clear hR
  obtain ⟨cs, rfl, hV⟩ := H
  have X0 := XZ.new hV
  have HV0 := Lib.hid hV
  clear hV
  go_enter Tryd.func22, Tryd.ntmps22
  go_upto_region 1 with fail
  obtain ⟨w1, hw1⟩ : ∃ W, W = (w.alloc (.cells cs.toArray 26)).alloc (.cells #[.int .i64 0, .slice none 0 0, .slice none 0 0, .slice none 0 0, .slice none 0 0, .slice none 0 0, .slice none 0 0, .slice none 0 0, .slice none 0 0, .slice none 0 0, .slice none 0 0, .slice none 0 0, .slice none 0 0, .slice none 0 0, .slice none 0 0, .slice none 0 0, .slice none 0 0] 26) := ⟨_, rfl⟩
  rw [← hw1] at X0 ⊢
  obtain ⟨gr, hgr⟩ : ∃ g, w.heap.size + 1 = g := ⟨_, rfl⟩
  obtain ⟨g, hg0⟩ : ∃ g, w.heap.size = g := ⟨_, rfl⟩
  have X1 : XZ w g gr cs p w1 := by rw [← hgr, ← hg0]; exact X0
  rw [hgr, hg0]
  clear hw1 X0 hg0 hgr
  go_wp2_with ((with_reducible refine ld ?_ X1.x.x X1.x.v.len ?_); (focus rfl))
  refine (refCheck_15 _ p w1 X1.x.rpv hm).mono ?_
  rintro e w2 ⟨rfl, b2⟩
  have X2 := X1.below b2
  clear X1 b2
  obtain ⟨c, hc⟩ : ∃ c, chk p = c := ⟨_, rfl⟩
  rw [hc]
  by_cases hc0 : c = 0
  · subst hc0
    have HV := Lib.hid (vd_of hc)
    have HR2 := Lib.hid (show R = if o < 0 ∨ 4 < o ∨ insB p f o.toNat = false then (Mob.zero, 2) else if anyFree p f (2 ^ o.toNat) = true then (Mob.zero, 7) else (putP p f o.toNat, 0) by rw [← HR.out]; unfold freeP; rw [if_neg (by rw [hc]; decide)])
    clear HR hc
    by_cases ho : o < 0 ∨ 4 < o
    · have HF := Lib.hid (show R = (Mob.zero, 2) by rw [HR2.out, if_pos (by rcases ho with h | h; exact .inl h; exact .inr (.inl h))])
      go_wp2_with ((with_reducible refine ld ?_ X2.x.x X2.x.v.len ?_); (focus rfl))
      refine (block_51_no _ p f o w2 X2.x.rpv ho).mono ?_
      rintro e w3 ⟨rfl, b3⟩
      have X3 := X2.below b3
      have h1z := (MixP.pv (ownP_zero w 0)).one
      go_wp2_with ((with_reducible refine st26 (cs := zP) ?_ ?_ X3.z zP_len zP_len h1z ?_); (focus rfl); (focus rfl); intro w5 hB5 hg5)
      refine bodyPost_ret (results_p1 rfl _ _ gr zP _ rfl hB5 zP_len rfl) rfl ?_
      rw [HF.out]
      exact ⟨zP, Mob.zero, rfl, ownP_zero _ _, X3.x.b.grown hg5 X3.x.b.size (fun k hk => by cases hk; exact X3.l), sm_zero⟩
    · obtain ⟨k, rfl⟩ : ∃ k : Nat, o = (k : Int) := ⟨o.toNat, by omega⟩
      have hk5 : k < 5 := by omega
      rw [Int.toNat_natCast] at HR2
      go_wp2_with ((with_reducible refine ld ?_ X2.x.x X2.x.v.len ?_); (focus rfl))
      refine (block_51 _ p f k hk5 w2 X2.x.rpv HV.out.l.rng).mono ?_
      rintro e w3 ⟨rfl, b3⟩
      have X3 := X2.below b3
      clear X2 b3
      cases hin : insB p f k with
      | false =>
        have HF := Lib.hid (show R = (Mob.zero, 2) by rw [HR2.out, if_pos (.inr (.inr hin))])
        clear hin HR2
        have h1z := (MixP.pv (ownP_zero w 0)).one
        go_wp2_with ((with_reducible refine st26 (cs := zP) ?_ ?_ X3.z zP_len zP_len h1z ?_); (focus rfl); (focus rfl); intro w5 hB5 hg5)
        refine bodyPost_ret (results_p1 rfl _ _ gr zP _ rfl hB5 zP_len rfl) rfl ?_
        rw [HF.out]
        exact ⟨zP, Mob.zero, rfl, ownP_zero _ _, X3.x.b.grown hg5 X3.x.b.size (fun k hk => by cases hk; exact X3.l), sm_zero⟩
      | true =>
        have HIN := Lib.hid hin
        have HR3 := Lib.hid (show R = if anyFree p f (2 ^ k) = true then (Mob.zero, 7) else (putP p f k, 0) by
          rw [HR2.out, if_neg (by rintro (h | h | h); exact absurd h (by omega); exact absurd h (by omega); rw [HIN.out] at h; cases h)])
        obtain ⟨z1, z2, z3⟩ := ins_lt HV.out.l.rng hk5 hin
        obtain ⟨fn, rfl⟩ : ∃ n : Nat, f = (n : Int) := ⟨f.toNat, by omega⟩
        obtain ⟨m, hm1⟩ : ∃ m, 2 ^ k = m := ⟨_, rfl⟩
        have hfm : fn + m ≤ 256 := by
          have : (fn : Int) + ((2 ^ k : Nat) : Int) ≤ 256 := z3
          rw [hm1] at this; omega
        have hm16 : m ≤ 16 := by rw [← hm1]; exact pow_le16 hk5
        have HWM := Lib.hid (show wrap64 ((2 : Int) ^ k) = (m : Int) by rw [← hm1]; exact wrap_pow hk5)
        have hwm : ∀ i : Nat, i = k → wrap64 ((2 : Int) ^ i) = (m : Int) := fun i hi => by subst hi; exact HWM.out
        have HAF := Lib.hid (anyFree_iff HV.out (n := 2 ^ k) (f := (fn : Int)) fun i hi => in_zero HV.out.l.rng hk5 hin hi)
        have HM1 := Lib.hid hm1
        clear hin HR2 z1 z2 z3 hm1
        go_wp2_with ((with_reducible refine ld ?_ X3.x.x X3.x.v.len ?_); (focus rfl))
        refine (set_38 _ p w3 X3.x.rpv HV.out.l).mono ?_
        rintro e w4 ⟨gs, rfl, hS4, hls, b4⟩
        have X4 := X3.below b4
        have hlg : w.heap.size ≤ gs := by have := X3.x.b.size; omega
        clear X3 b4 hls
        go_wp2
        go_loopg [10] m (fun gg v10 wr => ∃ (j : Nat) (lv : List Int), j + gg = m ∧ v10 = .int .i64 ((fn + j : Nat) : Int) ∧ XZ w g gr cs p wr ∧ Blk wr gs 3 (nums lv) ∧ lv.length = 256 ∧ (∀ x : Nat, x < 256 → (lv.getD x 0 ≠ 0 ↔ Cov (F p) (x : Int) ∨ (fn ≤ x ∧ x < fn + j))) ∧ (∀ x : Nat, x < 256 → 0 ≤ lv.getD x 0) ∧ ∀ i : Nat, i < j → ¬ Cov (F p) ((fn : Int) + (i : Int)))
        case atStart => exact ⟨0, _, by omega, by rw [Nat.add_zero], X4, hS4, cnts_len _, fun x hx => by
          rw [List.getD_eq_getElem?_getD, cnts_get _ hx, ← cnt_pos]
          simp only [Option.getD_some]
          omega, fun x hx => by rw [List.getD_eq_getElem?_getD, cnts_get _ hx]; simp only [Option.getD_some]; omega, fun i hi => by omega⟩
        case round =>
          clear X4 hS4
          obtain ⟨j, lv, hj, rfl, X5, S5, hll, hmk, hpos, hnc⟩ := hrel
          have HLL := Lib.hid hll; have HMK := Lib.hid hmk; have HPOS := Lib.hid hpos; have HNC := Lib.hid hnc
          obtain ⟨xq, hxq⟩ : ∃ x, fn + j = x := ⟨_, rfl⟩
          clear hll hmk hpos hnc
          cases gk with
          | zero =>
            obtain rfl : j = m := by omega
            have tq : decide ((xq : Int) < (fn : Int) + (j : Int)) = false := by simp; omega
            rw [hxq]
            have HNN := Lib.hid (show ∀ x, In (fn : Int) k x → ¬ Cov (F p) x from fun x hx => by
              have h1 := hx.1; have h2 := hx.2
              have h3 : pw k = (j : Int) := by unfold pw; rw [HM1.out]
              rw [h3] at h2
              have := HNC.out (x.toNat - fn) (by omega)
              rwa [show (fn : Int) + ((x.toNat - fn : Nat) : Int) = x by omega] at this)
            have HF := Lib.hid (show R = (putP p (fn : Int) k, 0) by
              rw [HR3.out, if_neg]
              intro h
              obtain ⟨i, hi, hc⟩ := HAF.out.1 h
              exact HNC.out i (by rw [← HM1.out]; exact hi) hc)
            have HSET := Lib.hid (show ∀ x : Nat, x < 256 → (lv.getD x 0 ≠ 0 ↔ (Cov (F p) (x : Int) ∨ In (fn : Int) k (x : Int))) from fun x hx => by
              rw [HMK.out x hx]
              unfold In pw
              rw [HM1.out]
              exact ⟨fun h => h.elim .inl (fun h => .inr (by omega)), fun h => h.elim .inl (fun h => .inr (by omega))⟩)
            obtain ⟨pv1, pv2⟩ := put_vd HV.out ⟨by omega, HIN.out⟩ HNN.out
            have HP1 := Lib.hid pv1; have HP2 := Lib.hid pv2
            have HRNG := Lib.hid (show ∀ x, (Cov (F p) x ∨ In (fn : Int) k x) → p.st ≤ x ∧ x < p.st + 16 * (p.ty.length : Int) from fun x hx => by
              rcases hx with h | h
              · have := cov_range HV.out.l (cov_iff.2 h); exact ⟨this.1, this.2.1⟩
              · obtain ⟨i1, i2, _⟩ := ins_open HIN.out
                obtain ⟨_, z2, _⟩ := ins_lt HV.out.l.rng hk5 HIN.out
                have h1 := h.1; have h2 := h.2
                exact ⟨by omega, by omega⟩)
            clear hj hxq HNC HR3 HAF pv1 pv2
            obtain ⟨st, ty, fr⟩ := p
            obtain ⟨r1, r2, r3, r4, r5, _⟩ := rng_of HV.out.l.rng
            simp only at r1 r2 r3 r4 r5
            obtain ⟨s0, rfl⟩ : ∃ s : Nat, st = (s : Int) := ⟨st.toNat, by omega⟩
            have HRR := Lib.hid (show rngB ⟨(s0 : Int), ty, fun _ => []⟩ = true from HV.out.l.rng)
            obtain ⟨n, hn⟩ : ∃ n, ty.length = n := ⟨_, rfl⟩
            have HN := Lib.hid hn
            rw [hn] at r3 r4 r5
            clear hn r2
            obtain ⟨aT, nT, cT, hT, hnT, _, _, _, hIT⟩ := X5.x.v.types X5.x.x
            have h0 := X5.x.v.start X5.x.x
            obtain rfl : nT = n := by rw [← hnT]; exact HN.out
            clear hnT
            go_wp2_with fail
            clear hT h0
            refine (with_41 s0 aT (some ⟨gs, 0, none⟩) ty lv nT cT 256 wr hIT (ints_blk S5) HN.out HLL.out _ HRR.out HSET.out (fun x hx => by have := HRNG.out x hx; rw [HN.out] at this; exact this)).mono ?_
            rintro e w6 ⟨ds, q, rfl, hO, b6, q1, q2, q3, q4⟩
            have X6 := X5.below b6
            have hO6 := MixP.weaken hO X5.x.b.size
            have h1c := (MixP.pv hO6).one
            have hl6 := (MixP.pv hO6).len
            clear hO X5 b6 S5
            go_wp2_with ((with_reducible refine st26 (cs := ds) ?_ ?_ X6.z zP_len hl6 h1c ?_); (focus rfl); (focus rfl); intro w7 hB7 hg7)
            refine bodyPost_ret (results_p1 rfl _ _ gr ds _ rfl hB7 hl6 rfl) rfl ?_
            rw [HF.out]
            exact ⟨ds, q, rfl, OwnP.grown hO6 X6.z hg7, X6.x.b.grown hg7 X6.x.b.size (fun k hk => by cases hk; exact X6.l), sm_vd HP1.out rfl rfl HP2.out ⟨q1, q2, q3, q4⟩⟩
          | succ gg =>
            have hjm : j < m := by omega
            have tq : decide ((xq : Int) < (fn : Int) + (m : Int)) = true := by simp; omega
            have hx256 : xq < 256 := by omega
            obtain ⟨y, hy⟩ := get_some HLL.out hx256
            have hyd : lv.getD xq 0 = y := by rw [List.getD_eq_getElem?_getD, hy]; rfl
            have c0 := S5.cell xq
            rw [nums_get hy] at c0
            have f0 := S5.frozen xq
            have hy0 := HPOS.out xq hx256
            have hmx := HMK.out xq hx256
            rw [hyd] at hy0 hmx
            have hcov : 0 < y ↔ Cov (F p) (xq : Int) := by
              constructor
              · intro h
                rcases hmx.1 (by omega) with h1 | h1
                · exact h1
                · omega
              · intro h
                have := hmx.2 (.inl h)
                omega
            have HJ := Lib.hid hj; have HXQ := Lib.hid hxq; have HCV := Lib.hid hcov
            rw [hxq]
            clear hj hxq hy hyd hmx hcov hy0
            by_cases hyp : 0 < y
            · have tyy : decide ((0 : Int) < y) = true := by simpa using hyp
              have HF := Lib.hid (show R = (Mob.zero, 7) by
                rw [HR3.out, if_pos]
                refine HAF.out.2 ⟨j, by rw [HM1.out]; exact hjm, ?_⟩
                have := HCV.out.1 hyp
                rwa [show (fn : Int) + (j : Int) = (xq : Int) by have := HXQ.out; omega])
              clear hyp
              have h1z := (MixP.pv (ownP_zero w 0)).one
              go_wp2_with ((with_reducible refine st26 (cs := zP) ?_ ?_ X5.z zP_len zP_len h1z ?_); (focus rfl); (focus rfl); intro w5 hB5 hg5)
              refine bodyPost_ret (results_p1 rfl _ _ gr zP _ rfl hB5 zP_len rfl) rfl ?_
              rw [HF.out]
              exact ⟨zP, Mob.zero, rfl, ownP_zero _ _, X5.x.b.grown hg5 X5.x.b.size (fun k hk => by cases hk; exact X5.l), sm_zero⟩
            · have tyy : decide ((0 : Int) < y) = false := by simpa using hyp
              have HN2 := Lib.hid (show ∀ i : Nat, i < j + 1 → ¬ Cov (F p) ((fn : Int) + (i : Int)) from fun i hi => by
                by_cases e : i = j
                · intro h
                  refine hyp (HCV.out.2 ?_)
                  rwa [show (xq : Int) = (fn : Int) + (i : Int) by have := HXQ.out; omega]
                · exact HNC.out i (by omega))
              clear hyp
              go_wp2
              have X6 := XZ.row HV0.out X5 S5 hlg xq (.int .i64 1)
              have S6 := S5.set xq (.int .i64 1)
              rw [nums_put] at S6
              clear X5 S5 c0 f0
              go_roundg gg
              case rel =>
                refine ⟨j + 1, _, by have := HJ.out; omega, by have := HXQ.out; rw [show fn + (j + 1) = xq + 1 by omega]; go_num, X6, S6, by rw [List.length_set]; exact HLL.out, fun x hx => ?_, fun x hx => ?_, HN2.out⟩
                · rw [getD_set (by rw [HLL.out]; exact hx256)]
                  have hxe := HXQ.out
                  by_cases e : x = xq
                  · rw [if_pos e]
                    exact ⟨fun _ => .inr (by omega), fun _ => by decide⟩
                  · rw [if_neg e, HMK.out x hx]
                    exact ⟨fun h => h.elim .inl (fun h => .inr (by omega)), fun h => h.elim .inl (fun h => .inr (by omega))⟩
                · rw [getD_set (by rw [HLL.out]; exact hx256)]
                  split
                  · decide
                  · exact HPOS.out x hx
              case measure => omega
  · have HF := Lib.hid (show R = (Mob.zero, c) by rw [← HR.out]; unfold freeP; rw [if_pos (by rw [hc]; exact hc0), hc])
    have t0 : (c != 0) = true := by simpa using hc0
    have h1z := (MixP.pv (ownP_zero w 0)).one
    go_wp2_with ((with_reducible refine st26 (cs := zP) ?_ ?_ X2.z zP_len zP_len h1z ?_); (focus rfl); (focus rfl); intro w5 hB5 hg5)
    refine bodyPost_ret (results_p1 rfl _ _ gr zP _ rfl hB5 zP_len rfl) rfl ?_
    rw [HF.out]
    exact ⟨zP, Mob.zero, rfl, ownP_zero _ _, X2.x.b.grown hg5 X2.x.b.size (fun k hk => by cases hk; exact X2.l), sm_zero⟩
end Go.Proofs.YtkiiifmofmbniaaDoor
