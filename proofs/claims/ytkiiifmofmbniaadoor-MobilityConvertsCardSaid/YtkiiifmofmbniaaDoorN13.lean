/- Walks: new page blocks, of the document; the law. -/
import Derived.Test.YtkiiifmofmbniaaDoorN12
namespace Go.Proofs.YtkiiifmofmbniaaDoor
open Go.RowKit Go.Over Go.Mob Go.Can Go.Seg Go.Grow
theorem sl_nil (W : World) : Sl W (.slice none 0 0) [] := ⟨none, 0, rfl, Nat.le_refl _, Nat.zero_le _, fun _ => rfl, fun h => absurd h (by simp)⟩
theorem pv_new {W : World} {st : Int} {v : Value} {ty : List Int} (h : Sl W v ty) : PV W (newC st v) ⟨st, ty, fun _ => []⟩ :=
  ⟨rfl, rfl, ⟨v, rfl, h⟩, fun i hi => ⟨_, by rw [show 2 + i = 1 + (1 + i) by omega]; exact newC_get (by omega) (by omega), sl_nil W⟩⟩
/-- What a call of the document's gives: page blocks such that .., and a code. -/
def AnsR (w : World) (Q : P → Prop) (code : Int) (e : Ending) (w' : World) : Prop := ∃ cs q, e = .returned (.tuple #[.agg cs.toArray, .int .i64 code]) ∧ OwnP w' w.heap.size cs q ∧ Below w.heap.size w w' ∧ Q q
def AnsR2 (w : World) (Q : P → Prop) (x code : Int) (e : Ending) (w' : World) : Prop := ∃ cs q, e = .returned (.tuple #[.agg cs.toArray, .int .i64 x, .int .i64 code]) ∧ OwnP w' w.heap.size cs q ∧ Below w.heap.size w w' ∧ Q q
/-- Page blocks of types that cover a set. -/
def Is (st : Int) (ty : List Int) (S : Int → Prop) (q : P) : Prop := q.st = st ∧ q.ty = ty ∧ Vd q ∧ ∀ x, Cov (F q) x ↔ S x
theorem ints_blk {W : World} {g : Nat} {l : List Int} (h : Blk W g 3 (nums l)) : Ints W (some ⟨g, 0, none⟩) l := fun h0 => ⟨g, 0, rfl, fun i hi => by
  rw [Nat.zero_add, h.cell, nums_get (List.getElem?_eq_getElem hi), List.getD_eq_getElem?_getD, List.getElem?_eq_getElem hi]; rfl⟩
set_option maxRecDepth 100000 in set_option maxHeartbeats 3200000 in
theorem refNew_17 (st : Int) (aT : Option Addr) (ty : List Int) (n cT : Nat) (w : World) (HT : Ints w aT ty) (hn : ty.length = n) (hnc : n ≤ cT) (hcm : cT ≤ maxLen) (haz : aT = none → cT = 0) :
    (rngB ⟨st, ty, fun _ => []⟩ = false → Calls Tryd.prog 17 #[.int .i64 st, .slice aT n cT] w (AnsR w (fun q => q = Mob.zero) 2)) ∧
    (rngB ⟨st, ty, fun _ => []⟩ = true → Calls Tryd.prog 17 #[.int .i64 st, .slice aT n cT] w (AnsR w (Is st ty fun x => st ≤ x ∧ x < st + 16 * (n : Int)) 0)) := by
  have hz0 := Blk.new w 26 #[.int .i64 0, .slice none 0 0, .slice none 0 0, .slice none 0 0, .slice none 0 0, .slice none 0 0, .slice none 0 0, .slice none 0 0, .slice none 0 0, .slice none 0 0, .slice none 0 0, .slice none 0 0, .slice none 0 0, .slice none 0 0, .slice none 0 0, .slice none 0 0, .slice none 0 0] zP rfl
  have b0 := below_box w (.cells #[.int .i64 0, .slice none 0 0, .slice none 0 0, .slice none 0 0, .slice none 0 0, .slice none 0 0, .slice none 0 0, .slice none 0 0, .slice none 0 0, .slice none 0 0, .slice none 0 0, .slice none 0 0, .slice none 0 0, .slice none 0 0, .slice none 0 0, .slice none 0 0, .slice none 0 0] 26)
  obtain ⟨w1, hw1⟩ : ∃ W, W = w.alloc (.cells #[.int .i64 0, .slice none 0 0, .slice none 0 0, .slice none 0 0, .slice none 0 0, .slice none 0 0, .slice none 0 0, .slice none 0 0, .slice none 0 0, .slice none 0 0, .slice none 0 0, .slice none 0 0, .slice none 0 0, .slice none 0 0, .slice none 0 0, .slice none 0 0, .slice none 0 0] 26) := ⟨_, rfl⟩
  rw [← hw1] at hz0 b0
  obtain ⟨gr, hgr⟩ : ∃ g, w.heap.size = g := ⟨_, rfl⟩
  rw [hgr] at hz0
  have hlr : w.heap.size ≤ gr := by omega
  have HGR := Lib.hid hgr; have HW1 := Lib.hid hw1
  have hP1 : Rpv w1 (.agg (newC st (.slice aT n cT)).toArray) ⟨st, ty, fun _ => []⟩ := ⟨_, rfl, pv_new ⟨aT, cT, by rw [hn], by rw [hn]; exact hnc, hcm, haz, HT.below b0⟩⟩
  have HN := Lib.hid hn
  clear hgr hw1 hn hnc hcm haz
  refine ⟨fun hr => ?_, fun hr => ?_⟩
  · have HR := Lib.hid hr
    clear hr
    go_enter Tryd.func17, Tryd.ntmps17
    go_upto_region 1 with fail
    rw [← HW1.out, HGR.out]
    go_wp2_with fail
    refine (inrange_36 (.agg (newC st (.slice aT n cT)).toArray) _ w1 hP1).mono ?_
    rw [HR.out]
    rintro e w2 ⟨rfl, b2⟩
    have Z2 := hz0.later b2
    have B2 := below_then b0 b2
    have h1z := (MixP.pv (ownP_zero w2 0)).one
    clear hz0 b2 b0
    go_wp2_with ((with_reducible refine st26 (cs := zP) ?_ ?_ Z2 zP_len zP_len h1z ?_); (focus rfl); (focus rfl); intro w5 hB5 hg5)
    refine bodyPost_ret (results_p1 rfl _ _ gr zP _ rfl hB5 zP_len rfl) rfl ?_
    exact ⟨zP, Mob.zero, rfl, ownP_zero _ _, B2.grown hg5 B2.size (fun k hk => by cases hk; exact hlr), rfl⟩
  · obtain ⟨r1, r2, r3, r4, r5, _⟩ := rng_of hr
    simp only at r1 r2 r3 r4 r5
    rw [HN.out] at r3 r4 r5
    obtain ⟨s0, rfl⟩ : ∃ s : Nat, st = (s : Int) := ⟨st.toNat, by omega⟩
    have hE : s0 + 16 * n ≤ 256 := by omega
    have HR := Lib.hid hr
    clear hr r1 r2 r3 r5
    go_enter Tryd.func17, Tryd.ntmps17
    go_upto_region 1 with fail
    rw [← HW1.out, HGR.out]
    go_wp2_with fail
    refine (inrange_36 (.agg (newC (s0 : Int) (.slice aT n cT)).toArray) _ w1 hP1).mono ?_
    rw [HR.out]
    rintro e w2 ⟨rfl, b2⟩
    have Z2 := hz0.later b2
    have B2 := below_then b0 b2
    clear hz0 b2 b0 hP1
    go_upto_region 4 with (refine wpList_make_ints _ rfl _ _ rfl .i64 .i64 256 256 256 rfl rfl rfl rfl (by decide) (by decide) ?_; intro w3 hS3 b3)
    have Z3 := Z2.later b3
    have B3 := below_then B2 b3
    have hlg : w.heap.size ≤ w2.heap.size := B2.size
    obtain ⟨gs, hgs⟩ : ∃ g, w2.heap.size = g := ⟨_, rfl⟩
    rw [hgs] at hS3 hlg ⊢
    clear Z2 B2 b3 hgs
    go_wp2
    go_loopg [7] (16 * n) (fun gg v7 wr => ∃ (f : Nat) (lv : List Int), f + gg = s0 + 16 * n ∧ v7 = .int .i64 f ∧ s0 ≤ f ∧ Blk wr gr 26 zP ∧ Below w.heap.size w wr ∧ Blk wr gs 3 (nums lv) ∧ lv.length = 256 ∧ ∀ x : Nat, x < 256 → (lv.getD x 0 ≠ 0 ↔ s0 ≤ x ∧ x < f))
    case atStart => exact ⟨s0, _, rfl, rfl, Nat.le_refl _, Z3, B3, hS3, by simp, fun x hx => by
      rw [List.getD_eq_getElem?_getD, List.getElem?_replicate, if_pos hx]
      exact ⟨fun h => absurd rfl h, fun h => by omega⟩⟩
    case round =>
      clear Z3 B3 hS3
      obtain ⟨f, lv, hf, rfl, hsf, Z4, B4, S4, hll, hmk⟩ := hrel
      have HLL := Lib.hid hll; have HMK := Lib.hid hmk
      clear hll hmk
      cases gk with
      | zero =>
        have tf : decide ((f : Int) < (s0 : Int) + 16 * (n : Int)) = false := by simp; omega
        have hfe : f = s0 + 16 * n := by omega
        have HS := Lib.hid (show ∀ x : Nat, x < 256 → (lv.getD x 0 ≠ 0 ↔ ((s0 : Int) ≤ (x : Int) ∧ (x : Int) < (s0 : Int) + 16 * (n : Int))) from fun x hx => by rw [HMK.out x hx]; omega)
        clear hf hfe
        go_wp2_with fail
        refine (with_41 s0 aT (some ⟨gs, 0, none⟩) ty lv n cT 256 wr (HT.below B4) (ints_blk S4) HN.out HLL.out (fun x => (s0 : Int) ≤ x ∧ x < (s0 : Int) + 16 * (n : Int)) HR.out HS.out (fun x hx => hx)).mono ?_
        rintro e w5 ⟨cs, q, rfl, hO, b5, q1, q2, q3, q4⟩
        have Z5 := Z4.later b5
        have B5 := below_then B4 b5
        have hO5 := MixP.weaken hO B4.size
        have h1c := (MixP.pv hO5).one
        have hl5 := (MixP.pv hO5).len
        clear hO Z4 B4 S4 b5
        go_wp2_with ((with_reducible refine st26 (cs := cs) ?_ ?_ Z5 zP_len hl5 h1c ?_); (focus rfl); (focus rfl); intro w6 hB6 hg6)
        refine bodyPost_ret (results_p1 rfl _ _ gr cs _ rfl hB6 hl5 rfl) rfl ?_
        exact ⟨cs, q, rfl, OwnP.grown hO5 Z5 hg6, B5.grown hg6 B5.size (fun k hk => by cases hk; exact hlr), q1, q2, q3, q4⟩
      | succ gg =>
        have hfe : f < s0 + 16 * n := by omega
        have tf : decide ((f : Int) < (s0 : Int) + 16 * (n : Int)) = true := by simp; omega
        have hf256 : f < 256 := by omega
        have HF := Lib.hid hf
        obtain ⟨y, hy⟩ := get_some HLL.out hf256
        have c0 := S4.cell f
        rw [nums_get hy] at c0
        have f0 := S4.frozen f
        clear hf hy
        go_wp2
        have Z5 := Z4.far (p := ⟨gs, f, none⟩) (Z4.ne_type S4 (by decide)) (.int .i64 1)
        have B5 := B4.setCell (p := ⟨gs, f, none⟩) hlg (.int .i64 1)
        have S5 := S4.set f (.int .i64 1)
        rw [nums_put] at S5
        clear Z4 B4 S4 c0 f0
        go_roundg gg
        case rel =>
          refine ⟨f + 1, _, by have := HF.out; omega, by go_num, by omega, Z5, B5, S5, by rw [List.length_set]; exact HLL.out, fun x hx => ?_⟩
          rw [getD_set (by rw [HLL.out]; exact hf256)]
          by_cases e : x = f
          · rw [if_pos e]
            exact ⟨fun _ => by omega, fun _ => by decide⟩
          · rw [if_neg e, HMK.out x hx]
            omega
        case measure => omega
end Go.Proofs.YtkiiifmofmbniaaDoor
