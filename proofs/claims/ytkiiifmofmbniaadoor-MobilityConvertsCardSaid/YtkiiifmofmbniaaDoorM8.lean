/- Walks: new page blocks, of the program. -/
import Derived.Test.YtkiiifmofmbniaaDoorQ2
namespace Go.Mob
open Go.Can
/-- New page blocks, i of them put. -/
structure NewS (st : Int) (ty : List Int) (i : Nat) (p : P) : Prop where
  v : Vd p
  s : p.st = st
  t : p.ty = ty
  c : ∀ x, Cov (F p) x ↔ st ≤ x ∧ x < st + 16 * (i : Int)
theorem NewS.start {st : Int} {ty : List Int} (h : rngB ⟨st, ty, fun _ => []⟩ = true) : NewS st ty 0 ⟨st, ty, fun _ => []⟩ :=
  ⟨vd_empty h, rfl, rfl, fun x => ⟨fun ⟨f, k, ⟨_, t, _, h⟩, _⟩ => by simp at h, fun h => by omega⟩⟩
theorem NewS.step {st : Int} {ty : List Int} {i : Nat} {p : P} (h : NewS st ty i p) (hi : i < ty.length) : insB p (st + 16 * (i : Int)) 4 = true ∧ NewS st ty (i + 1) (putP p (st + 16 * (i : Int)) 4) := by
  obtain ⟨r1, r2, r3, r4, r5, _⟩ := rng_of h.v.l.rng
  have hin : insB p (st + 16 * (i : Int)) 4 = true := by
    unfold insB
    have := h.s; have h2 := congrArg List.length h.t
    rw [decide_eq_true_eq, show pw 4 = 16 from rfl]
    omega
  obtain ⟨q1, q2⟩ := put_vd h.v (f := st + 16 * (i : Int)) (k := 4) ⟨by omega, hin⟩ fun x hx hc => by
    have := (h.c x).1 hc; have := hx.1; omega
  refine ⟨hin, q1, h.s, h.t, fun x => ?_⟩
  rw [q2, h.c]
  unfold In
  rw [show pw 4 = 16 from rfl]
  omega
end Go.Mob
namespace Go.Proofs.YtkiiifmofmbniaaDoor
open Go.RowKit Go.Over Go.Mob Go.Can Go.Seg Go.Grow
def newC (st : Int) (v : Value) : List Value := [.int .i64 st, v, .slice none 0 0, .slice none 0 0, .slice none 0 0, .slice none 0 0, .slice none 0 0, .slice none 0 0, .slice none 0 0, .slice none 0 0, .slice none 0 0, .slice none 0 0, .slice none 0 0, .slice none 0 0, .slice none 0 0, .slice none 0 0, .slice none 0 0]
theorem newC_get {st : Int} {v : Value} {r : Nat} (h1 : 0 < r) (h2 : r < 16) : (newC st v)[1 + r]? = some (.slice none 0 0) := by
  have : r = 1 ∨ r = 2 ∨ r = 3 ∨ r = 4 ∨ r = 5 ∨ r = 6 ∨ r = 7 ∨ r = 8 ∨ r = 9 ∨ r = 10 ∨ r = 11 ∨ r = 12 ∨ r = 13 ∨ r = 14 ∨ r = 15 := by omega
  rcases this with rfl | rfl | rfl | rfl | rfl | rfl | rfl | rfl | rfl | rfl | rfl | rfl | rfl | rfl | rfl <;> rfl
theorem ownP_new {W : World} {B : Nat} {st : Int} {v : Value} {ty : List Int} (h : Own W B v ty) : OwnP W B (newC st v) ⟨st, ty, fun _ => []⟩ := by
  refine ⟨rfl, rfl, fun r hr => ?_, fun r s x y h1 h2 g1 g2 => ?_⟩
  · rcases Nat.eq_zero_or_pos r with rfl | hp
    · exact ⟨v, rfl, h.sl, fun _ => h⟩
    · refine ⟨_, newC_get hp hr, ?_, fun _ => ?_⟩
      · have : rowL ⟨st, ty, fun _ => []⟩ r = [] := by unfold rowL; rw [if_neg (by omega)]
        rw [this]; exact (Own.nil W B).sl
      · have : rowL ⟨st, ty, fun _ => []⟩ r = [] := by unfold rowL; rw [if_neg (by omega)]
        rw [this]; exact Own.nil W B
  · rw [newC_get (by omega) (by omega)] at g2
    cases g2
    rcases hx : x.ownBlock with _ | b
    · exact .inl rfl
    · exact .inr (by simp [Value.ownBlock])
theorem ownP_zero (W : World) (B : Nat) : OwnP W B zP Mob.zero := ownP_new (st := 0) (v := .slice none 0 0) (Own.nil W B)
def AnsP1 (w : World) (r : P × Int) (e : Ending) (w' : World) : Prop := ∃ cs, e = .returned (.tuple #[.agg cs.toArray, .int .i64 r.2]) ∧ OwnP w' w.heap.size cs r.1 ∧ Below w.heap.size w w'
def AnsP2 (w : World) (r : P × Int × Int) (e : Ending) (w' : World) : Prop := ∃ cs, e = .returned (.tuple #[.agg cs.toArray, .int .i64 r.2.1, .int .i64 r.2.2]) ∧ OwnP w' w.heap.size cs r.1 ∧ Below w.heap.size w w'
/-- A new variable takes page blocks. -/
theorem VP.new {w W W' : World} {cs : List Value} {p : P} {bs : List Value} (hO : OwnP W w.heap.size cs p) (hb : Below w.heap.size w W) (hz : Blk (W.alloc (.cells bs.toArray 26)) W.heap.size 26 bs) (hB : Blk W' W.heap.size 26 cs) (hg : (W.alloc (.cells bs.toArray 26)).grownBy W' (some W.heap.size)) : VP w W.heap.size cs p W' := by
  have hb2 := below_box W (.cells bs.toArray 26)
  have hb3 := below_then hb hb2
  exact ⟨hb3.grown hg hb3.size (fun k hk => by cases hk; exact hb.size), hb.size, hB, OwnP.grown (MixP.later hO hb2) hz hg⟩
set_option maxRecDepth 100000 in set_option maxHeartbeats 3200000 in
theorem new_16 (st : Int) (v : Value) (ty : List Int) (w : World) (H : Sl w v ty) (hm : ty.length ≤ 100) : Calls Tryd.prog 16 #[.int .i64 st, v] w (AnsP1 w (newP st ty)) := by
  have hB0 := below_box w (.cells #[.int .i64 0, .slice none 0 0, .slice none 0 0, .slice none 0 0, .slice none 0 0, .slice none 0 0, .slice none 0 0, .slice none 0 0, .slice none 0 0, .slice none 0 0, .slice none 0 0, .slice none 0 0, .slice none 0 0, .slice none 0 0, .slice none 0 0, .slice none 0 0, .slice none 0 0] 26)
  have hZ0 := Blk.new w 26 #[.int .i64 0, .slice none 0 0, .slice none 0 0, .slice none 0 0, .slice none 0 0, .slice none 0 0, .slice none 0 0, .slice none 0 0, .slice none 0 0, .slice none 0 0, .slice none 0 0, .slice none 0 0, .slice none 0 0, .slice none 0 0, .slice none 0 0, .slice none 0 0, .slice none 0 0] zP rfl
  have H1 := H.below hB0
  have H0 := H
  obtain ⟨R, hR⟩ : ∃ R, newP st ty = R := ⟨_, rfl⟩
  rw [hR]
  have HR := Lib.hid hR
  clear hR
  go_enter Tryd.func16, Tryd.ntmps16
  go_upto_region 1 with fail
  obtain ⟨w1, hw1⟩ : ∃ W, W = w.alloc (.cells #[.int .i64 0, .slice none 0 0, .slice none 0 0, .slice none 0 0, .slice none 0 0, .slice none 0 0, .slice none 0 0, .slice none 0 0, .slice none 0 0, .slice none 0 0, .slice none 0 0, .slice none 0 0, .slice none 0 0, .slice none 0 0, .slice none 0 0, .slice none 0 0, .slice none 0 0] 26) := ⟨_, rfl⟩
  rw [← hw1] at hB0 hZ0 H1 ⊢
  clear hw1
  obtain ⟨gr, hgr⟩ : ∃ g, w.heap.size = g := ⟨_, rfl⟩
  rw [hgr] at hZ0 ⊢
  have hlr : w.heap.size ≤ gr := by omega
  clear hgr
  go_wp2_with fail
  refine (clone_39 v ty w1 H1 (by omega)).mono ?_
  rintro e w2 ⟨v', rfl, hO, b2⟩
  obtain ⟨a', c', rfl, _⟩ := own_form hO
  have hB2 := below_then hB0 b2
  have hO2 : OwnP w2 w.heap.size (newC st (.slice a' ty.length c')) ⟨st, ty, fun _ => []⟩ := ownP_new (own_weaken hO hB0.size)
  have hz2 := Blk.new w2 26 #[.int .i64 0, .slice none 0 0, .slice none 0 0, .slice none 0 0, .slice none 0 0, .slice none 0 0, .slice none 0 0, .slice none 0 0, .slice none 0 0, .slice none 0 0, .slice none 0 0, .slice none 0 0, .slice none 0 0, .slice none 0 0, .slice none 0 0, .slice none 0 0, .slice none 0 0] zP rfl
  have hZ2 := (hZ0.later b2).later (below_box w2 (.cells #[.int .i64 0, .slice none 0 0, .slice none 0 0, .slice none 0 0, .slice none 0 0, .slice none 0 0, .slice none 0 0, .slice none 0 0, .slice none 0 0, .slice none 0 0, .slice none 0 0, .slice none 0 0, .slice none 0 0, .slice none 0 0, .slice none 0 0, .slice none 0 0, .slice none 0 0] 26))
  have h1c := (MixP.pv hO2).one
  have hne : gr ≠ w2.heap.size := by have := (hZ0.later b2).lt; omega
  go_upto_region 2 with ((with_reducible refine st26 (cs := newC st (.slice a' ty.length c')) ?_ ?_ hz2 zP_len rfl h1c ?_); (focus rfl); (focus rfl); intro w3 hB3 hg3)
  have V3 := VP.new hO2 hB2 hz2 hB3 hg3
  have Z3 := hZ2.grown hg3 (by simpa using Ne.symm hne)
  obtain ⟨g, hg⟩ : ∃ g, w2.heap.size = g := ⟨_, rfl⟩
  rw [hg] at V3 hne ⊢
  clear hg hB3 hg3 hZ2 hz2 h1c hO2 hB2 hO b2 hZ0 H1 hB0 H
  go_wp2_with ((with_reducible refine ld ?_ V3.x V3.v.len ?_); (focus rfl))
  refine (ranges_32 _ _ w3 V3.rpv).mono ?_
  rintro e w4 ⟨rfl, b4⟩
  have V4 := V3.below b4
  have Z4 := Z3.later b4
  clear V3 Z3 b4
  cases hr : rngB ⟨st, ty, fun _ => []⟩ with
  | false =>
    have HRR := Lib.hid (show R = (Mob.zero, 2) by rw [← HR.out]; unfold newP; rw [if_pos hr])
    clear hr
    have h1z := (MixP.pv (ownP_zero w4 0)).one
    go_wp2_with ((with_reducible refine st26 (cs := zP) ?_ ?_ Z4 zP_len zP_len h1z ?_); (focus rfl); (focus rfl); intro w5 hB5 hg5)
    refine bodyPost_ret (results_p1 rfl _ _ gr zP _ rfl hB5 zP_len rfl) rfl ?_
    rw [HRR.out]
    exact ⟨zP, rfl, ownP_zero _ _, V4.b.grown hg5 V4.b.size (fun k hk => by cases hk; exact hlr)⟩
  | true =>
    have HRR := Lib.hid (show R = (newN st ty ty.length 0 ⟨st, ty, fun _ => []⟩, 0) by rw [← HR.out]; unfold newP; rw [if_neg (by rw [hr]; decide)])
    have hN := NewS.start hr
    obtain ⟨r1, r2, r3, r4, r5, _⟩ := rng_of hr
    simp only at r1 r2 r3 r4 r5
    clear hr HR
    obtain ⟨n, hn⟩ : ∃ n, ty.length = n := ⟨_, rfl⟩
    have hl0 : ∃ a c, v = .slice a n c := by obtain ⟨a, c, rfl, _⟩ := H0; exact ⟨a, c, by rw [hn]⟩
    obtain ⟨a0, c0, rfl⟩ := hl0
    have HN := Lib.hid hn
    clear H0
    rw [hn] at r3 r4 r5 ⊢
    clear hn
    go_wp2
    go_loopg [18] n (fun gg v18 wr => ∃ (i : Nat) (q : P) (cs : List Value), i + gg = n ∧ v18 = .int .i64 i ∧ R = (newN st ty gg i q, 0) ∧ NewS st ty i q ∧ VP w g cs q wr ∧ Blk wr gr 26 zP)
    case atStart => exact ⟨0, _, _, by omega, rfl, by rw [HRR.out, HN.out], hN, V4, Z4⟩
    case round =>
      clear V4 Z4 hN HRR
      obtain ⟨i, q, cs, hg, rfl, hRq, hN, V5, Z5⟩ := hrel
      cases gk with
      | zero =>
        have hin : ¬ i < n := by omega
        have HRR := Lib.hid (show R = (q, 0) by rw [hRq]; rfl)
        clear hg hRq
        have h1c := V5.v.one
        go_wp2_with first | ((with_reducible refine ld ?_ V5.x V5.v.len ?_); (focus rfl)) | ((with_reducible refine st26 (cs := cs) ?_ ?_ Z5 zP_len V5.v.len h1c ?_); (focus rfl); (focus rfl); intro w6 hB6 hg6)
        refine bodyPost_ret (results_p1 rfl _ _ gr cs _ rfl hB6 V5.v.len rfl) rfl ?_
        rw [HRR.out]
        exact ⟨cs, rfl, OwnP.grown V5.o Z5 hg6, V5.b.grown hg6 V5.b.size (fun k hk => by cases hk; exact hlr)⟩
      | succ gg =>
        have hin : i < n := by omega
        have tn : decide ((i : Int) < (n : Int)) = true := by simp; omega
        obtain ⟨hi, hN2⟩ := hN.step (by rw [HN.out]; exact hin)
        have HRR := Lib.hid (show R = (newN st ty gg (i + 1) (putP q (st + 16 * (i : Int)) 4), 0) by rw [hRq]; rfl)
        have HG := Lib.hid hg; have HNN := Lib.hid hN2
        have hp := put_40 w g cs q (st + 16 * (i : Int)) 4 wr V5 hN.v.l (by decide) hi
        have ei : st + (i : Int) * 16 = st + 16 * (i : Int) := by omega
        have HP := Lib.hid hp
        clear hg hRq hN2 hN hi hp
        go_wp2_with fail
        refine HP.out.mono ?_
        rintro e w6 ⟨rfl, ⟨cs', V6⟩, K6⟩
        have Z6 := K6 gr 26 zP hne (by decide) Z5
        clear HP V5 Z5 K6 ei
        go_wp2
        go_roundg gg
        case rel => exact ⟨i + 1, _, cs', by have := HG.out; omega, by go_num, HRR.out, HNN.out, V6, Z6⟩
        case measure => omega
end Go.Proofs.YtkiiifmofmbniaaDoor
