/- Walks: is a frame free; a block is given back; of the program. -/
import Derived.Test.YtkiiifmofmbniaaDoorM8
namespace Go.Proofs.YtkiiifmofmbniaaDoor
open Go.RowKit Go.Over Go.Mob Go.Can Go.Seg Go.Grow
theorem low_0 {x : Int} (h0 : 0 ≤ x) (h1 : x < 256) : bits BinOp.andNot IntKind.i64 x (1 - 1) = x - x % 1 := by
  have key : ∀ n : Fin 256, bits BinOp.andNot IntKind.i64 ((n.val : Nat) : Int) (1 - 1) = ((n.val : Nat) : Int) - ((n.val : Nat) : Int) % 1 := by decide +kernel
  have h := key ⟨x.toNat, by omega⟩
  rw [show ((x.toNat : Nat) : Int) = x by omega] at h
  exact h
theorem low_1 {x : Int} (h0 : 0 ≤ x) (h1 : x < 256) : bits BinOp.andNot IntKind.i64 x (2 - 1) = x - x % 2 := by
  have key : ∀ n : Fin 256, bits BinOp.andNot IntKind.i64 ((n.val : Nat) : Int) (2 - 1) = ((n.val : Nat) : Int) - ((n.val : Nat) : Int) % 2 := by decide +kernel
  have h := key ⟨x.toNat, by omega⟩
  rw [show ((x.toNat : Nat) : Int) = x by omega] at h
  exact h
theorem low_2 {x : Int} (h0 : 0 ≤ x) (h1 : x < 256) : bits BinOp.andNot IntKind.i64 x (4 - 1) = x - x % 4 := by
  have key : ∀ n : Fin 256, bits BinOp.andNot IntKind.i64 ((n.val : Nat) : Int) (4 - 1) = ((n.val : Nat) : Int) - ((n.val : Nat) : Int) % 4 := by decide +kernel
  have h := key ⟨x.toNat, by omega⟩
  rw [show ((x.toNat : Nat) : Int) = x by omega] at h
  exact h
theorem low_3 {x : Int} (h0 : 0 ≤ x) (h1 : x < 256) : bits BinOp.andNot IntKind.i64 x (8 - 1) = x - x % 8 := by
  have key : ∀ n : Fin 256, bits BinOp.andNot IntKind.i64 ((n.val : Nat) : Int) (8 - 1) = ((n.val : Nat) : Int) - ((n.val : Nat) : Int) % 8 := by decide +kernel
  have h := key ⟨x.toNat, by omega⟩
  rw [show ((x.toNat : Nat) : Int) = x by omega] at h
  exact h
theorem low_4 {x : Int} (h0 : 0 ≤ x) (h1 : x < 256) : bits BinOp.andNot IntKind.i64 x (16 - 1) = x - x % 16 := by
  have key : ∀ n : Fin 256, bits BinOp.andNot IntKind.i64 ((n.val : Nat) : Int) (16 - 1) = ((n.val : Nat) : Int) - ((n.val : Nat) : Int) % 16 := by decide +kernel
  have h := key ⟨x.toNat, by omega⟩
  rw [show ((x.toNat : Nat) : Int) = x by omega] at h
  exact h
theorem low_all {k : Nat} (hk : k < 5) {x : Int} (h0 : 0 ≤ x) (h1 : x < 256) : bits BinOp.andNot IntKind.i64 x (((2 ^ k : Nat) : Int) - 1) = x - x % pw k := by
  rcases (show k = 0 ∨ k = 1 ∨ k = 2 ∨ k = 3 ∨ k = 4 by omega) with rfl | rfl | rfl | rfl | rfl
  · exact low_0 h0 h1
  · exact low_1 h0 h1
  · exact low_2 h0 h1
  · exact low_3 h0 h1
  · exact low_4 h0 h1
set_option maxRecDepth 100000 in set_option maxHeartbeats 3200000 in
theorem free_50 (v : Value) (p : P) (x : Int) (w : World) (H : Rpv w v p) (HL : Lst p) (h1 : p.st ≤ x) (h2 : x < p.st + 16 * (p.ty.length : Int)) :
    Calls Tryd.prog 50 #[v, .int .i64 x] w fun e w' => e = .returned (.bool (isFree p x)) ∧ Below w.heap.size w w' := by
  obtain ⟨t, ht, hty⟩ := ty_at HL.rng (f := x) (k := 0) (by unfold insB; rw [decide_eq_true_eq]; exact ⟨h1, h2, by rw [pw_zero]; omega⟩)
  obtain ⟨r1, r2, r3, r4, r5, _⟩ := rng_of HL.rng
  obtain ⟨E, hE⟩ : ∃ E, isFree p x = E := ⟨_, rfl⟩
  rw [hE]
  have HE := Lib.hid (show E = freeN p x 5 0 from hE.symm)
  have HTY := Lib.hid hty
  have hx0 : 0 ≤ x := by omega
  have hx1 : x < 256 := by omega
  clear hE hty r1 r2 r3 r4 r5
  obtain ⟨cs, rfl, hV⟩ := H
  have X0 := PX.new hV
  clear hV
  go_enter Tryd.func50, Tryd.ntmps50
  go_upto_region 1 with fail
  obtain ⟨w1, hw1⟩ : ∃ W, W = w.alloc (.cells cs.toArray 26) := ⟨_, rfl⟩
  have X1 : PX w w.heap.size cs p w1 := by rw [hw1]; exact X0
  rw [← hw1]
  obtain ⟨g, hg0⟩ : ∃ g, w.heap.size = g := ⟨_, rfl⟩
  rw [hg0] at X1 ⊢
  clear hw1 X0 hg0
  go_wp2_with ((with_reducible refine ld ?_ X1.x X1.v.len ?_); (focus rfl))
  refine (type_34 _ p x w1 X1.rpv HL.rng h1 h2).mono ?_
  rintro e w2 ⟨rfl, b2⟩
  have X2 := X1.below b2
  rw [HTY.out]
  clear X1 b2
  obtain ⟨s0, s1, s2, s3, s4, hcl, hrow⟩ := X2.v.row ht
  obtain ⟨q0, q1, q2, q3, q4⟩ := hcl _ _ X2.x
  have HROW := Lib.hid hrow
  clear hrow hcl
  go_wp2
  clear q0 q1 q2 q3 q4
  go_loopg [15] 5 (fun gg v15 wr => ∃ k : Nat, k + gg = 5 ∧ v15 = .int .i64 k ∧ E = freeN p x gg k ∧ w2 = wr)
  case atStart => exact ⟨0, by omega, rfl, HE.out, rfl⟩
  case round =>
    obtain ⟨k, hg, rfl, hEk, rfl⟩ := hrel
    cases gk with
    | zero =>
      have hk5 : ¬ k < 5 := by omega
      have HF := Lib.hid (show E = false from hEk)
      clear hg hEk
      go_wp2
      go_ret
      exact ⟨ret_bool HF.out.symm, X2.b⟩
    | succ gg =>
      have hk5 : k < 5 := by omega
      have HG := Lib.hid hg
      have HEK := Lib.hid (show E = ((p.fr (5 * t + k)).contains (x - x % pw k) || freeN p x gg (k + 1)) by
        rw [hEk]
        show ((p.fr (base (tyAt p x) + k)).contains (x - x % pw k) || _) = _
        unfold base
        rw [HTY.out, Int.toNat_natCast])
      clear hg hEk
      obtain ⟨a, n, c, hix, hn, hnc, hcm, _, hI⟩ := HROW.out _ X2.v k hk5
      obtain ⟨m, hm⟩ : ∃ m, 2 ^ k = m := ⟨_, rfl⟩
      have hwm : wrap64 ((2 : Int) ^ k) = (m : Int) := by rw [← hm]; exact wrap_pow hk5
      have HM := Lib.hid hm
      have hm16 : m ≤ 16 := by rw [← hm]; exact pow_le16 hk5
      clear hm
      have hand : bits BinOp.andNot IntKind.i64 x ((m : Int) - 1) = x - x % pw k := by rw [← HM.out]; exact low_all hk5 hx0 hx1
      have hlen := HL.len (i := 5 * t + k) (by omega)
      have hse := search_35 a (p.fr (5 * t + k)) n c (x - x % pw k) w2 hI hn (by omega) (HL.asc _ (by omega))
      obtain ⟨ct, hct⟩ : ∃ b, (p.fr (5 * t + k)).contains (x - x % pw k) = b := ⟨_, rfl⟩
      obtain ⟨ps, hps⟩ : ∃ b, pos (p.fr (5 * t + k)) (x - x % pw k) = b := ⟨_, rfl⟩
      rw [hct, hps] at hse
      obtain ⟨y, hy⟩ : ∃ y, x - x % pw k = y := ⟨_, rfl⟩
      rw [hy] at hand hse
      have HSE := Lib.hid hse; have HCT := Lib.hid hct
      have tk : decide ((k : Int) < 5) = true := by simp; omega
      clear hse hps hct hy hn hnc hcm hlen hI
      go_wp2_with fail
      refine HSE.out.mono ?_
      rintro e w3 ⟨rfl, rfl⟩
      cases ct with
      | true =>
        have HF := Lib.hid (show E = true by rw [HEK.out, HCT.out]; rfl)
        go_wp2
        go_ret
        exact ⟨ret_bool HF.out.symm, X2.b⟩
      | false =>
        have HF := Lib.hid (show E = freeN p x gg (k + 1) by rw [HEK.out, HCT.out]; rfl)
        go_wp2
        go_roundg gg
        case rel => exact ⟨k + 1, by have := HG.out; omega, by go_num, HF.out, rfl⟩
        case measure => omega
/-- The variable of an argument, and that of a result. -/
structure XZ (w : World) (g gr : Nat) (cs : List Value) (p : P) (W : World) : Prop where
  x : PX w g cs p W
  z : Blk W gr 26 zP
  n : g ≠ gr
  l : w.heap.size ≤ gr
theorem XZ.below {w W W' : World} {g gr : Nat} {cs : List Value} {p : P} (h : XZ w g gr cs p W) (hb : Below W.heap.size W W') : XZ w g gr cs p W' := ⟨h.x.below hb, h.z.later hb, h.n, h.l⟩
theorem XZ.new {w : World} {cs : List Value} {p : P} (h : PV w cs p) : XZ w w.heap.size (w.heap.size + 1) cs p ((w.alloc (.cells cs.toArray 26)).alloc (.cells #[.int .i64 0, .slice none 0 0, .slice none 0 0, .slice none 0 0, .slice none 0 0, .slice none 0 0, .slice none 0 0, .slice none 0 0, .slice none 0 0, .slice none 0 0, .slice none 0 0, .slice none 0 0, .slice none 0 0, .slice none 0 0, .slice none 0 0, .slice none 0 0, .slice none 0 0] 26)) := by
  have hs : (w.alloc (.cells cs.toArray 26)).heap.size = w.heap.size + 1 := by simp
  have hz := Blk.new (w.alloc (.cells cs.toArray 26)) 26 #[.int .i64 0, .slice none 0 0, .slice none 0 0, .slice none 0 0, .slice none 0 0, .slice none 0 0, .slice none 0 0, .slice none 0 0, .slice none 0 0, .slice none 0 0, .slice none 0 0, .slice none 0 0, .slice none 0 0, .slice none 0 0, .slice none 0 0, .slice none 0 0, .slice none 0 0] zP rfl
  rw [hs] at hz
  exact ⟨(PX.new h).below (below_box _ _), hz, by omega, by omega⟩
theorem vd_len {p : P} (h : Lst p) : lenB p := by
  obtain ⟨r1, r2, r3, r4, r5, _⟩ := rng_of h.rng
  exact ⟨by omega, fun i hi => by have := h.len hi; omega⟩
theorem any_step' {p : P} {f : Int} {m i : Nat} (h : i < m) : anyFree p (f + (i : Int)) (m - i) = (isFree p (f + (i : Int)) || anyFree p (f + ((i + 1 : Nat) : Int)) (m - (i + 1))) := by
  rw [show m - i = (m - (i + 1)) + 1 by omega]
  show (_ || anyFree p (f + (i : Int) + 1) _) = _
  rw [show f + (i : Int) + 1 = f + ((i + 1 : Nat) : Int) by omega]
set_option maxRecDepth 100000 in set_option maxHeartbeats 3200000 in
theorem free_21 (v : Value) (p : P) (f o : Int) (w : World) (H : Rpv w v p) : Calls Tryd.prog 21 #[v, .int .i64 f, .int .i64 o] w (AnsP1 w (freeP p f o)) := by
  obtain ⟨R, hR⟩ : ∃ R, freeP p f o = R := ⟨_, rfl⟩
  rw [hR]
  have HR := Lib.hid hR
  clear hR
  obtain ⟨cs, rfl, hV⟩ := H
  have X0 := XZ.new hV
  clear hV
  go_enter Tryd.func21, Tryd.ntmps21
  go_upto_region 1 with fail
  obtain ⟨w1, hw1⟩ : ∃ W, W = (w.alloc (.cells cs.toArray 26)).alloc (.cells #[.int .i64 0, .slice none 0 0, .slice none 0 0, .slice none 0 0, .slice none 0 0, .slice none 0 0, .slice none 0 0, .slice none 0 0, .slice none 0 0, .slice none 0 0, .slice none 0 0, .slice none 0 0, .slice none 0 0, .slice none 0 0, .slice none 0 0, .slice none 0 0, .slice none 0 0] 26) := ⟨_, rfl⟩
  rw [← hw1] at X0 ⊢
  obtain ⟨gr, hgr⟩ : ∃ g, w.heap.size + 1 = g := ⟨_, rfl⟩
  obtain ⟨g, hg0⟩ : ∃ g, w.heap.size = g := ⟨_, rfl⟩
  have X1 : XZ w g gr cs p w1 := by rw [← hgr, ← hg0]; exact X0
  rw [hgr, hg0]
  clear hw1 X0 hg0 hgr
  go_wp2_with ((with_reducible refine ld ?_ X1.x.x X1.x.v.len ?_); (focus rfl))
  refine (check_14 _ p w1 X1.x.rpv).mono ?_
  rintro e w2 ⟨rfl, b2⟩
  have X2 := X1.below b2
  clear X1 b2
  obtain ⟨c, hc⟩ : ∃ c, chk p = c := ⟨_, rfl⟩
  rw [hc]
  by_cases hc0 : c = 0
  · subst hc0
    have HV := Lib.hid (vd_of hc)
    have HR2 := Lib.hid (show R = if o < 0 ∨ 4 < o ∨ insB p f o.toNat = false then (Mob.zero, 2) else if anyFree p f (2 ^ o.toNat) = true then (Mob.zero, 7) else (putP p f o.toNat, 0) by rw [← HR.out]; unfold freeP; rw [if_neg (by rw [hc]; decide)])
    clear HR hc
    by_cases ho : o < 0 ∨ 4 < o
    · have HF := Lib.hid (show R = (Mob.zero, 2) by rw [HR2.out, if_pos (by rcases ho with h | h; exact .inl h; exact .inr (.inl h))])
      rcases ho with ho | ho
      · have t1 : decide (o < 0) = true := by simpa using ho
        have h1z := (MixP.pv (ownP_zero w 0)).one
        go_wp2_with ((with_reducible refine st26 (cs := zP) ?_ ?_ X2.z zP_len zP_len h1z ?_); (focus rfl); (focus rfl); intro w5 hB5 hg5)
        refine bodyPost_ret (results_p1 rfl _ _ gr zP _ rfl hB5 zP_len rfl) rfl ?_
        rw [HF.out]
        exact ⟨zP, rfl, ownP_zero _ _, X2.x.b.grown hg5 X2.x.b.size (fun k hk => by cases hk; exact X2.l)⟩
      · have t0 : decide (o < 0) = false := by simp; omega
        have t1 : decide (4 < o) = true := by simpa using ho
        have h1z := (MixP.pv (ownP_zero w 0)).one
        go_wp2_with ((with_reducible refine st26 (cs := zP) ?_ ?_ X2.z zP_len zP_len h1z ?_); (focus rfl); (focus rfl); intro w5 hB5 hg5)
        refine bodyPost_ret (results_p1 rfl _ _ gr zP _ rfl hB5 zP_len rfl) rfl ?_
        rw [HF.out]
        exact ⟨zP, rfl, ownP_zero _ _, X2.x.b.grown hg5 X2.x.b.size (fun k hk => by cases hk; exact X2.l)⟩
    · obtain ⟨k, rfl⟩ : ∃ k : Nat, o = (k : Int) := ⟨o.toNat, by omega⟩
      have hk5 : k < 5 := by omega
      rw [Int.toNat_natCast] at HR2
      have t0 : decide ((k : Int) < 0) = false := by simp
      have t1 : decide (4 < (k : Int)) = false := by simp; omega
      go_wp2_with ((with_reducible refine ldg ?_ ?_ X2.x.x X2.x.v.len ?_); (focus rfl); (focus rfl))
      refine (inside_33 _ p f k hk5 w2 X2.x.rpv HV.out.l.rng).mono ?_
      rintro e w3 ⟨rfl, b3⟩
      have X3 := X2.below b3
      clear X2 b3
      cases hin : insB p f k with
      | false =>
        have HF := Lib.hid (show R = (Mob.zero, 2) by rw [HR2.out, if_pos (.inr (.inr hin))])
        clear hin HR2
        have h1z := (MixP.pv (ownP_zero w 0)).one
        go_wp2_with ((with_reducible refine st26 (cs := zP) ?_ ?_ X3.z zP_len zP_len h1z ?_); (focus rfl); (focus rfl); intro w5 hB5 hg5)
        refine bodyPost_ret (results_p1 rfl _ _ gr zP _ rfl hB5 zP_len rfl) rfl ?_
        rw [HF.out]
        exact ⟨zP, rfl, ownP_zero _ _, X3.x.b.grown hg5 X3.x.b.size (fun k hk => by cases hk; exact X3.l)⟩
      | true =>
        have HIN := Lib.hid hin
        obtain ⟨m, hm⟩ : ∃ m, 2 ^ k = m := ⟨_, rfl⟩
        have hwm : wrap64 ((2 : Int) ^ k) = (m : Int) := by rw [← hm]; exact wrap_pow hk5
        have hm16 : m ≤ 16 := by rw [← hm]; exact pow_le16 hk5
        obtain ⟨z1, z2, z3⟩ := ins_lt HV.out.l.rng hk5 hin
        have hm1 : f + (m : Int) ≤ p.st + 16 * (p.ty.length : Int) := by rw [← hm]; exact z2
        have hm2 : f + (m : Int) ≤ 256 := by rw [← hm]; exact z3
        have hst := (ins_open hin).1
        have HR3 := Lib.hid (show R = if anyFree p f m = true then (Mob.zero, 7) else (putP p f k, 0) by
          rw [HR2.out, if_neg (by rintro (h | h | h); exact absurd h (by omega); exact absurd h (by omega); rw [HIN.out] at h; cases h), hm])
        clear hin hm HR2 z2 z3
        go_wp2
        simp only [hwm]
        go_loopg [33] m (fun gg v33 wr => ∃ i : Nat, i + gg = m ∧ v33 = .int .i64 i ∧ anyFree p f m = anyFree p (f + (i : Int)) (m - i) ∧ XZ w g gr cs p wr)
        case atStart => exact ⟨0, by omega, rfl, by simp, X3⟩
        case round =>
          clear X3
          obtain ⟨i, hg, rfl, hA, X4⟩ := hrel
          cases gk with
          | zero =>
            have him : ¬ i < m := by omega
            have HF := Lib.hid (show R = (putP p f k, 0) by
              rw [HR3.out, if_neg]
              rw [hA, show m - i = 0 by omega]
              exact Bool.false_ne_true)
            clear hg hA HR3 hwm
            go_wp2_with ((with_reducible refine ld ?_ X4.x.x X4.x.v.len ?_); (focus rfl))
            refine (clone_45 _ p _ X4.x.rpv (vd_len HV.out.l)).mono ?_
            rintro e w5 ⟨cs', rfl, hO, b5⟩
            have X5 := X4.below b5
            have hO5 := MixP.weaken hO X4.x.b.size
            have hz5 := Blk.new w5 26 #[.int .i64 0, .slice none 0 0, .slice none 0 0, .slice none 0 0, .slice none 0 0, .slice none 0 0, .slice none 0 0, .slice none 0 0, .slice none 0 0, .slice none 0 0, .slice none 0 0, .slice none 0 0, .slice none 0 0, .slice none 0 0, .slice none 0 0, .slice none 0 0, .slice none 0 0] zP rfl
            have Z6 := X5.z.later (below_box w5 (.cells #[.int .i64 0, .slice none 0 0, .slice none 0 0, .slice none 0 0, .slice none 0 0, .slice none 0 0, .slice none 0 0, .slice none 0 0, .slice none 0 0, .slice none 0 0, .slice none 0 0, .slice none 0 0, .slice none 0 0, .slice none 0 0, .slice none 0 0, .slice none 0 0, .slice none 0 0] 26))
            have h1c := (MixP.pv hO5).one
            have hlen := (MixP.pv hO5).len
            have hne : gr ≠ w5.heap.size := by have := X5.z.lt; omega
            go_upto_region 13 with ((with_reducible refine st26 (cs := cs') ?_ ?_ hz5 zP_len hlen h1c ?_); (focus rfl); (focus rfl); intro w6 hB6 hg6)
            have V6 := VP.new (show OwnP w5 w.heap.size cs' p from hO5) X5.x.b hz5 hB6 hg6
            have Z7 := Z6.grown hg6 (by simpa using Ne.symm hne)
            obtain ⟨gq, hgq⟩ : ∃ g, w5.heap.size = g := ⟨_, rfl⟩
            rw [hgq] at V6 hne ⊢
            clear hgq hB6 hg6 hz5 Z6 h1c hlen hO5 hO b5 X4
            go_wp2_with fail
            refine (put_40 w gq cs' p f k w6 V6 HV.out.l hk5 HIN.out).mono ?_
            rintro e w7 ⟨rfl, ⟨cs2, V7⟩, K7⟩
            have Z8 := K7 gr 26 zP hne (by decide) Z7
            have hlr := X5.l
            clear V6 Z7 K7 X5
            have h1c := V7.v.one
            go_wp2_with first | ((with_reducible refine ld ?_ V7.x V7.v.len ?_); (focus rfl)) | ((with_reducible refine st26 (cs := cs2) ?_ ?_ Z8 zP_len V7.v.len h1c ?_); (focus rfl); (focus rfl); intro w8 hB8 hg8)
            refine bodyPost_ret (results_p1 rfl _ _ gr cs2 _ rfl hB8 V7.v.len rfl) rfl ?_
            rw [HF.out]
            exact ⟨cs2, rfl, OwnP.grown V7.o Z8 hg8, V7.b.grown hg8 V7.b.size (fun k hk => by cases hk; exact hlr)⟩
          | succ gg =>
            have him : i < m := by omega
            have tm : decide ((i : Int) < (m : Int)) = true := by simp; omega
            have HA := Lib.hid (hA.trans (any_step' him))
            have HG := Lib.hid hg
            clear hg hA
            go_wp2_with ((with_reducible refine ld ?_ X4.x.x X4.x.v.len ?_); (focus rfl))
            refine (free_50 _ p (f + (i : Int)) _ X4.x.rpv HV.out.l (by omega) (by omega)).mono ?_
            rintro e w5 ⟨rfl, b5⟩
            have X5 := X4.below b5
            clear X4 b5
            cases hfr : isFree p (f + (i : Int)) with
            | true =>
              have HF := Lib.hid (show R = (Mob.zero, 7) by rw [HR3.out, if_pos (by rw [HA.out, hfr]; rfl)])
              clear hfr HR3
              have h1z := (MixP.pv (ownP_zero w 0)).one
              go_wp2_with ((with_reducible refine st26 (cs := zP) ?_ ?_ X5.z zP_len zP_len h1z ?_); (focus rfl); (focus rfl); intro w5 hB5 hg5)
              refine bodyPost_ret (results_p1 rfl _ _ gr zP _ rfl hB5 zP_len rfl) rfl ?_
              rw [HF.out]
              exact ⟨zP, rfl, ownP_zero _ _, X5.x.b.grown hg5 X5.x.b.size (fun k hk => by cases hk; exact X5.l)⟩
            | false =>
              have HAN := Lib.hid (show anyFree p f m = anyFree p (f + ((i + 1 : Nat) : Int)) (m - (i + 1)) by rw [HA.out, hfr]; rfl)
              clear hfr
              go_wp2
              go_roundg gg
              case rel => exact ⟨i + 1, by have := HG.out; omega, by go_num, HAN.out, X5⟩
              case measure => omega
  · have HF := Lib.hid (show R = (Mob.zero, c) by rw [← HR.out]; unfold freeP; rw [if_pos (by rw [hc]; exact hc0), hc])
    have t0 : (c != 0) = true := by simpa using hc0
    have h1z := (MixP.pv (ownP_zero w 0)).one
    go_wp2_with ((with_reducible refine st26 (cs := zP) ?_ ?_ X2.z zP_len zP_len h1z ?_); (focus rfl); (focus rfl); intro w5 hB5 hg5)
    refine bodyPost_ret (results_p1 rfl _ _ gr zP _ rfl hB5 zP_len rfl) rfl ?_
    rw [HF.out]
    exact ⟨zP, rfl, ownP_zero _ _, X2.x.b.grown hg5 X2.x.b.size (fun k hk => by cases hk; exact X2.l)⟩
end Go.Proofs.YtkiiifmofmbniaaDoor
