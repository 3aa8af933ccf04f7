/- The free frames of a type, counted one by one (the plain law); walks: the type of a frame's page block, the free frames of a type, of the document. -/
import Derived.Test.YtkiiifmofmbniaaDoorN15
namespace Go.Mob
open Go.Can
/-- The frames from a on, n of them, of a kind, each as often as it is in the list. -/
def sQ (Q : Int → Bool) (C : List Int) : Nat → Int → Nat
  | 0, _ => 0
  | n + 1, a => (if Q a = true then C.count a else 0) + sQ Q C n (a + 1)
theorem sQ_nil {Q : Int → Bool} : ∀ {n : Nat} {a : Int}, sQ Q [] n a = 0
  | 0, _ => rfl
  | n + 1, a => by
    unfold sQ
    rw [sQ_nil (n := n)]
    simp
theorem sQ_cons {Q : Int → Bool} {x : Int} {C : List Int} : ∀ {n : Nat} {a : Int}, sQ Q (x :: C) n a = sQ Q C n a + (if (a ≤ x ∧ x < a + (n : Int)) ∧ Q x = true then 1 else 0)
  | 0, a => by
    unfold sQ
    rw [if_neg (by rintro ⟨h, _⟩; omega)]
  | n + 1, a => by
    have ih := sQ_cons (Q := Q) (x := x) (C := C) (n := n) (a := a + 1)
    unfold sQ
    rw [ih, List.count_cons]
    by_cases hxa : x = a
    · subst hxa
      rw [if_neg (show ¬ ((x + 1 ≤ x ∧ x < x + 1 + (n : Int)) ∧ Q x = true) from fun h => by omega)]
      by_cases hq : Q x = true
      · rw [if_pos hq, if_pos hq, if_pos (show (x ≤ x ∧ x < x + ((n + 1 : Nat) : Int)) ∧ Q x = true from ⟨⟨by omega, by omega⟩, hq⟩)]
        simp; omega
      · rw [if_neg hq, if_neg hq, if_neg (show ¬ ((x ≤ x ∧ x < x + ((n + 1 : Nat) : Int)) ∧ Q x = true) from fun h => hq h.2)]
        omega
    · have e1 : (x == a) = false := by simpa using hxa
      rw [e1]
      have e2 : ((a + 1 ≤ x ∧ x < a + 1 + (n : Int)) ∧ Q x = true) ↔ ((a ≤ x ∧ x < a + ((n + 1 : Nat) : Int)) ∧ Q x = true) := by
        constructor
        · rintro ⟨h1, h2⟩; exact ⟨by omega, h2⟩
        · rintro ⟨h1, h2⟩; exact ⟨by omega, h2⟩
      simp only [e2]
      split <;> simp <;> omega
theorem sQ_all {Q : Int → Bool} {n : Nat} {a : Int} : ∀ {C : List Int}, (∀ x ∈ C, a ≤ x ∧ x < a + (n : Int)) → sQ Q C n a = (C.filter Q).length
  | [], _ => by rw [sQ_nil]; rfl
  | x :: r, h => by
    rw [sQ_cons, sQ_all (C := r) fun y hy => h y (List.mem_cons_of_mem _ hy), List.filter_cons]
    have hx := h x (by simp)
    by_cases hq : Q x = true
    · rw [if_pos ⟨hx, hq⟩, if_pos hq, List.length_cons]
    · rw [if_neg (fun h => hq h.2), if_neg hq]
      rfl
def ofT (p : P) (t : Int) (x : Int) : Bool := decide (tyAt p x = t)
theorem filt_step {p : P} (h : Lst p) {t : Nat} {i : Nat} (hi : i < 15) : ((covA p i).filter (ofT p (t : Int))).length = (if i / 5 = t then (p.fr i).length * 2 ^ (i % 5) else 0) + ((covA p (i + 1)).filter (ofT p (t : Int))).length := by
  rw [covA_step hi, List.filter_append, List.length_append]
  congr 1
  have hty : ∀ x ∈ covL (i % 5) (p.fr i), tyAt p x = ((i / 5 : Nat) : Int) := fun x hx => by
    obtain ⟨f, hf, hin⟩ := mem_covL.1 hx
    obtain ⟨h1, h2⟩ := h.ins i hi f hf
    rw [ty_in h.rng (show R p f (i % 5) from ⟨by omega, h1⟩) hin, h2]
  split
  · rename_i e
    rw [List.filter_eq_self.2 fun x hx => by unfold ofT; rw [decide_eq_true_eq, hty x hx, e], covL_len]
  · rename_i e
    rw [List.filter_eq_nil_iff.2 fun x hx => by unfold ofT; rw [decide_eq_true_eq, hty x hx]; omega]
    rfl
theorem filt_all {p : P} (h : Lst p) {t : Nat} (ht : t < 3) : ((((covA p 0).filter (ofT p (t : Int))).length : Nat) : Int) = cntN p (5 * t) 5 0 := by
  have s := fun i hi => filt_step h (t := t) (i := i) hi
  rw [s 0 (by decide), s 1 (by decide), s 2 (by decide), s 3 (by decide), s 4 (by decide), s 5 (by decide), s 6 (by decide), s 7 (by decide), s 8 (by decide), s 9 (by decide), s 10 (by decide), s 11 (by decide), s 12 (by decide), s 13 (by decide), s 14 (by decide), covA_end]
  have e : cntN p (5 * t) 5 0 = (((p.fr (5 * t + 0)).length : Nat) : Int) * pw 0 + ((((p.fr (5 * t + 1)).length : Nat) : Int) * pw 1 + ((((p.fr (5 * t + 2)).length : Nat) : Int) * pw 2 + ((((p.fr (5 * t + 3)).length : Nat) : Int) * pw 3 + ((((p.fr (5 * t + 4)).length : Nat) : Int) * pw 4 + 0)))) := rfl
  rw [e, show pw 0 = 1 from rfl, show pw 1 = 2 from rfl, show pw 2 = 4 from rfl, show pw 3 = 8 from rfl, show pw 4 = 16 from rfl]
  rcases (show t = 0 ∨ t = 1 ∨ t = 2 by omega) with rfl | rfl | rfl <;> simp <;> omega
/-- What the document counts. -/
theorem count_ref {p : P} (h : Lst p) {t : Nat} (ht : t < 3) : ((sQ (ofT p (t : Int)) (covA p 0) (16 * p.ty.length) p.st : Nat) : Int) = cntN p (5 * t) 5 0 := by
  rw [sQ_all fun x hx => by
    obtain ⟨h1, h2, _⟩ := cov_range h hx
    exact ⟨h1, by omega⟩]
  exact filt_all h ht
theorem sQ_step {Q : Int → Bool} {C : List Int} {a : Int} {n i : Nat} (hi : i < n) : sQ Q C (n - i) (a + (i : Int)) = (if Q (a + (i : Int)) = true then C.count (a + (i : Int)) else 0) + sQ Q C (n - (i + 1)) (a + ((i + 1 : Nat) : Int)) := by
  rw [show n - i = (n - (i + 1)) + 1 by omega, show a + ((i + 1 : Nat) : Int) = a + (i : Int) + 1 by omega]
  rfl
end Go.Mob
namespace Go.Proofs.YtkiiifmofmbniaaDoor
open Go.RowKit Go.Over Go.Mob Go.Can Go.Seg Go.Grow
set_option maxRecDepth 100000 in set_option maxHeartbeats 3200000 in
theorem refType_28 (v : Value) (p : P) (f : Int) (w : World) (H : Rpv w v p) (hm : lenB p) : Calls Tryd.prog 28 #[v, .int .i64 f] w fun e w' => e = .returned (.int .i64 (typeP p f)) ∧ Below w.heap.size w w' := by
  obtain ⟨R, hR⟩ : ∃ R, typeP p f = R := ⟨_, rfl⟩
  rw [hR]
  have HR := Lib.hid hR
  clear hR
  obtain ⟨cs, rfl, hV⟩ := H
  have X0 := PX.new hV
  have HV0 := Lib.hid hV
  clear hV
  go_enter Tryd.func28, Tryd.ntmps28
  go_upto_region 1 with fail
  obtain ⟨w1, hw1⟩ : ∃ W, W = w.alloc (.cells cs.toArray 26) := ⟨_, rfl⟩
  have X1 : PX w w.heap.size cs p w1 := by rw [hw1]; exact X0
  rw [← hw1]
  obtain ⟨g, hg0⟩ : ∃ g, w.heap.size = g := ⟨_, rfl⟩
  rw [hg0] at X1 ⊢
  clear hw1 X0 hg0
  go_wp2_with ((with_reducible refine ld ?_ X1.x X1.v.len ?_); (focus rfl))
  refine (refCheck_15 _ p w1 X1.rpv hm).mono ?_
  rintro e w2 ⟨rfl, b2⟩
  have X2 := X1.below b2
  clear X1 b2
  obtain ⟨c, hc⟩ : ∃ c, chk p = c := ⟨_, rfl⟩
  rw [hc]
  by_cases hc0 : c = 0
  · subst hc0
    have HV := Lib.hid (vd_of hc)
    obtain ⟨E, hE⟩ : ∃ E, insB p f 0 = E := ⟨_, rfl⟩
    have HR2 := Lib.hid (show R = if E = true then tyAt p f else -1 by
      rw [← HR.out, ← hE]
      unfold typeP
      by_cases h : insB p f 0 = true
      · rw [if_pos ⟨hc, h⟩, if_pos h]
      · rw [if_neg (fun g => h g.2), if_neg h])
    have HE := Lib.hid hE
    clear HR hc hE
    go_wp2_with ((with_reducible refine ldg ?_ ?_ X2.x X2.v.len ?_); (focus rfl); (focus rfl))
    refine (block_51 _ p f 0 (by decide) w2 X2.rpv HV.out.l.rng).mono ?_
    rintro e w3 ⟨rfl, b3⟩
    have X3 := X2.below b3
    rw [HE.out]
    clear X2 b3
    cases E with
    | false =>
      have HF := Lib.hid (show R = -1 by rw [HR2.out]; rfl)
      go_wp2
      go_ret
      exact ⟨ret_int HF.out.symm, X3.b⟩
    | true =>
      have HF := Lib.hid (show R = tyAt p f by rw [HR2.out]; rfl)
      obtain ⟨r1, r2, r3, r4, r5, _⟩ := rng_of HV.out.l.rng
      obtain ⟨i1, i2, _⟩ := ins_open HE.out
      obtain ⟨q, hq⟩ : ∃ i, ((f - p.st) / 16).toNat = i := ⟨_, rfl⟩
      have e1 : (f - p.st).tdiv 16 = (q : Int) := by rw [Int.tdiv_eq_ediv_of_nonneg (by omega)]; omega
      have hql : q < p.ty.length := by omega
      obtain ⟨y, hy⟩ : ∃ y, tyAt p f = y := ⟨_, rfl⟩
      have hx : p.ty[q]? = some y := by
        unfold tyAt at hy
        rw [hq, List.getD_eq_getElem?_getD, List.getElem?_eq_getElem hql] at hy
        rw [List.getElem?_eq_getElem hql, ← hy]; rfl
      rw [hy] at HF
      obtain ⟨aT, nT, cT, hT, hnT, _, _, _, hIT⟩ := X3.v.types X3.x
      have h0 := X3.v.start X3.x
      obtain ⟨bT, oT, rfl, cy⟩ := hIT.at hx
      have hqn : q < nT := by omega
      have hq16 : q < 16 := by omega
      have hb1 : f < 256 := by omega
      clear r2 r3 r4 r5 i2 hq hx hnT hIT hy hql
      go_wp2
      go_ret
      exact ⟨ret_int HF.out.symm, X3.b⟩
  · have HF := Lib.hid (show R = -1 by rw [← HR.out]; unfold typeP; rw [if_neg (fun g => hc0 (by rw [← hc]; exact g.1))])
    have t0 : (c != 0) = true := by simpa using hc0
    go_wp2
    go_ret
    exact ⟨ret_int HF.out.symm, X2.b⟩
set_option maxRecDepth 100000 in set_option maxHeartbeats 3200000 in
theorem refCount_29 (v : Value) (p : P) (t : Int) (w : World) (H : Rpv w v p) (hm : lenB p) : Calls Tryd.prog 29 #[v, .int .i64 t] w fun e w' => e = .returned (.int .i64 (countP p t)) ∧ Below w.heap.size w w' := by
  obtain ⟨R, hR⟩ : ∃ R, countP p t = R := ⟨_, rfl⟩
  rw [hR]
  have HR := Lib.hid hR
  clear hR
  obtain ⟨cs, rfl, hV⟩ := H
  have X0 := PX.new hV
  have HV0 := Lib.hid hV
  clear hV
  go_enter Tryd.func29, Tryd.ntmps29
  go_upto_region 1 with fail
  obtain ⟨w1, hw1⟩ : ∃ W, W = w.alloc (.cells cs.toArray 26) := ⟨_, rfl⟩
  have X1 : PX w w.heap.size cs p w1 := by rw [hw1]; exact X0
  rw [← hw1]
  obtain ⟨g, hg0⟩ : ∃ g, w.heap.size = g := ⟨_, rfl⟩
  rw [hg0] at X1 ⊢
  clear hw1 X0 hg0
  go_wp2_with ((with_reducible refine ld ?_ X1.x X1.v.len ?_); (focus rfl))
  refine (refCheck_15 _ p w1 X1.rpv hm).mono ?_
  rintro e w2 ⟨rfl, b2⟩
  have X2 := X1.below b2
  clear X1 b2
  obtain ⟨c, hc⟩ : ∃ c, chk p = c := ⟨_, rfl⟩
  rw [hc]
  by_cases hc0 : c = 0
  · subst hc0
    have HV := Lib.hid (vd_of hc)
    by_cases htk : t < 0 ∨ 3 ≤ t
    · have HF := Lib.hid (show R = 0 by
        rw [← HR.out]; unfold countP kindB; rw [if_neg]; rintro ⟨_, h⟩; have := of_decide_eq_true h; omega)
      rcases htk with htk | htk
      · have t1 : decide (t < 0) = true := by simpa using htk
        go_wp2
        go_ret
        exact ⟨ret_int HF.out.symm, X2.b⟩
      · have t1 : decide (t < 0) = false := by simp; omega
        have t2 : decide (3 ≤ t) = true := by simpa using htk
        go_wp2
        go_ret
        exact ⟨ret_int HF.out.symm, X2.b⟩
    · obtain ⟨t, rfl⟩ : ∃ n : Nat, t = (n : Int) := ⟨t.toNat, by omega⟩
      have ht : t < 3 := by omega
      have t1 : decide ((t : Int) < 0) = false := by simp
      have t2 : decide (3 ≤ (t : Int)) = false := by simp; omega
      obtain ⟨T, hT⟩ : ∃ T, sQ (ofT p (t : Int)) (covA p 0) (16 * p.ty.length) p.st = T := ⟨_, rfl⟩
      have HF := Lib.hid (show R = (T : Int) by
        rw [← HR.out, ← hT, count_ref HV.out.l ht]; unfold countP kindB base; rw [if_pos ⟨hc, decide_eq_true ⟨by omega, by omega⟩⟩, Int.toNat_natCast])
      have hTb : T ≤ 100000 := by
        have h1 := sQ_all (Q := ofT p (t : Int)) (n := 16 * p.ty.length) (a := p.st) (C := covA p 0) fun x hx => by
          obtain ⟨h1, h2, _⟩ := cov_range HV.out.l hx
          exact ⟨h1, by omega⟩
        have h2 := (List.filter_sublist (p := ofT p (t : Int)) (l := covA p 0)).length_le
        have h3 := covA_len HV.out.l 15 0 rfl
        omega
      have HT := Lib.hid hT
      obtain ⟨r1, r2, r3, r4, r5, _⟩ := rng_of HV.out.l.rng
      obtain ⟨n, hn⟩ : ∃ n, p.ty.length = n := ⟨_, rfl⟩
      rw [hn] at r3 r4 r5
      have HN := Lib.hid hn
      clear htk hc hT r2 r3 hn
      go_wp2_with ((with_reducible refine ld ?_ X2.x X2.v.len ?_); (focus rfl))
      refine (set_38 _ p w2 X2.rpv HV.out.l).mono ?_
      rintro e w4 ⟨gs, rfl, hS4, hls, b4⟩
      have X4 := X2.below b4
      clear X2 b4 hls
      go_wp2
      go_loopg [5, 7] (16 * n) (fun gg v5 v7 wr => ∃ i S : Nat, i + gg = 16 * n ∧ v7 = .int .i64 i ∧ v5 = .int .i64 S ∧ T = S + sQ (ofT p (t : Int)) (covA p 0) (16 * n - i) (p.st + (i : Int)) ∧ w4 = wr)
      case atStart => exact ⟨0, 0, by omega, rfl, rfl, by rw [← HT.out, HN.out]; simp, rfl⟩
      case round =>
        obtain ⟨i, S, hi, rfl, rfl, hS, rfl⟩ := hrel
        have HSS := Lib.hid hS
        obtain ⟨aT, nT, cT, hTy, hnT, _, _, _, hIT⟩ := X4.v.types X4.x
        obtain rfl : nT = n := by rw [← hnT]; exact HN.out
        have h0 := X4.v.start X4.x
        clear hS hnT
        cases gk with
        | zero =>
          obtain rfl : i = 16 * nT := by omega
          have ti : decide (((16 * nT : Nat) : Int) < 16 * (nT : Int)) = false := by simp
          have HF2 := Lib.hid (show R = (S : Int) by
            rw [HF.out, HSS.out, Nat.sub_self]
            rfl)
          obtain ⟨ii, hii⟩ : ∃ x, 16 * nT = x := ⟨_, rfl⟩
          have ti2 : decide ((ii : Int) < 16 * (nT : Int)) = false := by simp; omega
          rw [hii]
          clear hi hii ti HSS hIT
          go_wp2
          go_ret
          exact ⟨ret_int HF2.out.symm, X4.b⟩
        | succ gg =>
          have hin : i < 16 * nT := by omega
          have ti : decide ((i : Int) < 16 * (nT : Int)) = true := by simp; omega
          obtain ⟨q, hq⟩ : ∃ q, i / 16 = q := ⟨_, rfl⟩
          have e1 : (i : Int).tdiv 16 = (q : Int) := by rw [Int.tdiv_eq_ediv_of_nonneg (by omega)]; omega
          have e2 : (i : Int) / 16 = (q : Int) := by omega
          have hqn : q < nT := by omega
          obtain ⟨y, hy⟩ := get_some HN.out hqn
          obtain ⟨bT, oT, rfl, cy⟩ := hIT.at hy
          have hty : tyAt p (p.st + (i : Int)) = y := by
            unfold tyAt
            rw [show ((p.st + (i : Int) - p.st) / 16).toNat = q by omega, List.getD_eq_getElem?_getD, hy]; rfl
          have hstep := sQ_step (Q := ofT p (t : Int)) (C := covA p 0) (a := p.st) hin
          obtain ⟨xq, hxq⟩ : ∃ x : Nat, p.st + (i : Int) = (x : Int) := ⟨(p.st + (i : Int)).toNat, by omega⟩
          have hx256 : xq < 256 := by omega
          obtain ⟨Z, hZ⟩ : ∃ Z, (covA p 0).count (xq : Int) = Z := ⟨_, rfl⟩
          have c0 := hS4.cell xq
          rw [nums_get (cnts_get _ hx256), hZ] at c0
          rw [hxq, hZ] at hstep
          have hofq : ofT p (t : Int) (xq : Int) = decide (y = (t : Int)) := by unfold ofT; rw [← hxq, hty]
          rw [hofq] at hstep
          have HST := Lib.hid hstep; have HI := Lib.hid hi; have HXQ := Lib.hid hxq
          have hq16 : q < 16 := by omega
          have hi256 : i < 256 := by omega
          clear hy hty hstep hi hIT hq hZ hofq
          have HS1 := HSS.out
          rw [HXQ.out, HST.out] at HS1
          by_cases hyt : y = (t : Int)
          · have ty0 : (y == (t : Int)) = true := by simpa using hyt
            have HS2 := Lib.hid (show T = (S + Z) + sQ (ofT p (t : Int)) (covA p 0) (16 * nT - (i + 1)) (p.st + ((i + 1 : Nat) : Int)) by
              rw [HS1, if_pos (decide_eq_true hyt)]; omega)
            have hSZ : S + Z ≤ 100000 := by have := HS2.out; omega
            have HXX := Lib.hid hxq
            clear HS1 hyt
            go_wp2
            go_roundg gg
            case rel => exact ⟨i + 1, S + Z, by have := HI.out; omega, by go_num, by go_num, HS2.out, rfl⟩
            case measure => omega
          · have ty0 : (y == (t : Int)) = false := by simpa using hyt
            have HS2 := Lib.hid (show T = S + sQ (ofT p (t : Int)) (covA p 0) (16 * nT - (i + 1)) (p.st + ((i + 1 : Nat) : Int)) by
              rw [HS1, if_neg (by rw [decide_eq_false hyt]; decide)]; omega)
            clear HS1 hyt
            go_wp2
            go_roundg gg
            case rel => exact ⟨i + 1, S, by have := HI.out; omega, by go_num, rfl, HS2.out, rfl⟩
            case measure => omega
  · have HF := Lib.hid (show R = 0 by rw [← HR.out]; unfold countP; rw [if_neg (fun g => hc0 (by rw [← hc]; exact g.1))])
    have t0 : (c != 0) = true := by simpa using hc0
    go_wp2
    go_ret
    exact ⟨ret_int HF.out.symm, X2.b⟩
end Go.Proofs.YtkiiifmofmbniaaDoor
