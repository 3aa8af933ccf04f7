/- Walks: put, of the document. -/
import Derived.Test.YtlhbjmoncdljoaaD16
namespace Go.Dev
/-- What is still put behind the entries before. -/
def putL (b : Int) (s : List Int) : Bool → List Ca → List Ca
  | dn, [] => if dn = true then [] else [(b, s)]
  | dn, c :: r => (if dn = false ∧ b ≤ c.1 then [(b, s)] else []) ++ ((if c.1 = b then [] else [c]) ++ putL b s (dn || decide (b ≤ c.1)) r)
theorem putL_true {b : Int} {s : List Int} : ∀ {l : List Ca} {p : Int}, AscC p l → b ≤ p → putL b s true l = l
  | [], _, _, _ => rfl
  | c :: r, p, h, hb => by
    have h1 := h.1
    rw [putL, if_neg (by simp), if_neg (by omega), Bool.true_or, putL_true h.2 (by omega)]
    rfl
theorem putL_false {b : Int} {s : List Int} : ∀ {l : List Ca} {p : Int}, AscC p l → putL b s false l = putC b s l
  | [], _, _ => rfl
  | c :: r, p, h => by
    rw [putL, putC]
    by_cases h1 : c.1 < b
    · rw [if_neg (by omega), if_neg (by omega), if_pos h1, show (false || decide (b ≤ c.1)) = false by simp; omega, putL_false h.2]
      rfl
    · rw [if_pos ⟨rfl, by omega⟩, if_neg h1, show (false || decide (b ≤ c.1)) = true by simp; omega]
      by_cases h2 : c.1 = b
      · rw [if_pos h2, if_pos h2, putL_true h.2 (by omega)]; rfl
      · rw [if_neg h2, if_neg h2, putL_true h.2 (by omega)]; rfl
theorem putL_step {b : Int} {s : List Int} {dn : Bool} {l : List Ca} {i : Nat} {c : Ca} (h : l[i]? = some c) :
    putL b s dn (l.drop i) = (if dn = false ∧ b ≤ c.1 then [(b, s)] else []) ++ ((if c.1 = b then [] else [c]) ++ putL b s (dn || decide (b ≤ c.1)) (l.drop (i + 1))) := by rw [drop_get h]; rfl
end Go.Dev
namespace Go.Proofs.Ytlhbjmoncdljoaa
open Go.RowKit Go.Over Go.Dev Go.Seg Go.Grow
set_option maxRecDepth 100000 in set_option maxHeartbeats 3200000 in
theorem put_50 (B : Nat) (aC : Option Addr) (ca : List Ca) (nC cC : Nat) (b : Int) (a : Option Addr) (s : List Int) (n c : Nat) (w : World) (HC : Row 64 2 RC w B (.slice aC nC cC) ca) (hC : ca.length = nC) (HV : SlV w (.slice a n c) s) (hn : s.length = n) (hn2 : n ≤ 100000) (mC : nC ≤ 1000) (hasc : AscC (-1) ca) :
    Calls Try.prog 50 #[.slice aC nC cC, .int .i64 b, .slice a n c] w fun e w' => ∃ V, e = .returned V ∧ Row 64 2 RC w' w.heap.size V (putC b s ca) ∧ Below w.heap.size w w' := by
  have NC := Lib.hid hC; have HN := Lib.hid hn
  obtain ⟨Q, hQ⟩ : ∃ Q, putC b s ca = Q := ⟨_, rfl⟩
  rw [hQ]
  have HQ := Lib.hid ((putL_false (s := s) hasc).trans hQ)
  clear hC hn hasc hQ
  go_enter Try.func50, Try.ntmps50
  go_wp2
  go_loopg [7, 8, 9] nC (fun gg v7 v8 v9 wr => ∃ (i : Nat) (dn : Bool) (V : Value) (l : List Ca), i + gg = nC ∧ V = v7 ∧ v8 = .bool dn ∧ v9 = .int .i64 i ∧ l.length ≤ 2 * i ∧ Q = l ++ putL b s dn (ca.drop i) ∧ Row 64 2 RC wr w.heap.size V l ∧ Below w.heap.size w wr)
  case atStart => exact ⟨0, false, _, [], by omega, rfl, rfl, rfl, Nat.le_refl _, by rw [List.drop_zero, HQ.out]; rfl, Row.nil _ _, Below.refl _ _⟩
  case round =>
    obtain ⟨i, dn, V, l, hg, rfl, rfl, rfl, hl, hP, hR, hb⟩ := hrel
    obtain ⟨j, hj⟩ : ∃ j, l.length = j := ⟨_, rfl⟩
    obtain ⟨aV, cV, rfl, _, _, _⟩ := hR.form hj
    rw [hj] at hl
    have HJ := Lib.hid hj
    clear hj
    cases gk with
    | zero =>
      obtain rfl : i = nC := by omega
      rw [List.drop_eq_nil_of_le (by rw [NC.out]; exact Nat.le_refl _)] at hP
      cases dn with
      | true =>
        have HP := Lib.hid (show l = Q by rw [hP]; simp [putL])
        clear hP hg
        go_wp2
        go_ret
        exact ⟨_, rfl, by rw [← HP.out]; exact hR, hb⟩
      | false =>
        have HP := Lib.hid (show l ++ [(b, s)] = Q by rw [hP]; simp [putL])
        clear hP hg
        obtain ⟨_, _, hsl, hs1, hs2, hs3, hbt1⟩ := (HV.k5 (K5.below hb)).form HN.out
        cases hsl
        go_wp2_with fail
        refine (bytes_43 a s n c wr hbt1 HN.out hs3 hs1 hn2).mono ?_
        rintro e v1 ⟨v, rfl, hv1, hc1⟩
        obtain ⟨a1, c1, rfl, _, _, _, _⟩ := hv1.form HN.out
        have hq1 := below_box v1 (.cells #[.int .i64 b, .slice a1 n c1] 64)
        have hR1 := (hR.later EC hc1).later EC hq1
        have hw1 := hv1.k5 (K5.below hq1)
        have hz1 : Below w.heap.size w (v1.alloc (.cells #[.int .i64 b, .slice a1 n c1] 64)) := (hb.trans (hc1.mono hb.size)).trans (hq1.mono (Nat.le_trans hb.size hc1.size))
        obtain ⟨xs1, hown1, hall1⟩ := hR1
        rw [HJ.out] at hown1

        go_wp2_with (at_builtin; refine wpList_append_k K23 rfl (.tmp 50) (.tmp 55) rfl _ _ _ rfl hown1 _ 1 1 _ rfl (src_new v1 #[.int .i64 b, .slice a1 n c1] 64 2 1 1 rfl (by simp [Value.oneCell'])) ?c1 ?c2 ?_)
        case c1 => omega
        case c2 => first | exact hz1.size | simpa using hz1.size
        intro V1 u1 hO1 hgrow1 _
        have hB1 : Below w.heap.size w u1 := hz1.grown hgrow1 hz1.size (fun q hq => (World.ownsRow.lt hown1 q hq).1)
        have hk1 := K5.grown hgrow1 hown1 (by decide)
        have hS1 : Row 64 2 RC u1 w.heap.size V1 (l ++ [(b, s)]) := Row.push EC hall1 hk1 hO1 (by rw [HJ.out]) ⟨_, rfl, hw1.k5 hk1⟩
        obtain ⟨aV1, cV1, rfl, _, _, _⟩ := hS1.form (n := j + 1) (by rw [List.length_append, HJ.out]; rfl)
        clear hown1 hO1 hgrow1 hk1 hw1 hall1 hz1 hq1 hc1 hv1 hbt1
        go_wp2
        go_ret
        exact ⟨_, rfl, by rw [← HP.out]; exact hS1, hB1⟩
    | succ gg =>
      have hin : i < nC := by omega
      obtain ⟨⟨f, x⟩, hs⟩ := get_some NC.out hin
      rw [putL_step hs] at hP
      obtain ⟨m, hm⟩ : ∃ m, x.length = m := ⟨_, rfl⟩
      have HM := Lib.hid hm; have HS := Lib.hid hs; have HG := Lib.hid hg
      clear hm hs hg
      obtain ⟨g0, d0, hV, _, _, hent⟩ := (HC.later EC hb).get EC (by rw [NC.out]; omega)
      rw [NC.out] at hV
      cases hV
      obtain ⟨x0, ⟨sv0, rfl, hx0⟩, hy0⟩ := hent i _ HS.out
      obtain ⟨a0, k0, rfl, _, _, _, _⟩ := hx0.form HM.out
      have z00 := hy0 0 (by decide)
      have z01 := hy0 1 (by decide)
      simp only [List.getElem?_cons_zero, List.getElem?_cons_succ, Nat.add_zero] at z00 z01 hx0
      clear hent hy0
      by_cases h2 : f = b
      · have t2 : (f != b) = false := by simp [h2]
        rw [if_pos h2] at hP
        cases dn with
        | true =>
          have HP := Lib.hid (show Q = l ++ putL b s true (ca.drop (i + 1)) by rw [hP]; simp)
          clear hP h2
          go_wp2
          go_roundg gg
          case rel => exact ⟨i + 1, true, _, l, by have := HG.out; omega, rfl, rfl, by go_num, by rw [HJ.out]; omega, HP.out, hR, hb⟩
          case measure => omega
        | false =>
          have t1 : decide (b ≤ f) = true := by simp; omega
          have HP := Lib.hid (show Q = l ++ [(b, s)] ++ putL b s true (ca.drop (i + 1)) by rw [hP]; simp [h2])
          clear hP h2 hx0
          obtain ⟨_, _, hsl, hs1, hs2, hs3, hbt1⟩ := (HV.k5 (K5.below hb)).form HN.out
          cases hsl
          go_wp2_with fail
          refine (bytes_43 a s n c wr hbt1 HN.out hs3 hs1 hn2).mono ?_
          rintro e v1 ⟨v, rfl, hv1, hc1⟩
          obtain ⟨a1, c1, rfl, _, _, _, _⟩ := hv1.form HN.out
          have hq1 := below_box v1 (.cells #[.int .i64 b, .slice a1 n c1] 64)
          have hR1 := (hR.later EC hc1).later EC hq1
          have hw1 := hv1.k5 (K5.below hq1)
          have hz1 : Below w.heap.size w (v1.alloc (.cells #[.int .i64 b, .slice a1 n c1] 64)) := (hb.trans (hc1.mono hb.size)).trans (hq1.mono (Nat.le_trans hb.size hc1.size))
          obtain ⟨xs1, hown1, hall1⟩ := hR1
          rw [HJ.out] at hown1

          go_wp2_with (at_builtin; refine wpList_append_k K23 rfl (.tmp 27) (.tmp 32) rfl _ _ _ rfl hown1 _ 1 1 _ rfl (src_new v1 #[.int .i64 b, .slice a1 n c1] 64 2 1 1 rfl (by simp [Value.oneCell'])) ?c1 ?c2 ?_)
          case c1 => omega
          case c2 => first | exact hz1.size | simpa using hz1.size
          intro V1 u1 hO1 hgrow1 _
          have hB1 : Below w.heap.size w u1 := hz1.grown hgrow1 hz1.size (fun q hq => (World.ownsRow.lt hown1 q hq).1)
          have hk1 := K5.grown hgrow1 hown1 (by decide)
          have hS1 : Row 64 2 RC u1 w.heap.size V1 (l ++ [(b, s)]) := Row.push EC hall1 hk1 hO1 (by rw [HJ.out]) ⟨_, rfl, hw1.k5 hk1⟩
          obtain ⟨aV1, cV1, rfl, _, _, _⟩ := hS1.form (n := j + 1) (by rw [List.length_append, HJ.out]; rfl)
          clear hown1 hO1 hgrow1 hk1 hw1 hall1 hz1 hq1 hc1 hv1 hbt1
          obtain ⟨g2, d2, hV, _, _, hent⟩ := (HC.later EC hB1).get EC (by rw [NC.out]; omega)
          rw [NC.out] at hV
          cases hV
          obtain ⟨x2, ⟨sv2, rfl, hx2⟩, hy2⟩ := hent i _ HS.out
          obtain ⟨a2, k2, rfl, _, _, _, _⟩ := hx2.form HM.out
          have z20 := hy2 0 (by decide)
          have z21 := hy2 1 (by decide)
          simp only [List.getElem?_cons_zero, List.getElem?_cons_succ, Nat.add_zero] at z20 z21 hx2
          clear hent hy2
          go_wp2
          go_roundg gg
          case rel => exact ⟨i + 1, true, _, _, by have := HG.out; omega, rfl, rfl, by go_num, by rw [List.length_append, HJ.out]; simp; omega, HP.out, hS1, hB1⟩
          case measure => omega
      · have t2 : (f != b) = true := by simp [h2]
        rw [if_neg h2] at hP
        by_cases h1 : dn = false ∧ b ≤ f
        · obtain ⟨rfl, h1⟩ := h1
          have t1 : decide (b ≤ f) = true := by simp; omega
          have HP := Lib.hid (show Q = l ++ [(b, s)] ++ [(f, x)] ++ putL b s true (ca.drop (i + 1)) by rw [hP, if_pos ⟨rfl, h1⟩]; simp [h1])
          clear hP h2 h1 hx0
          obtain ⟨_, _, hsl, hs1, hs2, hs3, hbt1⟩ := (HV.k5 (K5.below hb)).form HN.out
          cases hsl
          go_wp2_with fail
          refine (bytes_43 a s n c wr hbt1 HN.out hs3 hs1 hn2).mono ?_
          rintro e v1 ⟨v, rfl, hv1, hc1⟩
          obtain ⟨a1, c1, rfl, _, _, _, _⟩ := hv1.form HN.out
          have hq1 := below_box v1 (.cells #[.int .i64 b, .slice a1 n c1] 64)
          have hR1 := (hR.later EC hc1).later EC hq1
          have hw1 := hv1.k5 (K5.below hq1)
          have hz1 : Below w.heap.size w (v1.alloc (.cells #[.int .i64 b, .slice a1 n c1] 64)) := (hb.trans (hc1.mono hb.size)).trans (hq1.mono (Nat.le_trans hb.size hc1.size))
          obtain ⟨xs1, hown1, hall1⟩ := hR1
          rw [HJ.out] at hown1

          go_wp2_with (at_builtin; refine wpList_append_k K23 rfl (.tmp 27) (.tmp 32) rfl _ _ _ rfl hown1 _ 1 1 _ rfl (src_new v1 #[.int .i64 b, .slice a1 n c1] 64 2 1 1 rfl (by simp [Value.oneCell'])) ?c1 ?c2 ?_)
          case c1 => omega
          case c2 => first | exact hz1.size | simpa using hz1.size
          intro V1 u1 hO1 hgrow1 _
          have hB1 : Below w.heap.size w u1 := hz1.grown hgrow1 hz1.size (fun q hq => (World.ownsRow.lt hown1 q hq).1)
          have hk1 := K5.grown hgrow1 hown1 (by decide)
          have hS1 : Row 64 2 RC u1 w.heap.size V1 (l ++ [(b, s)]) := Row.push EC hall1 hk1 hO1 (by rw [HJ.out]) ⟨_, rfl, hw1.k5 hk1⟩
          obtain ⟨aV1, cV1, rfl, _, _, _⟩ := hS1.form (n := j + 1) (by rw [List.length_append, HJ.out]; rfl)
          clear hown1 hO1 hgrow1 hk1 hw1 hall1 hz1 hq1 hc1 hv1 hbt1
          obtain ⟨g2, d2, hV, _, _, hent⟩ := (HC.later EC hB1).get EC (by rw [NC.out]; omega)
          rw [NC.out] at hV
          cases hV
          obtain ⟨x2, ⟨sv2, rfl, hx2⟩, hy2⟩ := hent i _ HS.out
          obtain ⟨a2, k2, rfl, _, _, _, _⟩ := hx2.form HM.out
          have z20 := hy2 0 (by decide)
          have z21 := hy2 1 (by decide)
          simp only [List.getElem?_cons_zero, List.getElem?_cons_succ, Nat.add_zero] at z20 z21 hx2
          clear hent hy2
          have hq2 := below_box u1 (.cells #[.int .i64 f, .slice a2 m k2] 64)
          have hR2 := hS1.later EC hq2
          have hw2 := hx2.k5 (K5.below hq2)
          have hz2 : Below w.heap.size w (u1.alloc (.cells #[.int .i64 f, .slice a2 m k2] 64)) := hB1.trans (hq2.mono hB1.size)
          obtain ⟨xs2, hown2, hall2⟩ := hR2
          rw [show (l ++ [(b, s)]).length = j + 1 by rw [List.length_append, HJ.out]; rfl] at hown2

          go_wp2_with (at_builtin; refine wpList_append_k K23 rfl (.tmp 41) (.tmp 46) rfl _ _ _ rfl hown2 _ 1 1 _ rfl (src_new u1 #[.int .i64 f, .slice a2 m k2] 64 2 1 1 rfl (by simp [Value.oneCell'])) ?c1 ?c2 ?_)
          case c1 => omega
          case c2 => first | exact hz2.size | simpa using hz2.size
          intro V2 u2 hO2 hgrow2 _
          have hB2 : Below w.heap.size w u2 := hz2.grown hgrow2 hz2.size (fun q hq => (World.ownsRow.lt hown2 q hq).1)
          have hk2 := K5.grown hgrow2 hown2 (by decide)
          have hS2 : Row 64 2 RC u2 w.heap.size V2 ((l ++ [(b, s)]) ++ [(f, x)]) := Row.push EC hall2 hk2 hO2 (by rw [show (l ++ [(b, s)]).length = j + 1 by rw [List.length_append, HJ.out]; rfl]) ⟨_, rfl, hw2.k5 hk2⟩
          obtain ⟨aV2, cV2, rfl, _, _, _⟩ := hS2.form (n := j + 1 + 1) (by rw [List.length_append, show (l ++ [(b, s)]).length = j + 1 by rw [List.length_append, HJ.out]; rfl]; rfl)
          clear hown2 hO2 hgrow2 hk2 hw2 hall2 hz2 hq2 z20 z21 hx2
          go_wp2
          go_roundg gg
          case rel => exact ⟨i + 1, true, _, _, by have := HG.out; omega, rfl, rfl, by go_num, by rw [List.length_append, List.length_append, HJ.out]; simp; omega, HP.out, hS2, hB2⟩
          case measure => omega
        · rw [if_neg h1] at hP
          have HP := Lib.hid (show Q = l ++ [(f, x)] ++ putL b s dn (ca.drop (i + 1)) by
            rw [hP]
            cases dn with
            | true => simp
            | false =>
              have : decide (b ≤ f) = false := by simp at h1; simp; omega
              simp [this])
          cases dn with
          | true =>
            clear hP h2 h1
            have hq0 := below_box wr (.cells #[.int .i64 f, .slice a0 m k0] 64)
            have hR0 := hR.later EC hq0
            have hw0 := hx0.k5 (K5.below hq0)
            have hz0 : Below w.heap.size w (wr.alloc (.cells #[.int .i64 f, .slice a0 m k0] 64)) := hb.trans (hq0.mono hb.size)
            obtain ⟨xs0, hown0, hall0⟩ := hR0
            rw [show (l).length = j by exact HJ.out] at hown0

            go_wp2_with (at_builtin; refine wpList_append_k K23 rfl (.tmp 41) (.tmp 46) rfl _ _ _ rfl hown0 _ 1 1 _ rfl (src_new wr #[.int .i64 f, .slice a0 m k0] 64 2 1 1 rfl (by simp [Value.oneCell'])) ?c1 ?c2 ?_)
            case c1 => omega
            case c2 => first | exact hz0.size | simpa using hz0.size
            intro V0 u0 hO0 hgrow0 _
            have hB0 : Below w.heap.size w u0 := hz0.grown hgrow0 hz0.size (fun q hq => (World.ownsRow.lt hown0 q hq).1)
            have hk0 := K5.grown hgrow0 hown0 (by decide)
            have hS0 : Row 64 2 RC u0 w.heap.size V0 ((l) ++ [(f, x)]) := Row.push EC hall0 hk0 hO0 (by rw [show (l).length = j by exact HJ.out]) ⟨_, rfl, hw0.k5 hk0⟩
            obtain ⟨aV0, cV0, rfl, _, _, _⟩ := hS0.form (n := j + 1) (by rw [List.length_append, show (l).length = j by exact HJ.out]; rfl)
            clear hown0 hO0 hgrow0 hk0 hw0 hall0 hz0 hq0 z00 z01 hx0
            go_wp2
            go_roundg gg
            case rel => exact ⟨i + 1, true, _, _, by have := HG.out; omega, rfl, rfl, by go_num, by rw [List.length_append, HJ.out]; simp; omega, HP.out, hS0, hB0⟩
            case measure => omega
          | false =>
            have t1 : decide (b ≤ f) = false := by simp at h1; simp; omega
            clear hP h2 h1
            have hq0 := below_box wr (.cells #[.int .i64 f, .slice a0 m k0] 64)
            have hR0 := hR.later EC hq0
            have hw0 := hx0.k5 (K5.below hq0)
            have hz0 : Below w.heap.size w (wr.alloc (.cells #[.int .i64 f, .slice a0 m k0] 64)) := hb.trans (hq0.mono hb.size)
            obtain ⟨xs0, hown0, hall0⟩ := hR0
            rw [show (l).length = j by exact HJ.out] at hown0

            go_wp2_with (at_builtin; refine wpList_append_k K23 rfl (.tmp 41) (.tmp 46) rfl _ _ _ rfl hown0 _ 1 1 _ rfl (src_new wr #[.int .i64 f, .slice a0 m k0] 64 2 1 1 rfl (by simp [Value.oneCell'])) ?c1 ?c2 ?_)
            case c1 => omega
            case c2 => first | exact hz0.size | simpa using hz0.size
            intro V0 u0 hO0 hgrow0 _
            have hB0 : Below w.heap.size w u0 := hz0.grown hgrow0 hz0.size (fun q hq => (World.ownsRow.lt hown0 q hq).1)
            have hk0 := K5.grown hgrow0 hown0 (by decide)
            have hS0 : Row 64 2 RC u0 w.heap.size V0 ((l) ++ [(f, x)]) := Row.push EC hall0 hk0 hO0 (by rw [show (l).length = j by exact HJ.out]) ⟨_, rfl, hw0.k5 hk0⟩
            obtain ⟨aV0, cV0, rfl, _, _, _⟩ := hS0.form (n := j + 1) (by rw [List.length_append, show (l).length = j by exact HJ.out]; rfl)
            clear hown0 hO0 hgrow0 hk0 hw0 hall0 hz0 hq0 z00 z01 hx0
            go_wp2
            go_roundg gg
            case rel => exact ⟨i + 1, false, _, _, by have := HG.out; omega, rfl, rfl, by go_num, by rw [List.length_append, HJ.out]; simp; omega, HP.out, hS0, hB0⟩
            case measure => omega
end Go.Proofs.Ytlhbjmoncdljoaa
