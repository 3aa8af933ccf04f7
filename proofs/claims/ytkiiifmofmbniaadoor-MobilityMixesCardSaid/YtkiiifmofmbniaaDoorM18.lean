/- Walks: the mixed page blocks, of the program. -/
import Derived.Test.YtkiiifmofmbniaaDoorM15
namespace Go.Proofs.YtkiiifmofmbniaaDoor
open Go.RowKit Go.Over Go.Mob Go.Can Go.Seg Go.Grow
theorem ret_ii {a b c d : Int} (h : c = a) (h2 : d = b) : Ending.returned (.tuple #[.int .i64 a, .int .i64 b]) = .returned (.tuple #[.int .i64 c, .int .i64 d]) := by rw [h, h2]
def mixQ (t : Int) : Bool := decide (t ≠ -1) && !kindB t
set_option maxRecDepth 100000 in set_option maxHeartbeats 3200000 in
theorem mixed_30 (v : Value) (p : P) (a : Option Addr) (l : List Int) (n c : Nat) (w : World) (H : Rpv w v p) (HI : Ints w a l) (hn : l.length = n) (hm : n ≤ 1000000) :
    Calls Tryd.prog 30 #[v, .slice a n c] w fun e w' => e = .returned (.tuple #[.int .i64 (mixedP p l).1, .int .i64 (mixedP p l).2]) ∧ Below w.heap.size w w' := by
  obtain ⟨R, hR⟩ : ∃ R, mixedP p l = R := ⟨_, rfl⟩
  rw [hR]
  have HR := Lib.hid hR
  have HN := Lib.hid hn
  clear hR hn
  obtain ⟨cs, rfl, hV⟩ := H
  have X0 := PX.new hV
  have HI1 := HI.below (below_box w (.cells cs.toArray 26))
  clear hV HI
  go_enter Tryd.func30, Tryd.ntmps30
  go_upto_region 1 with fail
  obtain ⟨w1, hw1⟩ : ∃ W, W = w.alloc (.cells cs.toArray 26) := ⟨_, rfl⟩
  have X1 : PX w w.heap.size cs p w1 := by rw [hw1]; exact X0
  rw [← hw1] at HI1 ⊢
  obtain ⟨g, hg0⟩ : ∃ g, w.heap.size = g := ⟨_, rfl⟩
  rw [hg0] at X1 ⊢
  clear hw1 X0 hg0
  go_wp2_with ((with_reducible refine ld ?_ X1.x X1.v.len ?_); (focus rfl))
  refine (check_14 _ p w1 X1.rpv).mono ?_
  rintro e w2 ⟨rfl, b2⟩
  have X2 := X1.below b2
  have HI2 := HI1.below b2
  clear X1 b2 HI1
  obtain ⟨k, hc⟩ : ∃ k, chk p = k := ⟨_, rfl⟩
  rw [hc]
  by_cases hc0 : k = 0
  · subst hc0
    have HV := Lib.hid (vd_of hc)
    have HR2 := Lib.hid (show R = if l.length ≠ 16 * p.ty.length then (0, 3) else if l.any mixQ = true then (0, 1) else (((mixN p.ty l 0 (-1) : Nat) : Int), 0) by rw [← HR.out]; exact if_neg (by rw [hc]; decide))
    have hrng := HV.out.l.rng
    obtain ⟨_, _, r3, r4, _, r6⟩ := rng_of hrng
    obtain ⟨aT, nT, cT, hT, hnT, _, _, _, hIT⟩ := X2.v.types X2.x
    have HNT := Lib.hid hnT; have HIT := Lib.hid hIT
    rw [hnT] at r3 r4
    clear HR hc hrng r6 hnT hIT
    by_cases hln : n = 16 * nT
    · have t0 : ((n : Int) != (nT : Int) * 16) = false := by simp; omega
      have HR3 := Lib.hid (show R = if l.any mixQ = true then (0, 1) else (((mixN p.ty l 0 (-1) : Nat) : Int), 0) by rw [HR2.out, if_neg (by rw [HN.out, HNT.out]; omega)])
      have HLN := Lib.hid hln
      clear HR2 hln
      go_wp2
      go_loopg [27] n (fun gg v27 wr => ∃ i : Nat, i + gg = n ∧ v27 = .int .i64 i ∧ l.any mixQ = (l.drop i).any mixQ ∧ w2 = wr)
      case atStart => exact ⟨0, by omega, rfl, rfl, rfl⟩
      case round =>
        obtain ⟨i, hg, rfl, hA, rfl⟩ := hrel
        cases gk with
        | zero =>
          obtain rfl : i = n := by omega
          have HR4 := Lib.hid (show R = (((mixN p.ty l 0 (-1) : Nat) : Int), 0) by rw [HR3.out, if_neg (by rw [hA, List.drop_eq_nil_of_le (by rw [HN.out]; exact Nat.le_refl _)]; decide)])
          clear hg hA HR3
          go_wp2
          go_loopg [41, 7, 8] i (fun gg v41 v7 v8 wr => ∃ (j cnt : Nat) (last : Int), j + gg = i ∧ v41 = .int .i64 j ∧ v7 = .int .i64 cnt ∧ v8 = .int .i64 last ∧ cnt ≤ j ∧ mixN p.ty l 0 (-1) = cnt + mixN p.ty (l.drop j) j last ∧ w2 = wr)
          case atStart => exact ⟨0, 0, -1, by omega, rfl, rfl, rfl, by omega, by rw [Nat.zero_add]; rfl, rfl⟩
          case round =>
            obtain ⟨j, cnt, last, hg, rfl, rfl, rfl, hcj, hM, rfl⟩ := hrel
            cases gk with
            | zero =>
              obtain rfl : j = i := by omega
              have HF := Lib.hid (show R = ((cnt : Int), 0) by rw [HR4.out, hM, List.drop_eq_nil_of_le (by rw [HN.out]; exact Nat.le_refl _)]; rfl)
              clear hg hM
              go_wp2
              go_ret2
              exact ⟨ret_ii (by rw [HF.out]) (by rw [HF.out]), X2.b⟩
            | succ gg =>
              have hji : j < i := by omega
              obtain ⟨x, hx⟩ := get_some HN.out hji
              obtain ⟨b, off, rfl, cx⟩ := HI2.at hx
              obtain ⟨d, hd⟩ : ∃ d, j / 16 = d := ⟨_, rfl⟩
              have ed : (j : Int).tdiv 16 = (d : Int) := by rw [Int.tdiv_eq_ediv_of_nonneg (by omega)]; omega
              have hdn : d < nT := by have := HLN.out; omega
              obtain ⟨y, hy⟩ := get_some HNT.out hdn
              obtain ⟨bT, oT, rfl, cy⟩ := HIT.out.at hy
              have hyd : p.ty.getD d 0 = y := by rw [List.getD_eq_getElem?_getD, hy]; rfl
              have HM := Lib.hid (show mixN p.ty l 0 (-1) = cnt + (if x ≠ -1 ∧ x ≠ y ∧ (d : Int) ≠ last then mixN p.ty (l.drop (j + 1)) (j + 1) (d : Int) + 1 else mixN p.ty (l.drop (j + 1)) (j + 1) last) by
                rw [hM, drop_get hx, ← hyd, ← hd]; rfl)
              have HG := Lib.hid hg; have HCJ := Lib.hid hcj
              clear hg hM hx hd hy hyd
              by_cases hc : x ≠ -1 ∧ x ≠ y ∧ (d : Int) ≠ last
              · have t1 : (x != -1) = true := by simpa using hc.1
                have t2 : (x != y) = true := by simpa using hc.2.1
                have t3 : ((d : Int) != last) = true := by simpa using hc.2.2
                have HM2 := Lib.hid (show mixN p.ty l 0 (-1) = (cnt + 1) + mixN p.ty (l.drop (j + 1)) (j + 1) (d : Int) by rw [HM.out, if_pos hc]; omega)
                clear hc
                go_wp2
                go_roundg gg
                case rel => exact ⟨j + 1, cnt + 1, (d : Int), by have := HG.out; omega, by go_num, by go_num, rfl, by have := HCJ.out; omega, HM2.out, rfl⟩
                case measure => omega
              · have HM2 := Lib.hid (show mixN p.ty l 0 (-1) = cnt + mixN p.ty (l.drop (j + 1)) (j + 1) last by rw [HM.out, if_neg hc])
                by_cases hx1 : x = -1
                · have t1 : (x != -1) = false := by simp [hx1]
                  clear hc hx1
                  go_wp2
                  go_roundg gg
                  case rel => exact ⟨j + 1, cnt, last, by have := HG.out; omega, by go_num, rfl, rfl, by have := HCJ.out; omega, HM2.out, rfl⟩
                  case measure => omega
                · have t1 : (x != -1) = true := by simpa using hx1
                  by_cases hxy : x = y
                  · have t2 : (x != y) = false := by simp [hxy]
                    clear hc hx1 hxy
                    go_wp2
                    go_roundg gg
                    case rel => exact ⟨j + 1, cnt, last, by have := HG.out; omega, by go_num, rfl, rfl, by have := HCJ.out; omega, HM2.out, rfl⟩
                    case measure => omega
                  · have t2 : (x != y) = true := by simpa using hxy
                    have t3 : ((d : Int) != last) = false := by
                      by_cases h : (d : Int) = last
                      · simp [h]
                      · exact absurd ⟨hx1, hxy, h⟩ hc
                    clear hc hx1 hxy
                    go_wp2
                    go_roundg gg
                    case rel => exact ⟨j + 1, cnt, last, by have := HG.out; omega, by go_num, rfl, rfl, by have := HCJ.out; omega, HM2.out, rfl⟩
                    case measure => omega
        | succ gg =>
          have hin : i < n := by omega
          obtain ⟨x, hx⟩ := get_some HN.out hin
          obtain ⟨b, off, rfl, cx⟩ := HI2.at hx
          have HA := Lib.hid (show l.any mixQ = (mixQ x || (l.drop (i + 1)).any mixQ) by rw [hA, any_step hx])
          have HG := Lib.hid hg
          clear hg hA hx
          by_cases hx1 : x = -1
          · have t1 : (x != -1) = false := by simp [hx1]
            have HA2 := Lib.hid (show l.any mixQ = (l.drop (i + 1)).any mixQ by rw [HA.out]; unfold mixQ; rw [hx1]; rfl)
            clear hx1
            go_wp2
            go_roundg gg
            case rel => exact ⟨i + 1, by have := HG.out; omega, by go_num, HA2.out, rfl⟩
            case measure => omega
          · have t1 : (x != -1) = true := by simpa using hx1
            go_wp2_with fail
            refine (kind_43 _ _).mono ?_
            rintro e w' ⟨rfl, rfl⟩
            cases hkd : kindB x with
            | false =>
              have HF := Lib.hid (show R = (0, 1) by rw [HR3.out, if_pos]; rw [HA.out]; unfold mixQ; rw [hkd, decide_eq_true hx1]; rfl)
              clear hkd hx1
              go_wp2
              go_ret2
              exact ⟨ret_ii (by rw [HF.out]) (by rw [HF.out]), X2.b⟩
            | true =>
              have HA2 := Lib.hid (show l.any mixQ = (l.drop (i + 1)).any mixQ by rw [HA.out]; unfold mixQ; rw [hkd, Bool.not_true, Bool.and_false, Bool.false_or])
              clear hkd hx1
              go_wp2
              go_roundg gg
              case rel => exact ⟨i + 1, by have := HG.out; omega, by go_num, HA2.out, rfl⟩
              case measure => omega
    · have t0 : ((n : Int) != (nT : Int) * 16) = true := by simp; omega
      have HF := Lib.hid (show R = (0, 3) by rw [HR2.out, if_pos (by rw [HN.out, HNT.out]; exact hln)])
      clear hln
      go_wp2
      go_ret2
      exact ⟨ret_ii (by rw [HF.out]) (by rw [HF.out]), X2.b⟩
  · have HF := Lib.hid (show R = (0, k) by rw [← HR.out]; unfold mixedP; rw [if_pos (by rw [hc]; exact hc0), hc])
    have t0 : (k != 0) = true := by simpa using hc0
    go_wp2
    go_ret2
    exact ⟨ret_ii (by rw [HF.out]) (by rw [HF.out]), X2.b⟩
end Go.Proofs.YtkiiifmofmbniaaDoor
