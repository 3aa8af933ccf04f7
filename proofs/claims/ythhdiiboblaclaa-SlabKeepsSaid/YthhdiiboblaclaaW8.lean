/- Walks: the objects, of both; the need, of the program. -/
import Derived.Test.YthhdiiboblaclaaW7
import Derived.Test.YthhdiiboblaclaaBlk
namespace Go.Proofs.Ythhdiiboblaclaa
open Go.RowKit Go.Over Go.Slb Go.Seg Go.Grow
set_option maxRecDepth 100000 in set_option maxHeartbeats 1600000 in
theorem objects_31 (o : Int) (a : Option Addr) (l : List S) (n c : Nat) (w : World) (H : Slabs w a l) (hn : l.length = n) (hm : n ≤ 1000000) :
    Calls Try.prog 31 #[.agg #[.int .i64 o, .slice a n c]] w fun e w' => ∃ v, e = .returned v ∧ OwnI w' w.heap.size v (if check o l = 0 then objs o true l else []) ∧ Below w.heap.size w w' := by
  have HN := Lib.hid hn
  obtain ⟨w1, hw1⟩ : ∃ w1, w1 = w.alloc (.cells #[.int .i64 o, .slice a n c] 24) := ⟨_, rfl⟩
  obtain ⟨k0, k1⟩ := box_cells w (.int .i64 o) (.slice a n c) 24
  have B1 := below_box w (.cells #[.int .i64 o, .slice a n c] 24)
  rw [← hw1] at k0 k1 B1
  have H1 := H.below B1
  have hz1 : w.heap.size < w1.heap.size := by rw [hw1]; simp
  have HW := Lib.hid hw1; clear hw1
  have K0 := Lib.hid k0; have K1 := Lib.hid k1
  obtain ⟨R, hR⟩ : ∃ R, check o l = R := ⟨_, rfl⟩
  rw [hR]
  by_cases h0 : R = 0
  · subst h0
    rw [if_pos rfl]
    have hsm := Lib.hid (small_ok (check_ok.1 hR))
    have HR := Lib.hid hR; clear hR hn
    go_enter Try.func31, Try.ntmps31
    go_wp2_with fail
    rw [← HW.out]
    clear HW k0 k1
    refine (check_17 o a l n c _ H1 HN.out hm).mono ?_
    rintro e w2 ⟨rfl, hb2⟩
    rw [HR.out]
    have c0 := cell_later hb2 K0.out
    have c1 := cell_later hb2 K1.out
    go_wp2_with fail
    refine (list_42 o a l n c true _ (H1.below hb2) HN.out hsm.out).mono ?_
    rintro e w3 ⟨v, rfl, hO, hb3⟩
    go_wp2
    go_ret
    exact ⟨_, rfl, own_weaken hO (by have := hb2.size; omega), below_then B1 (below_then hb2 hb3)⟩
  · rw [if_neg h0]
    have hne : (R != 0) = true := by simpa using h0
    have HR := Lib.hid hR; clear hR hn h0
    go_enter Try.func31, Try.ntmps31
    go_wp2_with fail
    rw [← HW.out]
    clear HW k0 k1
    refine (check_17 o a l n c _ H1 HN.out hm).mono ?_
    rintro e w2 ⟨rfl, hb2⟩
    rw [HR.out]
    go_wp2
    go_ret
    exact ⟨_, rfl, World.ownsRow_nil _ _ _ _, below_then B1 hb2⟩
set_option maxRecDepth 100000 in set_option maxHeartbeats 1600000 in
theorem objects_30 (o : Int) (a : Option Addr) (l : List S) (n c : Nat) (w : World) (H : Slabs w a l) (hn : l.length = n) (hm : n ≤ 1000000) :
    Calls Try.prog 30 #[.agg #[.int .i64 o, .slice a n c]] w fun e w' => ∃ v, e = .returned v ∧ OwnI w' w.heap.size v (if check o l = 0 then objs o true l else []) ∧ Below w.heap.size w w' := by
  have HN := Lib.hid hn
  obtain ⟨w1, hw1⟩ : ∃ w1, w1 = w.alloc (.cells #[.int .i64 o, .slice a n c] 24) := ⟨_, rfl⟩
  obtain ⟨k0, k1⟩ := box_cells w (.int .i64 o) (.slice a n c) 24
  have B1 := below_box w (.cells #[.int .i64 o, .slice a n c] 24)
  rw [← hw1] at k0 k1 B1
  have H1 := H.below B1
  have hz1 : w.heap.size < w1.heap.size := by rw [hw1]; simp
  have HW := Lib.hid hw1; clear hw1
  have K0 := Lib.hid k0; have K1 := Lib.hid k1
  obtain ⟨E, hE⟩ : ∃ E, check o l = E := ⟨_, rfl⟩
  rw [hE]
  by_cases h0 : E = 0
  · subst h0
    rw [if_pos rfl]
    have hS := small_ok (check_ok.1 hE)
    have HE := Lib.hid hE; clear hE
    obtain ⟨R, hR⟩ : ∃ R, objs o true l = R := ⟨_, rfl⟩
    rw [hR]
    have HR := Lib.hid hR; clear hR
    have hn1000 : n ≤ 1000 := by rw [← hn]; exact hS.n
    clear hn
    go_enter Try.func30, Try.ntmps30
    go_wp2_with fail
    rw [← HW.out]
    clear HW k0 k1
    refine (check_16 o a l n c _ H1 HN.out hm).mono ?_
    rintro e w2 ⟨rfl, hb2⟩
    rw [HE.out]
    have c1 := cell_later hb2 K1.out
    go_wp2
    go_loopg [3, 14] n (fun g v0 i0 wr => ∃ (i m : Nat) (D : List Int) (v : Value), i + g = n ∧ v = v0 ∧ i0 = .int .i64 i ∧ D.length = m ∧ m ≤ i * 40 ∧ R = D ++ objs o true (l.drop i) ∧ OwnI wr w1.heap.size v D ∧ Below w1.heap.size w1 wr)
    case atStart => exact ⟨0, 0, [], _, by omega, rfl, rfl, rfl, by omega, by rw [← HR.out]; rfl, World.ownsRow_nil _ _ _ _, hb2⟩
    case round =>
      clear c1 hb2
      obtain ⟨i, m, D, v, hg, rfl, rfl, hD, hm', hRD, hO, hb⟩ := hrel
      have HD := Lib.hid hD; have HRD := Lib.hid hRD
      clear hD hRD
      cases gk with
      | zero =>
        obtain rfl : i = n := by omega
        have HX := Lib.hid (show D = R by rw [HRD.out, List.drop_eq_nil_of_le (by rw [HN.out]; exact Nat.le_refl _)]; simp [objs])
        clear hg
        go_wp2
        go_ret
        exact ⟨_, rfl, by rw [← HX.out]; exact own_weaken hO (by omega), below_then B1 hb⟩
      | succ g =>
        have hin : i < n := by omega
        obtain ⟨⟨f, u⟩, hs⟩ := get_some HN.out hin
        have hfr := hS.fr _ (List.mem_of_getElem? hs)
        have hul := hS.len _ (List.mem_of_getElem? hs)
        have ho0 := hS.o0
        have ho1 := hS.o1
        have HRD2 := Lib.hid (HRD.out.trans (by rw [objs_drop hs]))
        obtain ⟨b, off, rfl, hc⟩ := H1 (by rw [HN.out]; omega)
        obtain ⟨s0, a', c', s1, hc1, hc2, hc3, hf⟩ := hc i _ hs
        obtain ⟨um, hmm⟩ : ∃ m, u.length = m := ⟨_, rfl⟩
        simp only [hmm] at s0 s1 hc1 hul hfr
        obtain ⟨p, hp⟩ : ∃ p : Int, f * o = p := ⟨_, rfl⟩
        have hpb := mul_small hfr.1 hfr.2 ho0 ho1
        rw [hp] at hpb
        obtain ⟨hp0, hp1⟩ := hpb
        have s0 := cell_later hb s0
        have s1 := cell_later hb s1
        obtain ⟨w2, hw2⟩ : ∃ w2, w2 = wr.alloc (.cells #[.int .i64 f, .slice a' um c'] 52) := ⟨_, rfl⟩
        have hJ := Blk.new wr 52 #[.int .i64 f, .slice a' um c'] [.int .i64 f, .slice a' um c'] rfl
        have hO2 : OwnI (wr.alloc (.cells #[.int .i64 f, .slice a' um c'] 52)) w1.heap.size v D := World.ownsRow.alloc hO _
        have hb2 := below_alloc hb (.cells #[.int .i64 f, .slice a' um c'] 52)
        rw [← hw2] at hJ hO2 hb2
        have j1 := hJ.cell 1
        have HW2 := Lib.hid hw2
        have HM := Lib.hid hmm; have HG := Lib.hid hg; have HP := Lib.hid hp
        clear hmm hg hs hc hp hw2 hO
        go_wp2
        rw [← HW2.out]
        clear s0 s1 HW2
        go_loopg [3, 21] um (fun g2 v0 i0 wi => ∃ (j m2 : Nat) (D2 : List Int) (v : Value), j + g2 = um ∧ v = v0 ∧ i0 = .int .i64 j ∧ D2.length = m2 ∧ m2 ≤ j ∧ offs f o true 0 u = D2 ++ offs f o true j (u.drop j) ∧ OwnI wi w1.heap.size v (D ++ D2) ∧ Below w1.heap.size w1 wi ∧ Blk wi wr.heap.size 52 [.int .i64 f, .slice a' um c'])
        case atStart => exact ⟨0, 0, [], _, by omega, rfl, rfl, rfl, by omega, rfl, by rw [List.append_nil]; exact hO2, hb2, hJ⟩
        case round =>
          clear hO2 hb2 hJ j1 hb
          obtain ⟨j, m2, D2, v, hj, rfl, rfl, hD2, hm2, hcu, hO, hb, hJ⟩ := hrel
          cases gk with
          | zero =>
            obtain rfl : j = um := by omega
            have HC := Lib.hid (show offs f o true 0 u = D2 by rw [hcu, List.drop_eq_nil_of_le (by rw [HM.out]; exact Nat.le_refl _)]; simp [offs])
            have HD2 := Lib.hid hD2
            clear hj hcu hD2
            go_wp2
            go_roundg g
            case rel => exact ⟨i + 1, m + m2, D ++ D2, _, by have := HG.out; omega, rfl, by go_num, by rw [List.length_append, HD.out, HD2.out], by omega, by rw [HRD2.out]; simp only [HC.out, List.append_assoc], hO, hb⟩
            case measure => omega
          | succ g2 =>
            have hjm : j < um := by omega
            have c0 := cell_later hb K0.out
            have j0 := hJ.cell 0
            obtain ⟨b2, off2, rfl, hfc⟩ := (hf.below hb) (by rw [HM.out]; omega)
            have c2 := hfc j (by rw [HM.out]; exact hjm)
            rw [offs_drop HM.out hjm] at hcu
            obtain ⟨x, hx⟩ : ∃ x, u.getD j false = x := ⟨_, rfl⟩
            rw [hx] at c2 hcu
            have HC := Lib.hid hcu; have HJ := Lib.hid hj; have HD2 := Lib.hid hD2
            clear hcu hj hfc hx hD2
            cases x
            · go_wp2
              go_roundg g2
              case rel => exact ⟨j + 1, m2, D2, _, by have := HJ.out; omega, rfl, by go_num, HD2.out, by omega, by have := HC.out; rw [if_neg (by decide)] at this; simpa using this, hO, hb, hJ⟩
              case measure => omega
            · have hp := HP.out
              go_wp2_with (at_builtin; refine wpList_append_k K31 rfl (.tmp 27) (.tmp 35) rfl _ _ _ rfl (World.ownsRow.alloc hO _) _ 1 1 _ rfl (src_new wr #[.int .i64 (p + j)] 3 1 1 1 rfl (by simp [Value.oneCell'])) ?c1 ?c2 ?_)
              case c1 => first | (rw [List.length_append, HD.out, HD2.out]; omega) | (rw [HD.out, HD2.out]; omega)
              case c2 => have := hb.size; simp; omega
              intro v3 w3 hown hgrow _
              have hb3 : Below w1.heap.size w1 w3 := (below_alloc hb _).grown hgrow (by have := hb.size; simp; omega) (fun q hq => (World.ownsRow.lt hO q hq).1)
              have hJ3 := (hJ.alloc (.cells #[.int .i64 (p + j)] 3)).grown hgrow (hJ.not_own hO (by decide))
              have hO3 : OwnI w3 w1.heap.size v3 (D ++ (D2 ++ [p + (j : Int)])) := by
                unfold OwnI
                simpa [Nat.add_assoc] using hown
              clear hown hgrow hO hb hJ hp c0 j0 c2
              go_wp2
              go_roundg g2
              case rel => exact ⟨j + 1, m2 + 1, D2 ++ [p + (j : Int)], _, by have := HJ.out; omega, rfl, by go_num, by rw [List.length_append, HD2.out]; rfl, by omega, by have := HC.out; simp only [if_true] at this; rw [this, HP.out]; simp, hO3, hb3, hJ3⟩
              case measure => omega
  · rw [if_neg h0]
    have hne : (E != 0) = true := by simpa using h0
    have HR := Lib.hid hE; clear hE hn h0
    go_enter Try.func30, Try.ntmps30
    go_wp2_with fail
    rw [← HW.out]
    clear HW k0 k1
    refine (check_16 o a l n c _ H1 HN.out hm).mono ?_
    rintro e w2 ⟨rfl, hb2⟩
    rw [HR.out]
    go_wp2
    go_ret
    exact ⟨_, rfl, World.ownsRow_nil _ _ _ _, below_then B1 hb2⟩
end Go.Proofs.Ythhdiiboblaclaa
