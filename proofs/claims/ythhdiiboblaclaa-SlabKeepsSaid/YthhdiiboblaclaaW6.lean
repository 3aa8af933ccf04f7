/- Walks: the numbers of objects as lists, of the reference. -/
import Derived.Test.YthhdiiboblaclaaW5
import Derived.Test.YthhdiiboblaclaaGrow
namespace Go.Proofs.Ythhdiiboblaclaa
open Go.RowKit Go.Over Go.Slb Go.Seg Go.Grow
theorem K31 : Kind Try.prog 31 3 1 8 := Kind.mk' (z := .int .i64 0) Try.underlying31 (by kernel_rfl) rfl (by decide) (by decide)
theorem K50 : Kind Try.prog 50 4 1 1 := Kind.mk' (z := .bool false) Try.underlying50 (by kernel_rfl) rfl (by decide) (by decide)
theorem K22 : Kind Try.prog 22 52 2 32 := Kind.mk' (z := .agg #[.int .i64 0, .slice none 0 0]) Try.underlying22 (by kernel_rfl) rfl (by decide) (by decide)
/-- Numbers that lie at a. -/
def Ints (w : World) (a : Option Addr) (l : List Int) : Prop :=
  0 < l.length → ∃ b off, a = some ⟨b, off, none⟩ ∧ ∀ i, i < l.length → w.cell? ⟨b, off + i, none⟩ = some (.int .i64 (l.getD i 0))
theorem Ints.below {w w' : World} {a : Option Addr} {l : List Int} (h : Ints w a l) (hb : Below w.heap.size w w') : Ints w' a l := fun h0 => by
  obtain ⟨b, off, ha, hc⟩ := h h0
  exact ⟨b, off, ha, fun i hi => cell_later hb (hc i hi)⟩
/-- Numbers in a row of the call's own. -/
def OwnI (w : World) (base : Nat) (v : Value) (l : List Int) : Prop := w.ownsRow base 3 1 v l.length (l.map (Value.int .i64))
theorem OwnI.ints {w : World} {base n : Nat} {v : Value} {l : List Int} (h : OwnI w base v l) (hn : l.length = n) : ∃ a c, v = .slice a n c ∧ n ≤ c ∧ c ≤ maxLen ∧ (a = none → c = 0) ∧ Ints w a l := by
  subst hn
  obtain ⟨a, c, rfl, h1, h2, h3⟩ := own_form h
  refine ⟨a, c, rfl, h1, h2, h3, fun h0 => ?_⟩
  obtain ⟨g, c', hv, _, _⟩ := own_pos h h0
  cases hv
  refine ⟨g, 0, rfl, fun i hi => ?_⟩
  have := World.ownsRow.cells h (g := g) rfl i (.int .i64 (l.getD i 0)) (by rw [List.getElem?_map, List.getElem?_eq_getElem hi, List.getD_eq_getElem?_getD, List.getElem?_eq_getElem hi]; rfl)
  rw [show (⟨g, 0, none⟩ : Addr).add i = ⟨g, 0 + i, none⟩ by unfold Addr.add; split <;> simp_all] at this
  exact this
theorem offs_drop {f o : Int} {b : Bool} {u : List Bool} {j m : Nat} (hm : u.length = m) (h : j < m) : offs f o b j (u.drop j) = (if u.getD j false = b then [f * o + j] else []) ++ offs f o b (j + 1) (u.drop (j + 1)) := by
  rw [flag_drop hm h]
  simp only [offs]
  split <;> simp
theorem objs_drop {o : Int} {b : Bool} {l : List S} {i : Nat} {s : S} (h : l[i]? = some s) : objs o b (l.drop i) = offs s.1 o b 0 s.2 ++ objs o b (l.drop (i + 1)) := by rw [drop_get h]; rfl
/-- What holds of a cache whose objects are listed. -/
structure Small (o : Int) (l : List S) : Prop where
  o0 : 0 ≤ o
  o1 : o ≤ 32
  n : l.length ≤ 1000
  fr : ∀ s ∈ l, 0 ≤ s.1 ∧ s.1 < 256
  len : ∀ s ∈ l, s.2.length ≤ 40
theorem small_ok {o : Int} {l : List S} (h : Ok o l) : Small o l :=
  ⟨by have := h.o1; omega, h.o2, by have := ok_count h; omega, h.fr, fun s hs => by have := h.len s hs; have := h.o2; omega⟩
theorem mul_small {f o : Int} (h1 : 0 ≤ f) (h2 : f < 256) (h3 : 0 ≤ o) (h4 : o ≤ 32) : 0 ≤ f * o ∧ f * o ≤ 8192 := by
  refine ⟨Int.mul_nonneg h1 h3, ?_⟩
  have a1 := Int.mul_le_mul_of_nonneg_right (show f ≤ 256 by omega) h3
  omega
set_option maxRecDepth 100000 in set_option maxHeartbeats 1600000 in
theorem list_42 (o : Int) (a : Option Addr) (l : List S) (n c : Nat) (bb : Bool) (w : World) (H : Slabs w a l) (hn : l.length = n) (hS : Small o l) :
    Calls Try.prog 42 #[.agg #[.int .i64 o, .slice a n c], .bool bb] w fun e w' => ∃ v, e = .returned v ∧ OwnI w' w.heap.size v (objs o bb l) ∧ Below w.heap.size w w' := by
  have HN := Lib.hid hn
  have hn1000 : n ≤ 1000 := by rw [← hn]; exact hS.n
  clear hn
  obtain ⟨w1, hw1⟩ : ∃ w1, w1 = w.alloc (.cells #[.int .i64 o, .slice a n c] 24) := ⟨_, rfl⟩
  obtain ⟨k0, k1⟩ := box_cells w (.int .i64 o) (.slice a n c) 24
  have B1 := below_box w (.cells #[.int .i64 o, .slice a n c] 24)
  rw [← hw1] at k0 k1 B1
  have H1 := H.below B1
  have hz1 : w.heap.size < w1.heap.size := by rw [hw1]; simp
  have HW := Lib.hid hw1; clear hw1
  have K0 := Lib.hid k0; have K1 := Lib.hid k1
  obtain ⟨R, hR⟩ : ∃ R, objs o bb l = R := ⟨_, rfl⟩
  rw [hR]
  have HR := Lib.hid hR; clear hR
  go_enter Try.func42, Try.ntmps42
  go_wp2
  rw [← HW.out]
  clear HW k0 k1
  go_loopg [5, 6] n (fun g v0 i0 wr => ∃ (i m : Nat) (D : List Int) (v : Value), i + g = n ∧ v = v0 ∧ i0 = .int .i64 i ∧ D.length = m ∧ m ≤ i * 40 ∧ R = D ++ objs o bb (l.drop i) ∧ OwnI wr w1.heap.size v D ∧ Below w1.heap.size w1 wr)
  case atStart => exact ⟨0, 0, [], _, by omega, rfl, rfl, rfl, by omega, by rw [← HR.out]; rfl, World.ownsRow_nil _ _ _ _, Below.refl _ _⟩
  case round =>
    obtain ⟨i, m, D, v, hg, rfl, rfl, hD, hm, hRD, hO, hb⟩ := hrel
    have c0 := cell_later hb K0.out
    have c1 := cell_later hb K1.out
    have HD := Lib.hid hD; have HRD := Lib.hid hRD
    clear hD hRD
    cases gk with
    | zero =>
      obtain rfl : i = n := by omega
      have HE := Lib.hid (show D = R by rw [HRD.out, List.drop_eq_nil_of_le (by rw [HN.out]; exact Nat.le_refl _)]; simp [objs])
      clear hg
      go_wp2
      go_ret
      exact ⟨_, rfl, by rw [← HE.out]; exact own_weaken hO (by omega), below_then B1 hb⟩
    | succ g =>
      have hin : i < n := by omega
      obtain ⟨⟨f, u⟩, hs⟩ := get_some HN.out hin
      have hfr := hS.fr _ (List.mem_of_getElem? hs)
      have hul := hS.len _ (List.mem_of_getElem? hs)
      have ho0 := hS.o0
      have ho1 := hS.o1
      have HRD2 := Lib.hid (HRD.out.trans (by rw [objs_drop hs]))
      obtain ⟨b, off, rfl, hc⟩ := H1 (by rw [HN.out]; omega)
      obtain ⟨s0, a', c', s1, hc1, hc2, hc3, hf⟩ := hc i _ hs
      obtain ⟨um, hm'⟩ : ∃ m, u.length = m := ⟨_, rfl⟩
      simp only [hm'] at s0 s1 hc1 hul hfr
      obtain ⟨p, hp⟩ : ∃ p : Int, f * o = p := ⟨_, rfl⟩
      have hpb := mul_small hfr.1 hfr.2 ho0 ho1
      rw [hp] at hpb
      obtain ⟨hp0, hp1⟩ := hpb
      have S0 := Lib.hid s0; have S1 := Lib.hid s1
      have HM := Lib.hid hm'; have HG := Lib.hid hg; have HP := Lib.hid hp
      clear hm' hg hs hc hp s0 s1
      go_wp2
      go_loopg [5, 7] um (fun g2 v0 i0 wi => ∃ (j m2 : Nat) (D2 : List Int) (v : Value), j + g2 = um ∧ v = v0 ∧ i0 = .int .i64 j ∧ D2.length = m2 ∧ m2 ≤ j ∧ offs f o bb 0 u = D2 ++ offs f o bb j (u.drop j) ∧ OwnI wi w1.heap.size v (D ++ D2) ∧ Below w1.heap.size w1 wi)
      case atStart => exact ⟨0, 0, [], _, by omega, rfl, rfl, rfl, by omega, rfl, by rw [List.append_nil]; exact hO, hb⟩
      case round =>
        clear hO hb c0 c1
        obtain ⟨j, m2, D2, v, hj, rfl, rfl, hD2, hm2, hcu, hO, hb⟩ := hrel
        have c0 := cell_later hb K0.out
        have c1 := cell_later hb K1.out
        have s0 := cell_later hb S0.out
        have s1 := cell_later hb S1.out
        cases gk with
        | zero =>
          obtain rfl : j = um := by omega
          have HC := Lib.hid (show offs f o bb 0 u = D2 by rw [hcu, List.drop_eq_nil_of_le (by rw [HM.out]; exact Nat.le_refl _)]; simp [offs])
          have HD2 := Lib.hid hD2
          clear hj hcu hD2
          go_wp2
          go_roundg g
          case rel => exact ⟨i + 1, m + m2, D ++ D2, _, by have := HG.out; omega, rfl, by go_num, by rw [List.length_append, HD.out, HD2.out], by omega, by rw [HRD2.out]; simp only [HC.out, List.append_assoc], hO, hb⟩
          case measure => omega
        | succ g2 =>
          have hjm : j < um := by omega
          obtain ⟨b2, off2, rfl, hfc⟩ := (hf.below hb) (by rw [HM.out]; omega)
          have c2 := hfc j (by rw [HM.out]; exact hjm)
          rw [offs_drop HM.out hjm] at hcu
          obtain ⟨x, hx⟩ : ∃ x, u.getD j false = x := ⟨_, rfl⟩
          rw [hx] at c2 hcu
          have HC := Lib.hid hcu; have HJ := Lib.hid hj; have HD2 := Lib.hid hD2
          clear hcu hj hfc hx hD2
          by_cases hxb : x = bb
          · subst hxb
            have t1 : (x == x) = true := by simp
            go_wp2
            refine wp_region_segs (fun W => Below w1.heap.size w1 W) [(true, 12), (false, 1), (false, 1), (true, 1)] (by kernel_rfl) (by kernel_rfl) hb.drew ?_
            intro W hW hWe
            have hOW : OwnI W w1.heap.size v (D ++ D2) := by rw [hWe]; exact hO
            clear hWe c0 c1 c2 s0 s1 t1 hO hb
            simp only [wpSegs, List.take_succ_cons, List.take_zero, List.drop_succ_cons, List.drop_zero]
            have q0 := fun x => cell_later (hold_ok (S0 := fun W => Below w1.heap.size w1 W) hW x) K0.out
            have q1 := fun x => cell_later (hold_ok (S0 := fun W => Below w1.heap.size w1 W) hW x) K1.out
            have q2 := fun x => cell_later (hold_ok (S0 := fun W => Below w1.heap.size w1 W) hW x) S0.out
            have hp := HP.out
            have e1 : IntKind.i64.wrap p = p := IntWalk.i64_in _ (by omega)
            have e2 : IntKind.i64.wrap (p + (j : Int)) = p + (j : Int) := IntWalk.i64_in _ (by omega)
            repeat (go_big_quiet_step (fail))
            refine wpQuiet_nil ?_
            clear q0 q1 q2 hp e1 e2
            go_wp2
            refine ⟨hold_of (below_alloc hW _), ?_⟩
            refine wpList_append_k K31 rfl (.tmp 37) (.tmp 49) rfl _ _ _ rfl (hOW.alloc _) _ 1 1 _ rfl (src_new W #[.int .i64 (p + j)] 3 1 1 1 rfl (by simp [Value.oneCell'])) ?c1 ?c2 ?_
            case c1 => rw [List.length_append, HD.out, HD2.out]; omega
            case c2 => have := hW.size; simp; omega
            intro v3 w3 hown hgrow _
            have hb3 : Below w1.heap.size w1 w3 := (below_alloc hW _).grown hgrow (by have := hW.size; simp; omega) (fun q hq => (hOW.lt q hq).1)
            have hO3 : OwnI w3 w1.heap.size v3 (D ++ (D2 ++ [p + (j : Int)])) := by
              unfold OwnI
              rw [← List.append_assoc, List.map_append, List.length_append]
              exact hown
            clear hown hgrow hOW hW
            refine wpList_nil ⟨hold_of hb3, ?_⟩
            simp only [Act.put, List.setIfInBounds_toArray, List.set_cons_succ, List.set_cons_zero]
            repeat (go_big_quiet_step (fail))
            refine wpQuiet_nil ?_
            refine NoPanic.normal ?_
            have t1 : (x == x) = true := by simp
            go_wp2
            go_roundg g2
            case rel => exact ⟨j + 1, m2 + 1, D2 ++ [p + (j : Int)], _, by have := HJ.out; omega, rfl, by go_num, by rw [List.length_append, HD2.out]; rfl, by omega, by have := HC.out; simp only [if_true] at this; rw [this, HP.out]; simp, hO3, hb3⟩
            case measure => omega
          · have t1 : (x == bb) = false := by simpa using hxb
            go_wp2
            go_roundg g2
            case rel => exact ⟨j + 1, m2, D2, _, by have := HJ.out; omega, rfl, by go_num, HD2.out, by omega, by have := HC.out; rw [if_neg hxb] at this; simpa using this, hO, hb⟩
            case measure => omega
end Go.Proofs.Ythhdiiboblaclaa
