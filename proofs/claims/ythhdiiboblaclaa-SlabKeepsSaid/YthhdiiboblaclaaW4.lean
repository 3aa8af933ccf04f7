/- Walks: the numbers of used and free objects, of both. -/
import Derived.Test.YthhdiiboblaclaaW3
namespace Go.Proofs.Ythhdiiboblaclaa
open Go.RowKit Go.Over Go.Slb Go.Seg
theorem asc_count : ∀ {l : List S} {p : Int}, Asc p l → (∀ s ∈ l, s.1 < 256) → p < 256 → (l.length : Int) ≤ 255 - p
  | [], _, _, _, h => by simp; omega
  | s :: r, p, ha, hf, _ => by
    have h1 := hf s (by simp)
    have := asc_count ha.2 (fun t ht => hf t (by simp [ht])) h1
    have := ha.1
    simp only [List.length_cons, Int.natCast_add, Int.natCast_one]; omega
theorem ok_count {o : Int} {l : List S} (h : Ok o l) : l.length ≤ 256 := by
  have := asc_count h.asc (fun s hs => (h.fr s hs).2) (by omega)
  omega
theorem used_drop {l : List S} {i : Nat} {s : S} (h : l[i]? = some s) : used (l.drop i) = cnt s.2 + used (l.drop (i + 1)) := by rw [drop_get h]; rfl
theorem cnt_drop {u : List Bool} {i n : Nat} (hn : u.length = n) (h : i < n) : cnt (u.drop i) = (if u.getD i false = true then 1 else 0) + cnt (u.drop (i + 1)) := by
  rw [flag_drop hn h]
  unfold cnt
  cases u.getD i false <;> simp <;> omega
/-- Frames, used and free objects of a cache (all 0 if it is not valid). -/
def acc (o : Int) (l : List S) : Value := if check o l = 0 then .tuple #[.int .i64 l.length, .int .i64 (used l), .int .i64 (free o l)] else .tuple #[.int .i64 0, .int .i64 0, .int .i64 0]
theorem acc_ok {o : Int} {l : List S} {n : Nat} (h : check o l = 0) (hn : l.length = n) : acc o l = .tuple #[.int .i64 n, .int .i64 (used l), .int .i64 (n * o - used l)] := by
  unfold acc; rw [if_pos h]; unfold free; rw [hn]
theorem acc_no {o : Int} {l : List S} (h : ¬ check o l = 0) : acc o l = .tuple #[.int .i64 0, .int .i64 0, .int .i64 0] := by
  unfold acc; rw [if_neg h]
set_option maxRecDepth 100000 in set_option maxHeartbeats 1600000 in
theorem account_27 (o : Int) (a : Option Addr) (l : List S) (n c : Nat) (w : World) (H : Slabs w a l) (hn : l.length = n) (hm : n ≤ 1000000) :
    Calls Try.prog 27 #[.agg #[.int .i64 o, .slice a n c]] w fun e w' => e = .returned (acc o l) ∧ Below w.heap.size w w' := by
  have HN := Lib.hid hn
  obtain ⟨w1, hw1⟩ : ∃ w1, w1 = w.alloc (.cells #[.int .i64 o, .slice a n c] 24) := ⟨_, rfl⟩
  obtain ⟨k0, k1⟩ := box_cells w (.int .i64 o) (.slice a n c) 24
  have B1 := below_box w (.cells #[.int .i64 o, .slice a n c] 24)
  rw [← hw1] at k0 k1 B1
  have H1 := H.below B1
  have hz1 : w.heap.size < w1.heap.size := by rw [hw1]; simp
  have HW := Lib.hid hw1; clear hw1
  have K0 := Lib.hid k0; have K1 := Lib.hid k1; have hn' := hn
  clear hn
  obtain ⟨V, hV⟩ : ∃ V, acc o l = V := ⟨_, rfl⟩
  rw [hV]
  obtain ⟨R, hR⟩ : ∃ R, check o l = R := ⟨_, rfl⟩
  by_cases h0 : R = 0
  · have hok := check_ok.1 (hR.trans h0)
    have hcount := ok_count hok
    rw [hn'] at hcount
    have ho1 := hok.o1
    have ho2 := hok.o2
    have hule := used_le hok.len
    rw [hn'] at hule
    rw [acc_ok (hR.trans h0) hn'] at hV
    have HL := Lib.hid hok.len
    subst h0
    have HR := Lib.hid hR; have HV := Lib.hid hV
    obtain ⟨p, hp⟩ : ∃ p : Int, (n : Int) * o = p := ⟨_, rfl⟩
    have hp1 : 0 ≤ p := by rw [← hp]; exact Int.mul_nonneg (by omega) (by omega)
    have hp2 : p ≤ 8192 := by
      rw [← hp]
      have h1 := Int.mul_le_mul_of_nonneg_right (show (n : Int) ≤ 256 by omega) (show (0 : Int) ≤ o by omega)
      omega
    rw [hp] at hule
    have HP := Lib.hid hp
    clear hR hV hn' hok hp
    go_enter Try.func27, Try.ntmps27
    go_wp2_with fail
    rw [← HW.out]
    clear k0 k1
    refine (check_16 o a l n c _ H1 HN.out hm).mono ?_
    rintro e w2 ⟨rfl, hb2⟩
    rw [HR.out]
    have k1 := cell_later hb2 K1.out
    clear HW
    go_wp2
    go_loopg [3, 15] n (fun g k0 i0 wr => ∃ (i k : Nat), i + g = n ∧ k0 = .int .i64 k ∧ i0 = .int .i64 i ∧ k ≤ i * 32 ∧ used l = k + used (l.drop i) ∧ Below w1.heap.size w1 wr)
    case atStart => exact ⟨0, 0, by omega, rfl, rfl, by omega, by simp, hb2⟩
    case round =>
      clear k1 hb2
      obtain ⟨i, k, hg, rfl, rfl, hki, hF, hb⟩ := hrel
      have c0 := cell_later hb K0.out
      have c1 := cell_later hb K1.out
      cases gk with
      | zero =>
        obtain rfl : i = n := by omega
        have hk : used l = k := by
          rw [hF, List.drop_eq_nil_of_le (by rw [HN.out]; exact Nat.le_refl _)]; rfl
        rw [hk] at hule
        have HK := Lib.hid hk
        have hp := HP.out
        have e1 : IntKind.i64.wrap (p - (k : Int)) = p - (k : Int) := IntWalk.i64_in _ (by omega)
        have e2 : IntKind.i64.wrap p = p := IntWalk.i64_in _ (by omega)
        clear hg hF hk
        go_wp2
        go_quiet (fail)
        go_wp2
        go_ret3
        exact ⟨by rw [← HV.out, HK.out, HP.out]; rfl, below_drewN (below_then B1 hb) _⟩
      | succ g =>
        have hin : i < n := by omega
        obtain ⟨⟨f, u⟩, hs⟩ := get_some HN.out hin
        have hum := HL.out _ (List.mem_of_getElem? hs)
        rw [used_drop hs] at hF
        obtain ⟨b, off, rfl, hc⟩ := (H1.below hb) (by rw [HN.out]; omega)
        obtain ⟨s0, a', c', s1, hc1, hc2, hc3, hf⟩ := hc i _ hs
        obtain ⟨m, hm'⟩ : ∃ m, u.length = m := ⟨_, rfl⟩
        simp only [hm'] at s0 s1 hc1 hum
        have hm32 : m ≤ 32 := by omega
        have HM := Lib.hid hm'; have HG := Lib.hid hg; have HF := Lib.hid hF
        have hi256 : i < 256 := by omega
        clear hm' hg hs hc hF hum
        go_wp2
        go_loopg [3, 22] m (fun g2 k0 i0 wi => ∃ (j kk : Nat), j + g2 = m ∧ k0 = .int .i64 ((k + kk : Nat) : Int) ∧ i0 = .int .i64 j ∧ kk ≤ j ∧ cnt u = kk + cnt (u.drop j) ∧ Below wr.heap.size wr wi)
        case atStart => exact ⟨0, 0, by omega, rfl, rfl, by omega, by simp, below_box _ _⟩
        case round =>
          obtain ⟨j, kk, hj, rfl, rfl, hkj, hcu, hbi⟩ := hrel
          cases gk with
          | zero =>
            obtain rfl : j = m := by omega
            have HC := Lib.hid (show cnt u = kk by rw [hcu, List.drop_eq_nil_of_le (by rw [HM.out]; exact Nat.le_refl _)]; rfl)
            clear hj hcu
            go_wp2
            go_roundg g
            case rel => exact ⟨i + 1, k + kk, by have := HG.out; omega, rfl, by go_num, by omega, by have := HF.out; have := HC.out; omega, below_then hb hbi⟩
            case measure => omega
          | succ g2 =>
            have hjm : j < m := by omega
            obtain ⟨b2, off2, rfl, hfc⟩ := (hf.below hbi) (by rw [HM.out]; omega)
            have c2 := hfc j (by rw [HM.out]; exact hjm)
            rw [cnt_drop HM.out hjm] at hcu
            obtain ⟨x, hx⟩ : ∃ x, u.getD j false = x := ⟨_, rfl⟩
            rw [hx] at c2 hcu
            have HC := Lib.hid hcu; have HJ := Lib.hid hj
            clear hcu hj hfc hx
            cases x
            · go_wp2
              go_roundg g2
              case rel => exact ⟨j + 1, kk, by have := HJ.out; omega, rfl, by go_num, by omega, by have := HC.out; simpa using this, hbi⟩
              case measure => omega
            · go_wp2
              go_roundg g2
              case rel => exact ⟨j + 1, kk + 1, by have := HJ.out; omega, by go_num, by go_num, by omega, by have := HC.out; simp at this; omega, hbi⟩
              case measure => omega
  · rw [acc_no (by rw [hR]; exact h0)] at hV
    have hne : (R != 0) = true := by simpa using h0
    have HR := Lib.hid hR; have HV := Lib.hid hV
    clear hR hV hn' h0
    go_enter Try.func27, Try.ntmps27
    go_wp2_with fail
    rw [← HW.out]
    clear k0 k1
    refine (check_16 o a l n c _ H1 HN.out hm).mono ?_
    rintro e w2 ⟨rfl, hb2⟩
    rw [HR.out]
    clear HW
    go_wp2
    go_ret3
    exact ⟨by rw [← HV.out]; rfl, below_then B1 hb2⟩
end Go.Proofs.Ythhdiiboblaclaa
