/- Walks: the contents of blocks, of the program and of the reference. -/
import Derived.Test.YtlhbjmoncdljoaaD8
import Derived.Test.YtlhbjmoncdljoaaP2
namespace Go.Proofs.Ytlhbjmoncdljoaa
open Go.RowKit Go.Over Go.Dev Go.Seg Go.Grow
theorem box_cells (w : World) (x y : Value) (t : TypeId) : (w.alloc (.cells #[x, y] t)).cell? ⟨w.heap.size, 0, none⟩ = some x ∧ (w.alloc (.cells #[x, y] t)).cell? ⟨w.heap.size, 1, none⟩ = some y := by
  constructor <;> simp [go_sem]

set_option maxRecDepth 100000 in set_option maxHeartbeats 3200000 in
theorem cmp_54 (x f : Int) (V : Value) (w : World) (h1 : -9223372036854775808 ≤ x - f) (h2 : x - f ≤ 9223372036854775807) :
    Calls Try.prog 54 #[.agg #[.int .i64 x, V], .int .i64 f] w fun e w' => e = .returned (.int .i64 (x - f)) ∧ Below w.heap.size w w' := by
  have B1 := below_box w (.cells #[.int .i64 x, V] 64)
  obtain ⟨k0, k1⟩ := box_cells w (.int .i64 x) V 64
  go_enter Try.func54, Try.ntmps54
  go_wp2
  go_ret
  exact ⟨by go_num, B1⟩
set_option maxRecDepth 100000 in set_option maxHeartbeats 3200000 in
theorem search_53 (a : Option Addr) (l : List Ca) (n c : Nat) (f : Int) (w : World) (H : Cas w a l) (hn : l.length = n) (hm : n ≤ 1000000) (ha : AscC (-1) l) (hl : ∀ s ∈ l, s.1 < 256) (hf0 : 0 ≤ f) (hf1 : f ≤ 9223372036854775807) :
    Calls Try.prog 53 #[.slice a n c, .int .i64 f, .func (.func 54) #[] #[]] w fun e w' => e = .returned (.tuple #[.int .i64 (posC f l), .bool (hasC f l)]) ∧ Below w.heap.size w w' := by
  have HN := Lib.hid hn
  have HL := Lib.hid (show ∀ s ∈ l, 0 ≤ s.1 ∧ s.1 < 256 from fun s hs => ⟨by have := ascC_lt ha s hs; omega, hl s hs⟩)
  have HA := Lib.hid ha
  clear hn hl ha
  go_enter Try.func53, Try.ntmps53
  go_wp2
  go_loopg [9, 10] n (fun g i0 j0 wr => ∃ (i j : Nat), i ≤ j ∧ j ≤ n ∧ j ≤ i + g ∧ i0 = .int .i64 i ∧ j0 = .int .i64 j ∧ (∀ k s, k < i → l[k]? = some s → s.1 < f) ∧ (∀ k s, j ≤ k → l[k]? = some s → f ≤ s.1) ∧ Below w.heap.size w wr)
  case atStart => exact ⟨0, n, by omega, by omega, by omega, rfl, rfl, fun k s hk => absurd hk (by omega), fun k s hk hs => by
    have h2 : k < l.length := by rw [List.getElem?_eq_some_iff] at hs; exact hs.1
    have := HN.out
    omega, Below.refl _ _⟩
  case round =>
    obtain ⟨i, j, hij, hjn, hg, rfl, rfl, h1, h2, hb⟩ := hrel
    by_cases hlt : i < j
    · obtain ⟨m, hmid⟩ : ∃ m, (i + j) / 2 = m := ⟨_, rfl⟩
      have hm1 : i ≤ m := by omega
      have hm2 : m < j := by omega
      obtain ⟨⟨x, u⟩, hs⟩ := get_some HN.out (show m < n by omega)
      have hx := HL.out _ (List.mem_of_getElem? hs)
      obtain ⟨b, off, rfl, hc⟩ := (H.below hb) (by rw [HN.out]; omega)
      obtain ⟨s0, a', c', s1, _⟩ := hc m _ hs
      have HS := Lib.hid hs; have HM := Lib.hid hmid
      have H1 := Lib.hid h1; have H2 := Lib.hid h2; have HG := Lib.hid hg
      clear hc hs h1 h2 hg
      by_cases hxf : x < f
      · have t1 : x - f < 0 := by omega
        have hb' := hb
        go_wp2_with (go_at_call 54; refine (cmp_54 x f (.slice a' u.length c') wr (by omega) (by omega)).mono ?_; rintro e w2 ⟨rfl, hb2⟩)
        obtain ⟨g, rfl⟩ : ∃ g, gk = g + 1 := ⟨gk - 1, by have := HG.out; omega⟩
        go_roundg g
        case rel =>
          refine ⟨m + 1, j, by omega, by omega, by have := HG.out; omega, by go_num, rfl, fun k s hk hs => ?_, H2.out, below_then hb (by assumption)⟩
          rcases Nat.lt_or_ge k m with h | h
          · have := ascC_get HA.out hs HS.out h
            simp at this; omega
          · obtain rfl : k = m := by omega
            rw [HS.out] at hs; cases hs; exact hxf
        case measure => omega
      · have t1 : ¬ x - f < 0 := by omega
        have hb' := hb
        go_wp2_with (go_at_call 54; refine (cmp_54 x f (.slice a' u.length c') wr (by omega) (by omega)).mono ?_; rintro e w2 ⟨rfl, hb2⟩)
        obtain ⟨g, rfl⟩ : ∃ g, gk = g + 1 := ⟨gk - 1, by have := HG.out; omega⟩
        go_roundg g
        case rel =>
          refine ⟨i, m, by omega, by omega, by have := HG.out; omega, rfl, by go_num, H1.out, fun k s hk hs => ?_, below_then hb (by assumption)⟩
          rcases Nat.lt_or_ge m k with h | h
          · have := ascC_get HA.out HS.out hs h
            simp at this; omega
          · obtain rfl : k = m := by omega
            rw [HS.out] at hs; cases hs; simpa using hxf
        case measure => omega
    · obtain rfl : i = j := by omega
      have HB := Lib.hid (posC_at (by rw [HN.out]; exact hjn) h1 h2)
      by_cases hin : i < n
      · obtain ⟨⟨x, u⟩, hs⟩ := get_some HN.out hin
        have hx := HL.out _ (List.mem_of_getElem? hs)
        obtain ⟨b, off, rfl, hc⟩ := (H.below hb) (by rw [HN.out]; omega)
        obtain ⟨s0, a', c', s1, _⟩ := hc i _ hs
        have hh := Lib.hid (show hasC f l = (x - f == 0) by
          by_cases hxf : x = f
          · have e : (x - f == 0) = true := by simp; omega
            rw [e]
            simp only [hasC, List.any_eq_true]
            exact ⟨_, List.mem_of_getElem? hs, by simp [hxf]⟩
          · have e : (x - f == 0) = false := by simp; omega
            rw [e]
            simp only [hasC, List.any_eq_false]
            intro s hm
            obtain ⟨k, hk, hks⟩ := List.getElem_of_mem hm
            have hks' : l[k]? = some s := by rw [← hks]; exact List.getElem?_eq_getElem hk
            rcases Nat.lt_or_ge k i with h | h
            · have := h1 k s h hks'
              simp; omega
            · rcases Nat.lt_or_ge i k with h' | h'
              · have q1 := ascC_get HA.out hs hks' h'
                have q2 := h2 i _ (Nat.le_refl _) hs
                simp at q1 q2 ⊢; omega
              · obtain rfl : k = i := by omega
                rw [hs] at hks'; cases hks'
                simpa using hxf)
        clear hc hs h1 h2 hg
        obtain ⟨r, hr⟩ : ∃ r, (x - f == 0) = r := ⟨_, rfl⟩
        rw [hr] at hh
        go_wp2_with (go_at_call 54; refine (cmp_54 x f (.slice a' u.length c') wr (by omega) (by omega)).mono ?_; rintro e w2 ⟨rfl, hb2⟩)
        go_ret2
        refine ⟨?_, below_then hb (by assumption)⟩
        rw [HB.out, hh.out]
        rfl
      · obtain rfl : i = n := by omega
        have hh := Lib.hid (show hasC f l = false by
          simp only [hasC, List.any_eq_false]
          intro s hm
          obtain ⟨k, hk, hks⟩ := List.getElem_of_mem hm
          have hks' : l[k]? = some s := by rw [← hks]; exact List.getElem?_eq_getElem hk
          have := h1 k s (by have := HN.out; omega) hks'
          simp; omega)
        clear h1 h2 hg
        go_wp2
        go_ret2
        refine ⟨?_, hb⟩
        rw [HB.out, hh.out]
        rfl
set_option maxRecDepth 100000 in set_option maxHeartbeats 3200000 in
theorem find_48 (dp nx : Int) (aB aC aQ : Option Addr) (bl : List (List Int)) (ca : List Ca) (qu : List Rq) (nB cB nC cC nQ cQ : Nat) (f : Int) (w : World) (HB : Bls w aB bl) (HC : Cas w aC ca) (HQ : Rqs w aQ qu) (hB : bl.length = nB) (hC : ca.length = nC) (hQ : qu.length = nQ) (mC : nC ≤ 1000000) (ha : AscC (-1) ca) (hl : ∀ s ∈ ca, s.1 < 256) (hf0 : 0 ≤ f) (hf1 : f ≤ 9223372036854775807) :
    Calls Try.prog 48 #[.agg #[.int .i64 dp, .int .i64 nx, .slice aB nB cB, .slice aC nC cC, .slice aQ nQ cQ], .int .i64 f] w fun e w' => e = .returned (.tuple #[.int .i64 (posC f ca), .bool (hasC f ca)]) ∧ Below w.heap.size w w' := by
  have B1 := below_box w (.cells #[.int .i64 dp, .int .i64 nx, .slice aB nB cB, .slice aC nC cC, .slice aQ nQ cQ] 26)
  have z0 : (w.alloc (.cells #[.int .i64 dp, .int .i64 nx, .slice aB nB cB, .slice aC nC cC, .slice aQ nQ cQ] 26)).cell? ⟨w.heap.size, 0, none⟩ = some (.int .i64 dp) := zcell w _ _ 0
  have z1 : (w.alloc (.cells #[.int .i64 dp, .int .i64 nx, .slice aB nB cB, .slice aC nC cC, .slice aQ nQ cQ] 26)).cell? ⟨w.heap.size, 1, none⟩ = some (.int .i64 nx) := zcell w _ _ 1
  have z2 : (w.alloc (.cells #[.int .i64 dp, .int .i64 nx, .slice aB nB cB, .slice aC nC cC, .slice aQ nQ cQ] 26)).cell? ⟨w.heap.size, 2, none⟩ = some (.slice aB nB cB) := zcell w _ _ 2
  have z3 : (w.alloc (.cells #[.int .i64 dp, .int .i64 nx, .slice aB nB cB, .slice aC nC cC, .slice aQ nQ cQ] 26)).cell? ⟨w.heap.size, 3, none⟩ = some (.slice aC nC cC) := zcell w _ _ 3
  have z4 : (w.alloc (.cells #[.int .i64 dp, .int .i64 nx, .slice aB nB cB, .slice aC nC cC, .slice aQ nQ cQ] 26)).cell? ⟨w.heap.size, 4, none⟩ = some (.slice aQ nQ cQ) := zcell w _ _ 4
  obtain ⟨w1, hw1⟩ : ∃ W, W = w.alloc (.cells #[.int .i64 dp, .int .i64 nx, .slice aB nB cB, .slice aC nC cC, .slice aQ nQ cQ] 26) := ⟨_, rfl⟩
  have hsz1 : w.heap.size < w1.heap.size := by rw [hw1]; simp
  rw [← hw1] at B1 z0 z1 z2 z3 z4
  have Z0 := Lib.hid z0
  have Z1 := Lib.hid z1
  have Z2 := Lib.hid z2
  have Z3 := Lib.hid z3
  have Z4 := Lib.hid z4
  have GB := HB.below B1
  have GC := HC.below B1
  have GQ := HQ.below B1
  have NB := Lib.hid hB; have NC := Lib.hid hC; have NQ := Lib.hid hQ; have HW := Lib.hid hw1
  clear hw1
  have hS := Lib.hid (search_53 aC ca nC cC f w1 GC NC.out mC ha hl hf0 hf1)
  obtain ⟨B, hB'⟩ : ∃ B, posC f ca = B := ⟨_, rfl⟩
  obtain ⟨F, hF⟩ : ∃ F, hasC f ca = F := ⟨_, rfl⟩
  rw [hB', hF] at hS ⊢
  clear hB' hF hB hC hQ ha hl z0 z1 z2 z4
  go_enter Try.func48, Try.ntmps48
  go_wp2_with fail
  rw [← HW.out]
  go_wp2_with (go_at_call 53; refine (hS.out).mono ?_; rintro e w2 ⟨rfl, hb2⟩)
  go_ret2
  exact ⟨rfl, below_then B1 (by assumption)⟩
theorem cont_has {d : D} {f : Int} {c : Ca} {i : Nat} (h : AscC (-1) d.ca) (hc : d.ca[i]? = some c) (hf : c.1 = f) : cont d f = c.2 := by
  unfold cont
  rw [conL_some h hc hf]; rfl
theorem cont_not {d : D} {f : Int} (h : hasC f d.ca = false) : cont d f = d.bl.getD f.toNat [] := by
  unfold cont
  rw [conL_none h]; rfl
theorem getD_of {α : Type} {l : List α} {i : Nat} {s d : α} (h : l[i]? = some s) : l.getD i d = s := by rw [List.getD_eq_getElem?_getD, h]; rfl
set_option maxRecDepth 100000 in set_option maxHeartbeats 3200000 in
theorem content_41 (dp nx : Int) (aB aC aQ : Option Addr) (bl : List (List Int)) (ca : List Ca) (qu : List Rq) (nB cB nC cC nQ cQ : Nat) (f : Nat) (w : World) (HB : Bls w aB bl) (HC : Cas w aC ca) (HQ : Rqs w aQ qu) (hB : bl.length = nB) (hC : ca.length = nC) (hQ : qu.length = nQ) (O : Ok ⟨dp, nx, bl, ca, qu⟩) (hf : f < nB) :
    Calls Try.prog 41 #[.agg #[.int .i64 dp, .int .i64 nx, .slice aB nB cB, .slice aC nC cC, .slice aQ nQ cQ], .int .i64 f] w fun e w' => ∃ v, e = .returned v ∧ SlV w' v (cont ⟨dp, nx, bl, ca, qu⟩ f) ∧ Below w.heap.size w w' := by
  have B1 := below_box w (.cells #[.int .i64 dp, .int .i64 nx, .slice aB nB cB, .slice aC nC cC, .slice aQ nQ cQ] 26)
  have z0 : (w.alloc (.cells #[.int .i64 dp, .int .i64 nx, .slice aB nB cB, .slice aC nC cC, .slice aQ nQ cQ] 26)).cell? ⟨w.heap.size, 0, none⟩ = some (.int .i64 dp) := zcell w _ _ 0
  have z1 : (w.alloc (.cells #[.int .i64 dp, .int .i64 nx, .slice aB nB cB, .slice aC nC cC, .slice aQ nQ cQ] 26)).cell? ⟨w.heap.size, 1, none⟩ = some (.int .i64 nx) := zcell w _ _ 1
  have z2 : (w.alloc (.cells #[.int .i64 dp, .int .i64 nx, .slice aB nB cB, .slice aC nC cC, .slice aQ nQ cQ] 26)).cell? ⟨w.heap.size, 2, none⟩ = some (.slice aB nB cB) := zcell w _ _ 2
  have z3 : (w.alloc (.cells #[.int .i64 dp, .int .i64 nx, .slice aB nB cB, .slice aC nC cC, .slice aQ nQ cQ] 26)).cell? ⟨w.heap.size, 3, none⟩ = some (.slice aC nC cC) := zcell w _ _ 3
  have z4 : (w.alloc (.cells #[.int .i64 dp, .int .i64 nx, .slice aB nB cB, .slice aC nC cC, .slice aQ nQ cQ] 26)).cell? ⟨w.heap.size, 4, none⟩ = some (.slice aQ nQ cQ) := zcell w _ _ 4
  obtain ⟨w1, hw1⟩ : ∃ W, W = w.alloc (.cells #[.int .i64 dp, .int .i64 nx, .slice aB nB cB, .slice aC nC cC, .slice aQ nQ cQ] 26) := ⟨_, rfl⟩
  have hsz1 : w.heap.size < w1.heap.size := by rw [hw1]; simp
  rw [← hw1] at B1 z0 z1 z2 z3 z4
  have Z0 := Lib.hid z0
  have Z1 := Lib.hid z1
  have Z2 := Lib.hid z2
  have Z3 := Lib.hid z3
  have Z4 := Lib.hid z4
  have GB := HB.below B1
  have GC := HC.below B1
  have GQ := HQ.below B1
  have NB := Lib.hid hB; have NC := Lib.hid hC; have NQ := Lib.hid hQ; have HW := Lib.hid hw1
  clear hw1
  have b2 : nB ≤ 256 := by rw [← hB]; exact O.b2
  have c2 : nC ≤ 256 := by rw [← hC]; exact ok_ca O
  have hcb : ∀ s ∈ ca, s.1 < 256 := fun s hs => by have := O.cb s hs; simp only [hB] at this; omega
  have hS := Lib.hid (find_48 dp nx aB aC aQ bl ca qu nB cB nC cC nQ cQ f w1 GB GC GQ hB hC hQ (by omega) O.asc hcb (by omega) (by omega))
  cases hF : hasC f ca with
  | true =>
    obtain ⟨⟨x, s⟩, hs, hx⟩ := posC_get O.asc hF
    have hpn : posC f ca < nC := by rw [List.getElem?_eq_some_iff] at hs; obtain ⟨h, _⟩ := hs; rw [← hC]; exact h
    have hsl : s.length = 32 := O.cd _ (List.mem_of_getElem? hs)
    rw [cont_has (d := ⟨dp, nx, bl, ca, qu⟩) O.asc hs hx]
    rw [hF] at hS
    obtain ⟨p, hp⟩ : ∃ p, posC f ca = p := ⟨_, rfl⟩
    rw [hp] at hs hpn hS
    clear hp hF hcb O hB hC hQ z0 z1 z2 z4
    have HS := Lib.hid hs; clear hs
    go_enter Try.func41, Try.ntmps41
    go_wp2_with fail
    rw [← HW.out]
    clear HW
    go_wp2_with fail
    refine hS.out.mono ?_
    rintro e w2 ⟨rfl, hb2⟩
    obtain ⟨b, off, rfl, hc⟩ := (GC.below hb2) (by rw [NC.out]; omega)
    obtain ⟨s1, a', c', s0, hc1, hc2, hc3, hbt⟩ := hc p _ HS.out
    simp only [hsl] at s0 hc1
    have y3 := cell_later hb2 Z3.out
    clear hc z3
    go_wp2_with fail
    refine (clone_44 a' s 32 c' w2 hbt hsl hc3 hc1 (by omega)).mono ?_
    rintro e w3 ⟨v, rfl, hv, hb3⟩
    obtain ⟨a2, k2, rfl, _, _, _, _⟩ := hv.form hsl
    go_wp2
    go_ret
    exact ⟨_, rfl, hv, below_then B1 (below_then hb2 hb3)⟩
  | false =>
    obtain ⟨s, hs⟩ := get_some hB hf
    have hsl : s.length = 32 := O.bl _ (List.mem_of_getElem? hs)
    rw [cont_not (d := ⟨dp, nx, bl, ca, qu⟩) hF]
    have hgd : bl.getD (f : Int).toNat [] = s := by rw [Int.toNat_natCast]; exact getD_of hs
    simp only [hgd]
    rw [hF] at hS
    clear hgd hF hcb O hB hC hQ z0 z1 z3 z4
    have HS := Lib.hid hs; clear hs
    go_enter Try.func41, Try.ntmps41
    go_wp2_with fail
    rw [← HW.out]
    clear HW
    go_wp2_with fail
    refine hS.out.mono ?_
    rintro e w2 ⟨rfl, hb2⟩
    obtain ⟨b, off, rfl, hc⟩ := (GB.below hb2) (by rw [NB.out]; omega)
    obtain ⟨a', c', s0, hc1, hc2, hc3, hbt⟩ := hc f _ HS.out
    simp only [hsl] at s0 hc1
    have y2 := cell_later hb2 Z2.out
    clear hc z2
    go_wp2_with fail
    refine (clone_44 a' s 32 c' w2 hbt hsl hc3 hc1 (by omega)).mono ?_
    rintro e w3 ⟨v, rfl, hv, hb3⟩
    obtain ⟨a2, k2, rfl, _, _, _, _⟩ := hv.form hsl
    go_wp2
    go_ret
    exact ⟨_, rfl, hv, below_then B1 (below_then hb2 hb3)⟩
end Go.Proofs.Ytlhbjmoncdljoaa
