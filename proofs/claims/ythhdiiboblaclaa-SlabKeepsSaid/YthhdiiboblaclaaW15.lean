/- Walks: where a slab is, of the reference and of the program. -/
import Derived.Test.YthhdiiboblaclaaW14
namespace Go.Proofs.Ythhdiiboblaclaa
open Go.RowKit Go.Over Go.Slb Go.Seg Go.Grow
/-- The place of the first slab of a frame, or -1. -/
def atL (f : Int) : Nat → List S → Int
  | _, [] => -1
  | i, s :: r => if s.1 = f then i else atL f (i + 1) r
theorem atL_none {f : Int} : ∀ {l : List S} {i : Nat}, hasF f l = false → atL f i l = -1
  | [], _, _ => rfl
  | s :: r, i, h => by
    have h1 : s.1 ≠ f ∧ hasF f r = false := by simpa [hasF] using h
    show (if s.1 = f then (i : Int) else atL f (i + 1) r) = -1
    rw [if_neg h1.1]; exact atL_none h1.2
theorem atL_some {f : Int} : ∀ {l : List S} {i k : Nat} {p : Int} {s : S}, Asc p l → l[k]? = some s → s.1 = f → atL f i l = (i + k : Nat)
  | [], _, _, _, _, _, h, _ => by simp at h
  | t :: r, i, 0, p, s, ha, h, hf => by
    simp at h; subst h
    show (if t.1 = f then (i : Int) else atL f (i + 1) r) = _
    rw [if_pos hf]; rfl
  | t :: r, i, k + 1, p, s, ha, h, hf => by
    have hs : r[k]? = some s := by simpa using h
    have hlt := asc_lt ha.2 s (List.mem_of_getElem? hs)
    show (if t.1 = f then (i : Int) else atL f (i + 1) r) = _
    rw [if_neg (by omega), atL_some ha.2 hs hf]
    congr 1; omega
theorem atL_nonneg {f : Int} {l : List S} (h : hasF f l = true) : ∀ i, 0 ≤ atL f i l := by
  induction l with
  | nil => simp [hasF] at h
  | cons s r ih =>
    intro i
    show 0 ≤ (if s.1 = f then (i : Int) else atL f (i + 1) r)
    by_cases hs : s.1 = f
    · rw [if_pos hs]; omega
    · rw [if_neg hs]
      exact ih (by simpa [hasF, hs] using h) (i + 1)
set_option maxRecDepth 100000 in set_option maxHeartbeats 1600000 in
theorem at_43 (o : Int) (a : Option Addr) (l : List S) (n c : Nat) (f : Int) (w : World) (H : Slabs w a l) (hn : l.length = n) (hm : n ≤ 1000000) :
    Calls Try.prog 43 #[.agg #[.int .i64 o, .slice a n c], .int .i64 f] w fun e w' => e = .returned (.int .i64 (atL f 0 l)) ∧ Below w.heap.size w w' := by
  have HN := Lib.hid hn; clear hn
  obtain ⟨w1, hw1⟩ : ∃ w1, w1 = w.alloc (.cells #[.int .i64 o, .slice a n c] 24) := ⟨_, rfl⟩
  obtain ⟨k0, k1⟩ := box_cells w (.int .i64 o) (.slice a n c) 24
  have B1 := below_box w (.cells #[.int .i64 o, .slice a n c] 24)
  rw [← hw1] at k0 k1 B1
  have H1 := H.below B1
  have hz1 : w.heap.size < w1.heap.size := by rw [hw1]; simp
  have HW := Lib.hid hw1; clear hw1
  have K1 := Lib.hid k1; clear k0 k1
  obtain ⟨R, hR⟩ : ∃ R, atL f 0 l = R := ⟨_, rfl⟩
  rw [hR]
  have HR := Lib.hid hR; clear hR
  go_enter Try.func43, Try.ntmps43
  go_wp2
  rw [← HW.out]
  clear HW
  go_loopg [5] n (fun g i0 wr => ∃ (i : Nat), i + g = n ∧ i0 = .int .i64 i ∧ atL f i (l.drop i) = R ∧ Below w1.heap.size w1 wr)
  case atStart => exact ⟨0, by omega, rfl, HR.out, Below.refl _ _⟩
  case round =>
    obtain ⟨i, hg, rfl, hF, hb⟩ := hrel
    have c1 := cell_later hb K1.out
    cases gk with
    | zero =>
      obtain rfl : i = n := by omega
      have HE := Lib.hid (show R = -1 by rw [← hF, List.drop_eq_nil_of_le (by rw [HN.out]; exact Nat.le_refl _)]; rfl)
      clear hg hF
      go_wp2
      go_ret
      exact ⟨by rw [HE.out]; rfl, below_then B1 hb⟩
    | succ g =>
      have hin : i < n := by omega
      obtain ⟨⟨x, u⟩, hs⟩ := get_some HN.out hin
      obtain ⟨b, off, rfl, hc⟩ := (H1.below hb) (by rw [HN.out]; omega)
      obtain ⟨s0, _⟩ := hc i _ hs
      have hF2 : (if x = f then (i : Int) else atL f (i + 1) (l.drop (i + 1))) = R := by rw [← hF, drop_get hs]; rfl
      have HG := Lib.hid hg; have HF := Lib.hid hF2; clear hg hc hs hF hF2
      by_cases hxy : x = f
      · have HE := Lib.hid (show R = (i : Int) by rw [← HF.out, if_pos hxy])
        subst hxy
        have t1 : (x == x) = true := by simp
        go_wp2
        go_ret
        exact ⟨by rw [HE.out]; rfl, below_then B1 hb⟩
      · have t1 : (x == f) = false := by simpa using hxy
        go_wp2
        go_roundg g
        case rel => exact ⟨i + 1, by have := HG.out; omega, by go_num, by rw [← HF.out, if_neg hxy], hb⟩
        case measure => omega
theorem below_at : ∀ {l : List S} {f : Int} {i : Nat}, i ≤ l.length → (∀ k s, k < i → l[k]? = some s → s.1 < f) → (∀ k s, i ≤ k → l[k]? = some s → f ≤ s.1) → below f l = i
  | [], f, i, hi, _, _ => by
    have : i = 0 := by simpa using hi
    subst this; rfl
  | t :: r, f, 0, hi, h1, h2 => by
    have ih := below_at (l := r) (f := f) (i := 0) (by omega) (fun k s hk => absurd hk (by omega)) (fun k s _ hs => h2 (k + 1) s (by omega) (by simpa using hs))
    have ht := h2 0 t (by omega) rfl
    unfold below at ih ⊢
    rw [List.countP_cons, ih]
    simp; omega
  | t :: r, f, i + 1, hi, h1, h2 => by
    have ih := below_at (l := r) (f := f) (i := i) (by simp at hi; omega) (fun k s hk hs => h1 (k + 1) s (by omega) (by simpa using hs)) (fun k s hk hs => h2 (k + 1) s (by omega) (by simpa using hs))
    have ht := h1 0 t (by omega) rfl
    unfold below at ih ⊢
    rw [List.countP_cons, ih]
    simp [ht]
theorem asc_get : ∀ {l : List S} {p : Int}, Asc p l → ∀ {i j : Nat} {s t : S}, l[i]? = some s → l[j]? = some t → i < j → s.1 < t.1
  | [], _, _, i, j, s, t, h, _, _ => by simp at h
  | x :: r, p, ha, 0, j + 1, s, t, h, h', _ => by
    simp at h; subst h
    exact asc_lt ha.2 t (List.mem_of_getElem? (by simpa using h'))
  | x :: r, p, ha, i + 1, j + 1, s, t, h, h', hij => asc_get ha.2 (i := i) (j := j) (by simpa using h) (by simpa using h') (by omega)
set_option maxRecDepth 100000 in set_option maxHeartbeats 1600000 in
theorem cmp_49 (x f : Int) (V : Value) (w : World) (h1 : -9223372036854775808 ≤ x - f) (h2 : x - f ≤ 9223372036854775807) :
    Calls Try.prog 49 #[.agg #[.int .i64 x, V], .int .i64 f] w fun e w' => e = .returned (.int .i64 (x - f)) ∧ Below w.heap.size w w' := by
  have B1 := below_box w (.cells #[.int .i64 x, V] 52)
  obtain ⟨k0, k1⟩ := box_cells w (.int .i64 x) V 52
  go_enter Try.func49, Try.ntmps49
  go_wp2
  go_ret
  exact ⟨by go_num, B1⟩
set_option maxRecDepth 100000 in set_option maxHeartbeats 1600000 in
theorem search_48 (a : Option Addr) (l : List S) (n c : Nat) (f p : Int) (w : World) (H : Slabs w a l) (hn : l.length = n) (hm : n ≤ 1000000) (ha : Asc p l) (hl : ∀ s ∈ l, 0 ≤ s.1 ∧ s.1 < 256) (hf0 : 0 ≤ f) (hf1 : f ≤ 9223372036854775807) :
    Calls Try.prog 48 #[.slice a n c, .int .i64 f, .func (.func 49) #[] #[]] w fun e w' => e = .returned (.tuple #[.int .i64 (below f l), .bool (hasF f l)]) ∧ Below w.heap.size w w' := by
  have HN := Lib.hid hn
  have HL := Lib.hid hl
  have HA := Lib.hid ha
  clear hn hl ha
  go_enter Try.func48, Try.ntmps48
  go_wp2
  go_loopg [9, 10] n (fun g i0 j0 wr => ∃ (i j : Nat), i ≤ j ∧ j ≤ n ∧ j ≤ i + g ∧ i0 = .int .i64 i ∧ j0 = .int .i64 j ∧ (∀ k s, k < i → l[k]? = some s → s.1 < f) ∧ (∀ k s, j ≤ k → l[k]? = some s → f ≤ s.1) ∧ Below w.heap.size w wr)
  case atStart => exact ⟨0, n, by omega, by omega, by omega, rfl, rfl, fun k s hk => absurd hk (by omega), fun k s hk hs => by
    have := List.mem_of_getElem? hs
    have h2 : k < l.length := by rw [List.getElem?_eq_some_iff] at hs; exact hs.1
    have := HN.out
    omega, Below.refl _ _⟩
  case round =>
    obtain ⟨i, j, hij, hjn, hg, rfl, rfl, h1, h2, hb⟩ := hrel
    by_cases hlt : i < j
    · obtain ⟨m, hmid⟩ : ∃ m, (i + j) / 2 = m := ⟨_, rfl⟩
      have hm1 : i ≤ m := by omega
      have hm2 : m < j := by omega
      obtain ⟨⟨x, u⟩, hs⟩ := get_some HN.out (show m < n by omega)
      have hx := HL.out _ (List.mem_of_getElem? hs)
      obtain ⟨b, off, rfl, hc⟩ := (H.below hb) (by rw [HN.out]; omega)
      obtain ⟨s0, a', c', s1, _⟩ := hc m _ hs
      have HS := Lib.hid hs; have HM := Lib.hid hmid
      have H1 := Lib.hid h1; have H2 := Lib.hid h2; have HG := Lib.hid hg
      clear hc hs h1 h2 hg
      by_cases hxf : x < f
      · have t1 : x - f < 0 := by omega
        have hb' := hb
        go_wp2_with (go_at_call 49; refine (cmp_49 x f (.slice a' u.length c') wr (by omega) (by omega)).mono ?_; rintro e w2 ⟨rfl, hb2⟩)
        obtain ⟨g, rfl⟩ : ∃ g, gk = g + 1 := ⟨gk - 1, by have := HG.out; omega⟩
        go_roundg g
        case rel =>
          refine ⟨m + 1, j, by omega, by omega, by have := HG.out; omega, by go_num, rfl, fun k s hk hs => ?_, H2.out, below_then hb (by assumption)⟩
          rcases Nat.lt_or_ge k m with h | h
          · have := asc_get HA.out hs HS.out h
            simp at this; omega
          · obtain rfl : k = m := by omega
            rw [HS.out] at hs; cases hs; exact hxf
        case measure => omega
      · have t1 : ¬ x - f < 0 := by omega
        have hb' := hb
        go_wp2_with (go_at_call 49; refine (cmp_49 x f (.slice a' u.length c') wr (by omega) (by omega)).mono ?_; rintro e w2 ⟨rfl, hb2⟩)
        obtain ⟨g, rfl⟩ : ∃ g, gk = g + 1 := ⟨gk - 1, by have := HG.out; omega⟩
        go_roundg g
        case rel =>
          refine ⟨i, m, by omega, by omega, by have := HG.out; omega, rfl, by go_num, H1.out, fun k s hk hs => ?_, below_then hb (by assumption)⟩
          rcases Nat.lt_or_ge m k with h | h
          · have := asc_get HA.out HS.out hs h
            simp at this; omega
          · obtain rfl : k = m := by omega
            rw [HS.out] at hs; cases hs; simpa using hxf
        case measure => omega
    · obtain rfl : i = j := by omega
      have HB := Lib.hid (below_at (by rw [HN.out]; exact hjn) h1 h2)
      by_cases hin : i < n
      · obtain ⟨⟨x, u⟩, hs⟩ := get_some HN.out hin
        have hx := HL.out _ (List.mem_of_getElem? hs)
        obtain ⟨b, off, rfl, hc⟩ := (H.below hb) (by rw [HN.out]; omega)
        obtain ⟨s0, a', c', s1, _⟩ := hc i _ hs
        have hh := Lib.hid (show hasF f l = (x - f == 0) by
          by_cases hxf : x = f
          · have e : (x - f == 0) = true := by simp; omega
            rw [e]
            simp only [hasF, List.any_eq_true]
            exact ⟨_, List.mem_of_getElem? hs, by simp [hxf]⟩
          · have e : (x - f == 0) = false := by simp; omega
            rw [e]
            simp only [hasF, List.any_eq_false]
            intro s hm
            obtain ⟨k, hk, hks⟩ := List.getElem_of_mem hm
            have hks' : l[k]? = some s := by rw [← hks]; exact List.getElem?_eq_getElem hk
            rcases Nat.lt_or_ge k i with h | h
            · have := h1 k s h hks'
              simp; omega
            · rcases Nat.lt_or_ge i k with h' | h'
              · have q1 := asc_get HA.out hs hks' h'
                have q2 := h2 i _ (Nat.le_refl _) hs
                simp at q1 q2 ⊢; omega
              · obtain rfl : k = i := by omega
                rw [hs] at hks'; cases hks'
                simpa using hxf)
        clear hc hs h1 h2 hg
        obtain ⟨r, hr⟩ : ∃ r, (x - f == 0) = r := ⟨_, rfl⟩
        rw [hr] at hh
        go_wp2_with (go_at_call 49; refine (cmp_49 x f (.slice a' u.length c') wr (by omega) (by omega)).mono ?_; rintro e w2 ⟨rfl, hb2⟩)
        go_ret2
        refine ⟨?_, below_then hb (by assumption)⟩
        rw [HB.out, hh.out]
        rfl
      · obtain rfl : i = n := by omega
        have hh := Lib.hid (show hasF f l = false by
          simp only [hasF, List.any_eq_false]
          intro s hm
          obtain ⟨k, hk, hks⟩ := List.getElem_of_mem hm
          have hks' : l[k]? = some s := by rw [← hks]; exact List.getElem?_eq_getElem hk
          have := h1 k s (by have := HN.out; omega) hks'
          simp; omega)
        clear h1 h2 hg
        go_wp2
        go_ret2
        refine ⟨?_, hb⟩
        rw [HB.out, hh.out]
        rfl
set_option maxRecDepth 100000 in set_option maxHeartbeats 1600000 in
theorem place_36 (o : Int) (a : Option Addr) (l : List S) (n c : Nat) (f p : Int) (w : World) (H : Slabs w a l) (hn : l.length = n) (hm : n ≤ 1000000) (ha : Asc p l) (hl : ∀ s ∈ l, 0 ≤ s.1 ∧ s.1 < 256) (hf0 : 0 ≤ f) (hf1 : f ≤ 9223372036854775807) :
    Calls Try.prog 36 #[.agg #[.int .i64 o, .slice a n c], .int .i64 f] w fun e w' => e = .returned (.tuple #[.int .i64 (below f l), .bool (hasF f l)]) ∧ Below w.heap.size w w' := by
  obtain ⟨w1, hw1⟩ : ∃ w1, w1 = w.alloc (.cells #[.int .i64 o, .slice a n c] 24) := ⟨_, rfl⟩
  obtain ⟨k0, k1⟩ := box_cells w (.int .i64 o) (.slice a n c) 24
  have B1 := below_box w (.cells #[.int .i64 o, .slice a n c] 24)
  rw [← hw1] at k0 k1 B1
  have H1 := H.below B1
  have hz1 : w.heap.size < w1.heap.size := by rw [hw1]; simp
  have HW := Lib.hid hw1; clear hw1
  have hS := Lib.hid (search_48 a l n c f p w1 H1 hn hm ha hl hf0 hf1)
  obtain ⟨B, hB⟩ : ∃ B, below f l = B := ⟨_, rfl⟩
  obtain ⟨F, hF⟩ : ∃ F, hasF f l = F := ⟨_, rfl⟩
  rw [hB, hF] at hS ⊢
  clear hB hF hn ha hl
  have K1 := Lib.hid k1; clear k0 k1
  go_enter Try.func36, Try.ntmps36
  go_wp2_with fail
  rw [← HW.out]
  have c1 := K1.out
  go_wp2_with (go_at_call 48; refine (hS.out).mono ?_; rintro e w2 ⟨rfl, hb2⟩)
  go_ret2
  exact ⟨rfl, below_then B1 (by assumption)⟩
end Go.Proofs.Ythhdiiboblaclaa
