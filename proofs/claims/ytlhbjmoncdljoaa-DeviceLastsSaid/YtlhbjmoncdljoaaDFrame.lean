/- What is the same in every row of this seat: the arguments opened. -/
import Derived.Test.YtlhbjmoncdljoaaRows
import Derived.Test.YtlhbjmoncdljoaaLift
import Derived.Test.YtlhbjmoncdljoaaD24
namespace Go.Proofs.Ytlhbjmoncdljoaa
open Go.ChangeShapes Go.WideShapes Go.ChangeAt Go.RowKit Go.Lift Go.Dev Go.Grow Go.Over
theorem own : ownKnob Try.prog.godebug = none := by kernel_rfl
theorem laidOut : laidOutB Try.prog = true := by kernel_rfl
theorem cells3 : Try.prog.cellsOf 3 = 1 := by kernel_rfl
theorem cells4 : Try.prog.cellsOf 4 = 1 := by kernel_rfl
theorem cells5 : Try.prog.cellsOf 5 = 1 := by kernel_rfl
theorem cells22 : Try.prog.cellsOf 22 = 1 := by kernel_rfl
theorem cells23 : Try.prog.cellsOf 23 = 1 := by kernel_rfl
theorem cells24 : Try.prog.cellsOf 24 = 1 := by kernel_rfl
theorem cells26 : Try.prog.cellsOf 26 = 5 := by kernel_rfl
theorem cells31 : Try.prog.cellsOf 31 = 1 := by kernel_rfl
theorem cells39 : Try.prog.cellsOf 39 = 4 := by kernel_rfl
theorem cells57 : Try.prog.cellsOf 57 = 4 := by kernel_rfl
theorem cells64 : Try.prog.cellsOf 64 = 2 := by kernel_rfl
theorem list5_of {α : Type} {l : List α} {x y z u t : α} (h : l.length = 5) (h0 : (l.drop 0).take 1 = [x]) (h1 : (l.drop 1).take 1 = [y]) (h2 : (l.drop 2).take 1 = [z]) (h3 : (l.drop 3).take 1 = [u]) (h4 : (l.drop 4).take 1 = [t]) : l = [x, y, z, u, t] := by
  match l, h with
  | [a, b, c, d, e], _ => simp_all
theorem i64_wf {x : Int} (h : (Lit.int .i64 x).wf = true) : -9223372036854775808 ≤ x ∧ x ≤ 9223372036854775807 := by
  simp [Lit.wf, IntKind.min, IntKind.max, IntKind.bits, IntKind.signed] at h
  omega
theorem u8_wf {x : Int} (h : (Lit.int .u8 x).wf = true) : 0 ≤ x ∧ x ≤ 255 := by
  simp [Lit.wf, IntKind.min, IntKind.max, IntKind.bits, IntKind.signed] at h
  omega
theorem list_such {β : Type} {Q : Nat → β → Prop} : ∀ (n : Nat), (∀ i, i < n → ∃ x, Q i x) → ∃ l : List β, l.length = n ∧ ∀ i x, l[i]? = some x → Q i x
  | 0, _ => ⟨[], rfl, fun i x h => by simp at h⟩
  | n + 1, h => by
    obtain ⟨l, hl, hq⟩ := list_such n fun i hi => h i (by omega)
    obtain ⟨x, hx⟩ := h n (by omega)
    refine ⟨l ++ [x], by simp [hl], fun i y hy => ?_⟩
    rcases Nat.lt_or_ge i n with hi | hi
    · rw [List.getElem?_append_left (by omega)] at hy
      exact hq i y hy
    · rw [List.getElem?_append_right (by omega), hl] at hy
      have e : i - n = 0 := by
        rw [List.getElem?_eq_some_iff] at hy
        obtain ⟨h1, _⟩ := hy
        simp at h1; omega
      rw [e] at hy
      simp at hy
      subst hy
      have : i = n := by omega
      subst this; exact hx
section
variable {W : World} {v : Value}
theorem rd_bytes {cs : List Value} (hr : Rd Try.prog W 31 cs) : ∃ a l c, cs = [.slice a l.length c] ∧ l.length ≤ c ∧ c ≤ maxLen ∧ (a = none → c = 0) ∧ Bt W a l := by
  obtain ⟨a, n, c, f, rfl, h1, h2, h3, h4, _, _⟩ := hr.ints Try.underlying31 Try.underlying5 cells5
  refine ⟨a, (List.range n).map f, c, by simp, by simpa using h1, h2, h3, fun h0 => ?_⟩
  have hl : ((List.range n).map f).length = n := by simp
  rw [hl] at h0
  obtain ⟨b, off, rfl, hc⟩ := h4 h0
  refine ⟨b, off, rfl, fun i hi => ?_⟩
  rw [hl] at hi
  rw [hc i hi]
  simp [hi]
theorem spot_none {a : Addr} {u : Value} {w : World} (h : w.cell? (a.add 0) = some u) : ∃ b off, a = ⟨b, off, none⟩ := by
  obtain ⟨b, off, spot⟩ := a
  have hspot : spot = none := by simpa [Addr.add] using World.cell?_spot h
  subst hspot
  exact ⟨b, off, rfl⟩
theorem rd_bls {cs : List Value} (hr : Rd Try.prog W 22 cs) : ∃ a l c, cs = [.slice a l.length c] ∧ l.length ≤ c ∧ Bls W a l := by
  rcases hr.slice Try.underlying22 with rfl | ⟨a, n, c, rfl, hn, hm, hi⟩
  · exact ⟨none, [], 0, rfl, Nat.le_refl _, fun h => absurd h (by simp)⟩
  · obtain ⟨l, hl, hq⟩ := list_such (Q := fun i (s : List Int) => ∃ a' c', W.cell? ((a.add (i * 1)).add 0) = some (.slice a' s.length c') ∧ s.length ≤ c' ∧ c' ≤ maxLen ∧ (a' = none → c' = 0) ∧ Bt W a' s) n fun i hi' => by
      obtain ⟨cs', h1, h2, h3⟩ := hi i (by omega)
      rw [cells31] at h1 h2
      obtain ⟨a', u, c', hu, hu1, hu2, hu3, hu4⟩ := rd_bytes h3
      subst hu
      exact ⟨u, a', c', h2 0 (by omega), hu1, hu2, hu3, hu4⟩
    subst hl
    refine ⟨some a, l, c, rfl, hn, fun h0 => ?_⟩
    obtain ⟨a', c', hc0, _⟩ := hq 0 _ (List.getElem?_eq_getElem h0)
    rw [show (a.add (0 * 1)).add 0 = a.add 0 by simp [Addr.add]] at hc0
    obtain ⟨b, off, rfl⟩ := spot_none hc0
    refine ⟨b, off, rfl, fun i s hs => ?_⟩
    obtain ⟨a', c', h2, h3⟩ := hq i s hs
    rw [add_row, add_row] at h2
    exact ⟨a', c', by simpa using h2, h3⟩
theorem rd_cas {cs : List Value} (hr : Rd Try.prog W 23 cs) : ∃ a l c, cs = [.slice a l.length c] ∧ Cas W a l := by
  rcases hr.slice Try.underlying23 with rfl | ⟨a, n, c, rfl, hn, hm, hi⟩
  · exact ⟨none, [], 0, rfl, fun h => absurd h (by simp)⟩
  · obtain ⟨l, hl, hq⟩ := list_such (Q := fun i (s : Ca) => W.cell? ((a.add (i * 2)).add 0) = some (.int .i64 s.1) ∧ ∃ a' c', W.cell? ((a.add (i * 2)).add 1) = some (.slice a' s.2.length c') ∧ s.2.length ≤ c' ∧ c' ≤ maxLen ∧ (a' = none → c' = 0) ∧ Bt W a' s.2) n fun i hi' => by
      obtain ⟨cs', h1, h2, h3⟩ := hi i (by omega)
      rw [cells64] at h1 h2
      obtain ⟨hl, hf⟩ := h3.struct Try.underlying64
      obtain ⟨x, hx, _⟩ := (show Rd Try.prog W 3 ((cs'.drop 0).take (Try.prog.cellsOf 3)) from hf 0 _ rfl).int Try.underlying3
      obtain ⟨a', u, c', hu, hu1, hu2, hu3, hu4⟩ := rd_bytes (show Rd Try.prog W 31 ((cs'.drop 1).take (Try.prog.cellsOf 31)) from hf 1 _ rfl)
      rw [cells3] at hx
      rw [cells31] at hu
      have e := list2_of h1 hx hu
      subst e
      have g0 := h2 0 (by omega)
      have g1 := h2 1 (by omega)
      exact ⟨(x, u), g0, a', c', g1, hu1, hu2, hu3, hu4⟩
    subst hl
    refine ⟨some a, l, c, rfl, fun h0 => ?_⟩
    have hc0 := (hq 0 _ (List.getElem?_eq_getElem h0)).1
    rw [show (a.add (0 * 2)).add 0 = a.add 0 by simp [Addr.add]] at hc0
    obtain ⟨b, off, rfl⟩ := spot_none hc0
    refine ⟨b, off, rfl, fun i s hs => ?_⟩
    obtain ⟨h1, a', c', h2, h3⟩ := hq i s hs
    rw [add_row, add_row] at h1 h2
    exact ⟨h1, a', c', h2, h3⟩
theorem rd_rq {cs : List Value} (hr : Rd Try.prog W 39 cs) : ∃ (q : Rq) (a : Option Addr) (c : Nat), cs = [.int .i64 q.1, .int .i64 q.2.1, .int .i64 q.2.2.1, .slice a q.2.2.2.length c] ∧ q.2.2.2.length ≤ c ∧ c ≤ maxLen ∧ (a = none → c = 0) ∧ Bt W a q.2.2.2 := by
  obtain ⟨hl, hf⟩ := hr.struct Try.underlying39
  obtain ⟨x, hx, _⟩ := (show Rd Try.prog W 3 ((cs.drop 0).take (Try.prog.cellsOf 3)) from hf 0 _ rfl).int Try.underlying3
  obtain ⟨y, hy, _⟩ := (show Rd Try.prog W 3 ((cs.drop 1).take (Try.prog.cellsOf 3)) from hf 1 _ rfl).int Try.underlying3
  obtain ⟨z, hz, _⟩ := (show Rd Try.prog W 3 ((cs.drop 2).take (Try.prog.cellsOf 3)) from hf 2 _ rfl).int Try.underlying3
  obtain ⟨a', u, c', hu, hu1, hu2, hu3, hu4⟩ := rd_bytes (show Rd Try.prog W 31 ((cs.drop 3).take (Try.prog.cellsOf 31)) from hf 3 _ rfl)
  rw [cells3] at hx hy hz
  rw [cells31] at hu
  rw [cells39] at hl
  have e := list4_of hl hx hy hz hu
  exact ⟨(x, y, z, u), a', c', e, hu1, hu2, hu3, hu4⟩
theorem rd_rqs {cs : List Value} (hr : Rd Try.prog W 24 cs) : ∃ a l c, cs = [.slice a l.length c] ∧ Rqs W a l := by
  rcases hr.slice Try.underlying24 with rfl | ⟨a, n, c, rfl, hn, hm, hi⟩
  · exact ⟨none, [], 0, rfl, fun h => absurd h (by simp)⟩
  · obtain ⟨l, hl, hq⟩ := list_such (Q := fun i (s : Rq) => (W.cell? ((a.add (i * 4)).add 0) = some (.int .i64 s.1) ∧ W.cell? ((a.add (i * 4)).add 1) = some (.int .i64 s.2.1) ∧ W.cell? ((a.add (i * 4)).add 2) = some (.int .i64 s.2.2.1)) ∧ ∃ a' c', W.cell? ((a.add (i * 4)).add 3) = some (.slice a' s.2.2.2.length c') ∧ s.2.2.2.length ≤ c' ∧ c' ≤ maxLen ∧ (a' = none → c' = 0) ∧ Bt W a' s.2.2.2) n fun i hi' => by
      obtain ⟨cs', h1, h2, h3⟩ := hi i (by omega)
      rw [cells39] at h1 h2
      obtain ⟨q, a', c', rfl, hq⟩ := rd_rq h3
      exact ⟨q, ⟨h2 0 (by omega), h2 1 (by omega), h2 2 (by omega)⟩, a', c', h2 3 (by omega), hq⟩
    subst hl
    refine ⟨some a, l, c, rfl, fun h0 => ?_⟩
    have hc0 := (hq 0 _ (List.getElem?_eq_getElem h0)).1.1
    rw [show (a.add (0 * 4)).add 0 = a.add 0 by simp [Addr.add]] at hc0
    obtain ⟨b, off, rfl⟩ := spot_none hc0
    refine ⟨b, off, rfl, fun i s hs => ?_⟩
    obtain ⟨⟨h1, h2, h3⟩, a', c', h4, h5⟩ := hq i s hs
    rw [add_row, add_row] at h1 h2 h3 h4
    exact ⟨h1, h2, h3, a', c', h4, h5⟩
theorem rd_bools {cs : List Value} (hr : Rd Try.prog W 47 cs) : ∃ a u c, cs = [.slice a u.length c] ∧ u.length ≤ c ∧ c ≤ maxLen ∧ (a = none → c = 0) ∧ Pk W a u := by
  rcases hr.slice Try.underlying47 with rfl | ⟨a, n, c, rfl, hn, hm, hi⟩
  · exact ⟨none, [], 0, rfl, Nat.le_refl _, Nat.zero_le _, fun _ => rfl, fun h => absurd h (by simp)⟩
  · obtain ⟨u, hu, hq⟩ := list_such (Q := fun i (b : Bool) => W.cell? (a.add i) = some (.bool b)) n fun i hi' => by
      obtain ⟨cs', h1, h2, h3⟩ := hi i (by omega)
      obtain ⟨b, rfl⟩ := h3.bool Try.underlying4
      have := h2 0 (by rw [cells4]; omega)
      rw [cells4, Nat.mul_one] at this
      have e0 : (a.add i).add 0 = a.add i := by simp [Addr.add]
      rw [e0] at this
      exact ⟨b, this⟩
    subst hu
    refine ⟨some a, u, c, rfl, hn, hm, (fun h => by cases h), fun h0 => ?_⟩
    obtain ⟨b, off, rfl⟩ := spot_none (hq 0 _ (List.getElem?_eq_getElem h0))
    refine ⟨b, off, rfl, fun i hi => ?_⟩
    have := hq i _ (List.getElem?_eq_getElem hi)
    rw [add_row] at this
    rw [this, List.getD_eq_getElem?_getD, List.getElem?_eq_getElem hi]; rfl
/-- A list of acts in memory. -/
def ActsAt (w : World) (a : Option Addr) (l : List (Int × Int × Int × Int)) : Prop :=
  0 < l.length → ∃ b off, a = some ⟨b, off, none⟩ ∧ ∀ i p, l[i]? = some p → w.cell? ⟨b, off + i * 4, none⟩ = some (.int .i64 p.1) ∧ w.cell? ⟨b, off + i * 4 + 1, none⟩ = some (.int .u8 p.2.1) ∧ w.cell? ⟨b, off + i * 4 + 2, none⟩ = some (.int .u8 p.2.2.1) ∧ w.cell? ⟨b, off + i * 4 + 3, none⟩ = some (.int .u8 p.2.2.2) ∧ (0 ≤ p.2.1 ∧ p.2.1 ≤ 255) ∧ (0 ≤ p.2.2.1 ∧ p.2.2.1 ≤ 255) ∧ (0 ≤ p.2.2.2 ∧ p.2.2.2 ≤ 255)
theorem rd_acts {cs : List Value} (hr : Rd Try.prog W 50 cs) : ∃ a l c, cs = [.slice a l.length c] ∧ ActsAt W a l := by
  rcases hr.slice Try.underlying50 with rfl | ⟨a, n, c, rfl, hn, hm, hi⟩
  · exact ⟨none, [], 0, rfl, fun h => absurd h (by simp)⟩
  · obtain ⟨l, hl, hq⟩ := list_such (Q := fun i (p : Int × Int × Int × Int) => (W.cell? ((a.add (i * 4)).add 0) = some (.int .i64 p.1) ∧ W.cell? ((a.add (i * 4)).add 1) = some (.int .u8 p.2.1) ∧ W.cell? ((a.add (i * 4)).add 2) = some (.int .u8 p.2.2.1) ∧ W.cell? ((a.add (i * 4)).add 3) = some (.int .u8 p.2.2.2)) ∧ (0 ≤ p.2.1 ∧ p.2.1 ≤ 255) ∧ (0 ≤ p.2.2.1 ∧ p.2.2.1 ≤ 255) ∧ (0 ≤ p.2.2.2 ∧ p.2.2.2 ≤ 255)) n fun i hi' => by
      obtain ⟨cs', h1, h2, h3⟩ := hi i (by omega)
      rw [cells57] at h1 h2
      obtain ⟨hl, hf⟩ := h3.struct Try.underlying57
      obtain ⟨x, hx, _⟩ := (show Rd Try.prog W 3 ((cs'.drop 0).take (Try.prog.cellsOf 3)) from hf 0 _ rfl).int Try.underlying3
      obtain ⟨y, hy, wy⟩ := (show Rd Try.prog W 5 ((cs'.drop 1).take (Try.prog.cellsOf 5)) from hf 1 _ rfl).int Try.underlying5
      obtain ⟨z, hz, wz⟩ := (show Rd Try.prog W 5 ((cs'.drop 2).take (Try.prog.cellsOf 5)) from hf 2 _ rfl).int Try.underlying5
      obtain ⟨t, ht, wt⟩ := (show Rd Try.prog W 5 ((cs'.drop 3).take (Try.prog.cellsOf 5)) from hf 3 _ rfl).int Try.underlying5
      rw [cells3] at hx
      rw [cells5] at hy hz ht
      have e := list4_of h1 hx hy hz ht
      subst e
      exact ⟨(x, y, z, t), ⟨h2 0 (by omega), h2 1 (by omega), h2 2 (by omega), h2 3 (by omega)⟩, u8_wf wy, u8_wf wz, u8_wf wt⟩
    subst hl
    refine ⟨some a, l, c, rfl, fun h0 => ?_⟩
    have hc0 := (hq 0 _ (List.getElem?_eq_getElem h0)).1.1
    rw [show (a.add (0 * 4)).add 0 = a.add 0 by simp [Addr.add]] at hc0
    obtain ⟨b, off, rfl⟩ := spot_none hc0
    refine ⟨b, off, rfl, fun i p hp => ?_⟩
    obtain ⟨⟨h1, h2, h3, h4⟩, h5⟩ := hq i p hp
    rw [add_row, add_row] at h1 h2 h3 h4
    exact ⟨h1, h2, h3, h4, h5⟩
theorem arg_int (hv : ∃ base, Value.okWide Try.prog W .any base 3 v) (hr : Rd Try.prog W 3 v.cells.toList) : ∃ n, v = .int .i64 n := by
  obtain ⟨_, hv⟩ := hv
  obtain ⟨n, rfl⟩ := okWide_int Try.underlying3 hv
  exact ⟨n, rfl⟩
theorem arg_u8 (hv : ∃ base, Value.okWide Try.prog W .any base 5 v) (hr : Rd Try.prog W 5 v.cells.toList) : ∃ n, v = .int .u8 n ∧ 0 ≤ n ∧ n ≤ 255 := by
  obtain ⟨_, hv⟩ := hv
  obtain ⟨n, rfl⟩ := okWide_int Try.underlying5 hv
  obtain ⟨m, h, wm⟩ := hr.int Try.underlying5
  simp [Value.cells] at h
  subst h
  exact ⟨_, rfl, u8_wf wm⟩
theorem arg_bool (hv : ∃ base, Value.okWide Try.prog W .any base 4 v) (hr : Rd Try.prog W 4 v.cells.toList) : ∃ b, v = .bool b := by
  obtain ⟨_, hv⟩ := hv
  obtain ⟨b, rfl⟩ := okWide_bool Try.underlying4 hv
  exact ⟨b, rfl⟩
theorem arg_dev (hv : ∃ base, Value.okWide Try.prog W .any base 26 v) (hr : Rd Try.prog W 26 v.cells.toList) : ∃ d, Rdv W v d := by
  obtain ⟨_, hv⟩ := hv
  obtain ⟨cs, rfl, hsz⟩ := okWide_struct Try.underlying26 hv
  replace hr : Rd Try.prog W 26 cs.toList := hr
  obtain ⟨hl, hf⟩ := hr.struct Try.underlying26
  obtain ⟨x, hx, _⟩ := (show Rd Try.prog W 3 ((cs.toList.drop 0).take (Try.prog.cellsOf 3)) from hf 0 _ rfl).int Try.underlying3
  obtain ⟨y, hy, _⟩ := (show Rd Try.prog W 3 ((cs.toList.drop 1).take (Try.prog.cellsOf 3)) from hf 1 _ rfl).int Try.underlying3
  obtain ⟨a1, l1, c1, hs1, _, h1⟩ := rd_bls (show Rd Try.prog W 22 ((cs.toList.drop 2).take (Try.prog.cellsOf 22)) from hf 2 _ rfl)
  obtain ⟨a2, l2, c2, hs2, h2⟩ := rd_cas (show Rd Try.prog W 23 ((cs.toList.drop 3).take (Try.prog.cellsOf 23)) from hf 3 _ rfl)
  obtain ⟨a3, l3, c3, hs3, h3⟩ := rd_rqs (show Rd Try.prog W 24 ((cs.toList.drop 4).take (Try.prog.cellsOf 24)) from hf 4 _ rfl)
  rw [cells26] at hl
  rw [cells3] at hx hy
  rw [cells22] at hs1
  rw [cells23] at hs2
  rw [cells24] at hs3
  exact ⟨⟨x, y, l1, l2, l3⟩, a1, c1, a2, c2, a3, c3, by rw [arr_of_list (list5_of hl hx hy hs1 hs2 hs3)], h1, h2, h3⟩
theorem arg_req (hv : ∃ base, Value.okWide Try.prog W .any base 39 v) (hr : Rd Try.prog W 39 v.cells.toList) : ∃ q, Rqv W v q := by
  obtain ⟨_, hv⟩ := hv
  obtain ⟨cs, rfl, hsz⟩ := okWide_struct Try.underlying39 hv
  replace hr : Rd Try.prog W 39 cs.toList := hr
  obtain ⟨q, a, c, he, h1⟩ := rd_rq hr
  exact ⟨q, a, c, by rw [arr_of_list he], h1⟩
theorem arg_bls (hv : ∃ base, Value.okWide Try.prog W .any base 22 v) (hr : Rd Try.prog W 22 v.cells.toList) : ∃ a l n c, v = .slice a n c ∧ Bls W a l ∧ l.length = n ∧ n ≤ c := by
  obtain ⟨_, hv⟩ := hv
  obtain ⟨a, n, c, rfl⟩ := okWide_slice Try.underlying22 hv
  obtain ⟨a', l, c', h, h1, h2⟩ := rd_bls hr
  simp [Value.cells] at h
  obtain ⟨rfl, rfl, rfl⟩ := h
  exact ⟨_, l, _, _, rfl, h2, rfl, h1⟩
theorem arg_bools (hv : ∃ base, Value.okWide Try.prog W .any base 47 v) (hr : Rd Try.prog W 47 v.cells.toList) : ∃ a l n c, v = .slice a n c ∧ Pk W a l ∧ l.length = n := by
  obtain ⟨_, hv⟩ := hv
  obtain ⟨a, n, c, rfl⟩ := okWide_slice Try.underlying47 hv
  obtain ⟨a', l, c', h, _, _, _, h2⟩ := rd_bools hr
  simp [Value.cells] at h
  obtain ⟨rfl, rfl, rfl⟩ := h
  exact ⟨_, l, _, _, rfl, h2, rfl⟩
theorem arg_acts (hv : ∃ base, Value.okWide Try.prog W .any base 50 v) (hr : Rd Try.prog W 50 v.cells.toList) : ∃ a l n c, v = .slice a n c ∧ ActsAt W a l ∧ l.length = n := by
  obtain ⟨_, hv⟩ := hv
  obtain ⟨a, n, c, rfl⟩ := okWide_slice Try.underlying50 hv
  obtain ⟨a', l, c', h, h2⟩ := rd_acts hr
  simp [Value.cells] at h
  obtain ⟨rfl, rfl, rfl⟩ := h
  exact ⟨_, l, _, _, rfl, h2, rfl⟩
end
end Go.Proofs.Ytlhbjmoncdljoaa
