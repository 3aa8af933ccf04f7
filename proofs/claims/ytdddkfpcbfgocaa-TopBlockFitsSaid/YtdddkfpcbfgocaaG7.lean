/- What is the same in both rows of the allocator's scripts: the arguments opened. -/
import Derived.Test.YtdddkfpcbfgocaaRows
import Derived.Test.YtdddkfpcbfgocaaG0
import Derived.Test.YtdddkfpcbfgocaaG6
namespace Go.Proofs.Ytdddkfpcbfgocaa
open Go.ChangeShapes Go.WideShapes Go.ChangeAt Go.RowKit Go.Lift Go.Grow Go.Over Go.Zn
theorem own : ownKnob Try.prog.godebug = none := by kernel_rfl
theorem laidOut : laidOutB Try.prog = true := by kernel_rfl
theorem cells4 : Try.prog.cellsOf 4 = 1 := by kernel_rfl
theorem cells5 : Try.prog.cellsOf 5 = 1 := by kernel_rfl
theorem cells22 : Try.prog.cellsOf 22 = 3 := by kernel_rfl
theorem cells23 : Try.prog.cellsOf 23 = 3 := by kernel_rfl
theorem cells25 : Try.prog.cellsOf 25 = 11 := by kernel_rfl
theorem cells56 : Try.prog.cellsOf 56 = 3 := by kernel_rfl
theorem u8_wf {x : Int} (h : (Lit.int .u8 x).wf = true) : 0 ≤ x ∧ x < 256 := by
  simp [Lit.wf, IntKind.min, IntKind.max, IntKind.bits, IntKind.signed] at h
  omega
theorem list_such {β : Type} {Q : Nat → β → Prop} : ∀ (n : Nat), (∀ i, i < n → ∃ x, Q i x) → ∃ l : List β, l.length = n ∧ ∀ i x, l[i]? = some x → Q i x
  | 0, _ => ⟨[], rfl, fun i x h => by simp at h⟩
  | n + 1, h => by
    obtain ⟨l, hl, hq⟩ := list_such n fun i hi => h i (by omega)
    obtain ⟨x, hx⟩ := h n (by omega)
    refine ⟨l ++ [x], by simp [hl], fun i y hy => ?_⟩
    rcases Nat.lt_or_ge i n with hi | hi
    · rw [List.getElem?_append_left (by omega)] at hy
      exact hq i y hy
    · rw [List.getElem?_append_right (by omega), hl] at hy
      have e : i - n = 0 := by
        rw [List.getElem?_eq_some_iff] at hy
        obtain ⟨h1, _⟩ := hy
        simp at h1; omega
      rw [e] at hy
      simp at hy
      subst hy
      have : i = n := by omega
      subst this; exact hx
theorem get_one {cs : List Value} {i : Nat} {v : Value} (h : (cs.drop i).take 1 = [v]) : cs[i]? = some v := by
  have : ((cs.drop i).take 1)[0]? = some v := by rw [h]; rfl
  rw [List.getElem?_take, if_pos (by omega), List.getElem?_drop] at this
  simpa using this
section
variable {W : World} {v : Value}
theorem rd_u8s {cs : List Value} (hr : Rd Try.prog W 22 cs) : ∀ i, i < 3 → ∃ x : Int, cs[i]? = some (.int .u8 x) ∧ 0 ≤ x ∧ x < 256 := fun i hi => by
  obtain ⟨_, hf⟩ := hr.array Try.underlying22
  have h := hf i hi
  rw [cells5, Nat.mul_one] at h
  obtain ⟨x, hx, wx⟩ := h.int Try.underlying5
  exact ⟨x, get_one hx, u8_wf wx⟩
theorem rd_bls {cs : List Value} (hr : Rd Try.prog W 23 cs) : ∀ i, i < 3 → ∃ b : Bool, cs[i]? = some (.bool b) := fun i hi => by
  obtain ⟨_, hf⟩ := hr.array Try.underlying23
  have h := hf i hi
  rw [cells4, Nat.mul_one] at h
  obtain ⟨x, hx⟩ := h.bool Try.underlying4
  exact ⟨x, get_one hx⟩
theorem get_part {cs : List Value} {o n i : Nat} {v : Value} (hi : i < n) (h : ((cs.drop o).take n)[i]? = some v) : cs[o + i]? = some v := by
  rw [List.getElem?_take, if_pos hi, List.getElem?_drop] at h
  exact h
set_option maxRecDepth 100000 in
theorem arg_mach (hv : ∃ base, Value.okWide Try.prog W .any base 25 v) (hr : Rd Try.prog W 25 v.cells.toList) : ∃ mc th, v = .agg mc.toArray ∧ MV mc th ∧ mc.length = 11 := by
  obtain ⟨_, hv⟩ := hv
  obtain ⟨cs, rfl, hsz⟩ := okWide_struct Try.underlying25 hv
  replace hr : Rd Try.prog W 25 cs.toList := hr
  obtain ⟨hl, hf⟩ := hr.struct Try.underlying25
  have h0 := rd_u8s (show Rd Try.prog W 22 ((cs.toList.drop 0).take (Try.prog.cellsOf 22)) from hf 0 _ rfl)
  have h1 := rd_u8s (show Rd Try.prog W 22 ((cs.toList.drop 3).take (Try.prog.cellsOf 22)) from hf 1 _ rfl)
  have h2 := rd_bls (show Rd Try.prog W 23 ((cs.toList.drop 6).take (Try.prog.cellsOf 23)) from hf 2 _ rfl)
  obtain ⟨b, hb, wb⟩ := (show Rd Try.prog W 5 ((cs.toList.drop 9).take (Try.prog.cellsOf 5)) from hf 3 _ rfl).int Try.underlying5
  obtain ⟨t, ht⟩ := (show Rd Try.prog W 4 ((cs.toList.drop 10).take (Try.prog.cellsOf 4)) from hf 4 _ rfl).bool Try.underlying4
  rw [cells22] at h0 h1
  rw [cells23] at h2
  rw [cells5] at hb
  rw [cells4] at ht
  rw [cells25] at hl
  refine ⟨cs.toList, t, by simp, ⟨fun i hi => ?_, fun i hi => ?_, fun i hi => ?_, ⟨b, get_one hb, u8_wf wb⟩, get_one ht⟩, hl⟩
  · obtain ⟨x, hx, wx⟩ := h0 i hi
    have := get_part hi hx
    rw [Nat.zero_add] at this
    exact ⟨x, this, wx⟩
  · obtain ⟨x, hx, wx⟩ := h1 i hi
    exact ⟨x, get_part hi hx, wx⟩
  · obtain ⟨x, hx⟩ := h2 i hi
    exact ⟨x, get_part hi hx⟩
theorem spot_none {a : Addr} {u : Value} (h : W.cell? (a.add 0) = some u) : ∃ b off, a = ⟨b, off, none⟩ := by
  obtain ⟨b, off, spot⟩ := a
  have hspot : spot = none := by simpa [Addr.add] using World.cell?_spot h
  subst hspot
  exact ⟨b, off, rfl⟩
set_option maxRecDepth 100000 in
theorem arg_fops (hv : ∃ base, Value.okWide Try.prog W .any base 26 v) (hr : Rd Try.prog W 26 v.cells.toList) : ∃ a l n c, v = .slice a n c ∧ Ops W a l ∧ l.length = n := by
  obtain ⟨_, hv⟩ := hv
  obtain ⟨a, n, c, rfl⟩ := okWide_slice Try.underlying26 hv
  rcases hr.slice Try.underlying26 with h | ⟨a', n', c', h, hn, hm, hi⟩
  · simp [Value.cells] at h
    obtain ⟨rfl, rfl, rfl⟩ := h
    exact ⟨_, [], _, _, rfl, fun h => absurd h (by simp), rfl⟩
  · simp [Value.cells] at h
    obtain ⟨rfl, rfl, rfl⟩ := h
    obtain ⟨l, hl, hq⟩ := list_such (Q := fun i (p : FOp) => (W.cell? ((a'.add (i * 3)).add 0) = some (.int .u8 p.wh) ∧ W.cell? ((a'.add (i * 3)).add 1) = some (.int .u8 p.cp) ∧ W.cell? ((a'.add (i * 3)).add 2) = some (.int .u8 p.pk)) ∧ (0 ≤ p.wh ∧ p.wh < 256) ∧ (0 ≤ p.cp ∧ p.cp < 256) ∧ (0 ≤ p.pk ∧ p.pk < 256)) n fun i hi' => by
      obtain ⟨cs', h1, h2, h3⟩ := hi i (by omega)
      rw [cells56] at h1 h2
      obtain ⟨hl, hf⟩ := h3.struct Try.underlying56
      obtain ⟨x, hx, wx⟩ := (show Rd Try.prog W 5 ((cs'.drop 0).take (Try.prog.cellsOf 5)) from hf 0 _ rfl).int Try.underlying5
      obtain ⟨y, hy, wy⟩ := (show Rd Try.prog W 5 ((cs'.drop 1).take (Try.prog.cellsOf 5)) from hf 1 _ rfl).int Try.underlying5
      obtain ⟨z, hz, wz⟩ := (show Rd Try.prog W 5 ((cs'.drop 2).take (Try.prog.cellsOf 5)) from hf 2 _ rfl).int Try.underlying5
      rw [cells5] at hx hy hz
      have e := list3_of h1 hx hy hz
      subst e
      exact ⟨⟨x, y, z⟩, ⟨h2 0 (by omega), h2 1 (by omega), h2 2 (by omega)⟩, u8_wf wx, u8_wf wy, u8_wf wz⟩
    subst hl
    refine ⟨some a', l, _, c, rfl, fun h0 => ?_, rfl⟩
    have hc0 := (hq 0 _ (List.getElem?_eq_getElem h0)).1.1
    rw [show (a'.add (0 * 3)).add 0 = a'.add 0 by simp [Addr.add]] at hc0
    obtain ⟨b, off, rfl⟩ := spot_none hc0
    refine ⟨b, off, rfl, fun i p hp => ?_⟩
    obtain ⟨⟨h1, h2, h3⟩, hr⟩ := hq i p hp
    rw [add_row, add_row] at h1 h2 h3
    exact ⟨h1, h2, h3, hr⟩
set_option maxRecDepth 100000 in
theorem arg_u8 (hv : ∃ base, Value.okWide Try.prog W .any base 5 v) (hr : Rd Try.prog W 5 v.cells.toList) : ∃ n, v = .int .u8 n ∧ 0 ≤ n ∧ n < 256 := by
  obtain ⟨_, hv⟩ := hv
  obtain ⟨n, rfl⟩ := okWide_int Try.underlying5 hv
  obtain ⟨m, h, wm⟩ := hr.int Try.underlying5
  simp [Value.cells] at h
  subst h
  exact ⟨_, rfl, u8_wf wm⟩
end
end Go.Proofs.Ytdddkfpcbfgocaa
