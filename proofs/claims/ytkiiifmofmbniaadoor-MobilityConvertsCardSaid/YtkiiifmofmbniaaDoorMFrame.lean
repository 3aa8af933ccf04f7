/- What is the same in every row of this seat: the arguments opened; what the table holds. -/
import Derived.Test.YtkiiifmofmbniaaDoorRows
import Derived.Test.YtkiiifmofmbniaaDoorLift2
import Derived.Test.YtkiiifmofmbniaaDoorM20
namespace Go.Proofs.YtkiiifmofmbniaaDoor
open Go.ChangeShapes Go.WideShapes Go.ChangeAt Go.RowKit Go.Lift Go.Grow Go.Over Go.Mob
theorem own : ownKnob Tryd.prog.godebug = none := by kernel_rfl
theorem laidOut : laidOutB Tryd.prog = true := by kernel_rfl
theorem cells3 : Tryd.prog.cellsOf 3 = 1 := by kernel_rfl
theorem cells4 : Tryd.prog.cellsOf 4 = 1 := by kernel_rfl
theorem cells5 : Tryd.prog.cellsOf 5 = 1 := by kernel_rfl
theorem cells22 : Tryd.prog.cellsOf 22 = 1 := by kernel_rfl
theorem cells23 : Tryd.prog.cellsOf 23 = 5 := by kernel_rfl
theorem cells24 : Tryd.prog.cellsOf 24 = 15 := by kernel_rfl
theorem cells26 : Tryd.prog.cellsOf 26 = 17 := by kernel_rfl
theorem cells38 : Tryd.prog.cellsOf 38 = 3 := by kernel_rfl
theorem cells40 : Tryd.prog.cellsOf 40 = 2 := by kernel_rfl
theorem cells72 : Tryd.prog.cellsOf 72 = 4 := by kernel_rfl
theorem cells77 : Tryd.prog.cellsOf 77 = 2 := by kernel_rfl
theorem gFall : Tryd.prog.globalNamed "estovers/mobility.fallback" = some 0 := by kernel_rfl
theorem tFall : (Tryd.prog.globals[0]?).map (·.type) = some 78 := by kernel_rfl
theorem cells78 : Tryd.prog.cellsOf 78 = 6 := by kernel_rfl
abbrev laidL : List (String × DataW Unit) := [("estovers/mobility.fallback", Rows.laid_estovers_mobility_fallback)]
theorem two_of {W : World} {H : Type} {enc : TypeId × Value → H} {sp : Nat → Bool} {hd : Bool} {m : Nat} {l : List Value} {x : DataW H × List MemPlace} {a b : Int} (h : DataW.trod enc Tryd.prog W 0 sp hd m 77 l = some x) (hx : x.1 = .agg [.lit (.int .i64 a), .lit (.int .i64 b)]) : l = [.int .i64 a, .int .i64 b] := by
  obtain ⟨xs, m1, _, hx1, hlen, hn, hel⟩ := DataW.trod_array Tryd.underlying77 h
  have h0 := hel 0 (by decide)
  have h1 := hel 1 (by decide)
  rw [hx1] at hx
  match xs, hn, hx, h0, h1 with
  | [x0, x1], _, hx, h0, h1 =>
    simp only [List.map_cons, List.map_nil, DataW.agg.injEq, List.cons.injEq] at hx
    obtain ⟨k0, e0, f0, _⟩ := DataW.trod_int Tryd.underlying3 (show DataW.trod _ Tryd.prog W 0 _ _ m1 3 _ = some x0 from h0)
    obtain ⟨k1, e1, f1, _⟩ := DataW.trod_int Tryd.underlying3 (show DataW.trod _ Tryd.prog W 0 _ _ m1 3 _ = some x1 from h1)
    rw [f0, f1] at hx
    have g0 : k0 = a := by simpa using hx.1
    have g1 : k1 = b := by simpa using hx.2.1
    subst g0 g1
    rw [cells3] at e0 e1
    rw [cells77] at hlen
    match l, hlen with
    | [u, v], _ => simp at e0 e1; simp [e0, e1]
/-- What the condition says of the table. -/
theorem fb_of {W : World} (h : laidMetH Tryd.prog laidL W) : FB W := by
  rw [MakeChecks.laidMetH_plain _ _ _ (by kernel_rfl)] at h
  obtain ⟨ps, ⟨g0, t0, cs0, f0, p0, q0, hg0, ht0, hv0, hd0, _, _⟩, _⟩ := h
  obtain rfl := Option.some.inj (gFall.symm.trans hg0)
  obtain rfl := Option.some.inj (tFall.symm.trans ht0)
  obtain ⟨xs, m1, _, hx1, hlen, hn3, hel⟩ := DataW.trod_array Tryd.underlying78 hd0
  have h0 := hel 0 (by decide)
  have h1 := hel 1 (by decide)
  have h2 := hel 2 (by decide)
  simp only [Rows.laid_estovers_mobility_fallback, Prod.mk.injEq, DataW.agg.injEq] at hx1
  match xs, hn3, hx1, h0, h1, h2 with
  | [x0, x1, x2], _, hx1, h0, h1, h2 =>
    simp only [List.map_cons, List.map_nil, List.cons.injEq] at hx1
    have e0 := two_of (show DataW.trod _ Tryd.prog W 0 _ _ m1 77 _ = some x0 from h0) hx1.1.1.symm
    have e1 := two_of (show DataW.trod _ Tryd.prog W 0 _ _ m1 77 _ = some x1 from h1) hx1.1.2.1.symm
    have e2 := two_of (show DataW.trod _ Tryd.prog W 0 _ _ m1 77 _ = some x2 from h2) hx1.1.2.2.1.symm
    rw [cells77] at e0 e1 e2
    rw [cells78] at hlen
    have hc := fun i => World.var?_cell gFall hv0 i
    have hcs : cs0.toList = [.int .i64 2, .int .i64 1, .int .i64 2, .int .i64 0, .int .i64 1, .int .i64 0] := by
      obtain ⟨l⟩ := cs0
      match l, hlen with
      | [u0, u1, u2, u3, u4, u5], _ => simp at e0 e1 e2; simp [e0, e1, e2]
    have hcs2 : cs0 = #[.int .i64 2, .int .i64 1, .int .i64 2, .int .i64 0, .int .i64 1, .int .i64 0] := by
      rw [← Array.toList_inj]; exact hcs
    rw [hcs2] at hc
    exact ⟨hc 0, hc 1, hc 2, hc 3, hc 4, hc 5⟩
theorem u8_wf {x : Int} (h : (Lit.int .u8 x).wf = true) : 0 ≤ x ∧ x ≤ 255 := by
  simp [Lit.wf, IntKind.min, IntKind.max, IntKind.bits, IntKind.signed] at h
  omega
theorem i64_wf {x : Int} (h : (Lit.int .i64 x).wf = true) : -9223372036854775808 ≤ x ∧ x ≤ 9223372036854775807 := by
  simp [Lit.wf, IntKind.min, IntKind.max, IntKind.bits, IntKind.signed] at h
  omega
theorem okWide_array {P : Program} {w : World} {r : Reach} {base : Nat} {t e : TypeId} {n : Nat} {v : Value} (ht : P.underlying t = some (.array n e)) (h : Value.okWide P w r base t v) : ∃ cs, v = .agg cs ∧ cs.size = P.cellsOf t := by
  simp only [Value.okWide, ht] at h
  obtain ⟨cs, h1, h2, _⟩ := h
  exact ⟨cs, h1, h2⟩
theorem list_such {β : Type} {Q : Nat → β → Prop} : ∀ (n : Nat), (∀ i, i < n → ∃ x, Q i x) → ∃ l : List β, l.length = n ∧ ∀ i x, l[i]? = some x → Q i x
  | 0, _ => ⟨[], rfl, fun i x h => by simp at h⟩
  | n + 1, h => by
    obtain ⟨l, hl, hq⟩ := list_such n fun i hi => h i (by omega)
    obtain ⟨x, hx⟩ := h n (by omega)
    refine ⟨l ++ [x], by simp [hl], fun i y hy => ?_⟩
    rcases Nat.lt_or_ge i n with hi | hi
    · rw [List.getElem?_append_left (by omega)] at hy
      exact hq i y hy
    · rw [List.getElem?_append_right (by omega), hl] at hy
      have e : i - n = 0 := by
        rw [List.getElem?_eq_some_iff] at hy
        obtain ⟨h1, _⟩ := hy
        simp at h1; omega
      rw [e] at hy
      simp at hy
      subst hy
      have : i = n := by omega
      subst this; exact hx
theorem spot_none {a : Addr} {u : Value} {w : World} (h : w.cell? (a.add 0) = some u) : ∃ b off, a = ⟨b, off, none⟩ := by
  obtain ⟨b, off, spot⟩ := a
  have hspot : spot = none := by simpa [Addr.add] using World.cell?_spot h
  subst hspot
  exact ⟨b, off, rfl⟩
section
variable {W : World} {v : Value}
theorem rd_u8 {cs : List Value} (hr : Rd Tryd.prog W 5 cs) : ∃ n : Nat, cs = [.int .u8 (n : Int)] ∧ n < 256 := by
  obtain ⟨x, hx, wx⟩ := hr.int Tryd.underlying5
  obtain ⟨h1, h2⟩ := u8_wf wx
  exact ⟨x.toNat, by rw [hx, show ((x.toNat : Nat) : Int) = x by omega], by omega⟩
theorem arg_u3 (hv : ∃ base, Value.okWide Tryd.prog W .any base 38 v) (hr : Rd Tryd.prog W 38 v.cells.toList) : ∃ x y z : Nat, v = .agg #[.int .u8 x, .int .u8 y, .int .u8 z] ∧ x < 256 ∧ y < 256 ∧ z < 256 := by
  obtain ⟨_, hv⟩ := hv
  obtain ⟨cs, rfl, hsz⟩ := okWide_array Tryd.underlying38 hv
  replace hr : Rd Tryd.prog W 38 cs.toList := hr
  obtain ⟨hl, hf⟩ := hr.array Tryd.underlying38
  obtain ⟨x, hx, x1⟩ := rd_u8 (hf 0 (by decide))
  obtain ⟨y, hy, y1⟩ := rd_u8 (hf 1 (by decide))
  obtain ⟨z, hz, z1⟩ := rd_u8 (hf 2 (by decide))
  rw [cells5] at hx hy hz
  rw [cells38] at hl
  exact ⟨x, y, z, by rw [arr_of_list (list3_of hl hx hy hz)], x1, y1, z1⟩
theorem arg_u2 (hv : ∃ base, Value.okWide Tryd.prog W .any base 40 v) (hr : Rd Tryd.prog W 40 v.cells.toList) : ∃ x y : Nat, v = .agg #[.int .u8 x, .int .u8 y] ∧ x < 256 ∧ y < 256 := by
  obtain ⟨_, hv⟩ := hv
  obtain ⟨cs, rfl, hsz⟩ := okWide_array Tryd.underlying40 hv
  replace hr : Rd Tryd.prog W 40 cs.toList := hr
  obtain ⟨hl, hf⟩ := hr.array Tryd.underlying40
  obtain ⟨x, hx, x1⟩ := rd_u8 (hf 0 (by decide))
  obtain ⟨y, hy, y1⟩ := rd_u8 (hf 1 (by decide))
  rw [cells5] at hx hy
  rw [cells40] at hl
  exact ⟨x, y, by rw [arr_of_list (list2_of hl hx hy)], x1, y1⟩
theorem rd_ops {cs : List Value} (hr : Rd Tryd.prog W 39 cs) : ∃ a l c, cs = [.slice a l.length c] ∧ Ops W a l := by
  rcases hr.slice Tryd.underlying39 with rfl | ⟨a, n, c, rfl, hn, hm, hi⟩
  · exact ⟨none, [], 0, rfl, fun h => absurd h (by simp)⟩
  · obtain ⟨l, hl, hq⟩ := list_such (Q := fun i (p : Stp) => (W.cell? ((a.add (i * 4)).add 0) = some (.bool p.give) ∧ W.cell? ((a.add (i * 4)).add 1) = some (.int .u8 (p.order : Int)) ∧ W.cell? ((a.add (i * 4)).add 2) = some (.int .u8 (p.kind : Int)) ∧ W.cell? ((a.add (i * 4)).add 3) = some (.int .u8 (p.pick : Int))) ∧ p.order < 256 ∧ p.kind < 256 ∧ p.pick < 256) n fun i hi' => by
      obtain ⟨cs', h1, h2, h3⟩ := hi i (by omega)
      rw [cells72] at h1 h2
      obtain ⟨hl, hf⟩ := h3.struct Tryd.underlying72
      obtain ⟨x, hx⟩ := (show Rd Tryd.prog W 4 ((cs'.drop 0).take (Tryd.prog.cellsOf 4)) from hf 0 _ rfl).bool Tryd.underlying4
      obtain ⟨y, hy, y1⟩ := rd_u8 (show Rd Tryd.prog W 5 ((cs'.drop 1).take (Tryd.prog.cellsOf 5)) from hf 1 _ rfl)
      obtain ⟨z, hz, z1⟩ := rd_u8 (show Rd Tryd.prog W 5 ((cs'.drop 2).take (Tryd.prog.cellsOf 5)) from hf 2 _ rfl)
      obtain ⟨t, ht, t1⟩ := rd_u8 (show Rd Tryd.prog W 5 ((cs'.drop 3).take (Tryd.prog.cellsOf 5)) from hf 3 _ rfl)
      rw [cells4] at hx
      rw [cells5] at hy hz ht
      have e := list4_of h1 hx hy hz ht
      subst e
      exact ⟨⟨x, y, z, t⟩, ⟨h2 0 (by omega), h2 1 (by omega), h2 2 (by omega), h2 3 (by omega)⟩, y1, z1, t1⟩
    subst hl
    refine ⟨some a, l, c, rfl, fun h0 => ?_⟩
    have hc0 := (hq 0 _ (List.getElem?_eq_getElem h0)).1.1
    rw [show (a.add (0 * 4)).add 0 = a.add 0 by simp [Addr.add]] at hc0
    obtain ⟨b, off, rfl⟩ := spot_none hc0
    refine ⟨b, off, rfl, fun i p hp => ?_⟩
    obtain ⟨⟨h1, h2, h3, h4⟩, h5⟩ := hq i p hp
    rw [add_row, add_row] at h1 h2 h3 h4
    exact ⟨h1, h2, h3, h4, h5⟩
theorem arg_ops (hv : ∃ base, Value.okWide Tryd.prog W .any base 39 v) (hr : Rd Tryd.prog W 39 v.cells.toList) : ∃ a l n c, v = .slice a n c ∧ Ops W a l ∧ l.length = n := by
  obtain ⟨_, hv⟩ := hv
  obtain ⟨a, n, c, rfl⟩ := okWide_slice Tryd.underlying39 hv
  obtain ⟨a', l, c', h, h2⟩ := rd_ops hr
  simp [Value.cells] at h
  obtain ⟨rfl, rfl, rfl⟩ := h
  exact ⟨_, l, _, _, rfl, h2, rfl⟩
theorem arg_int (hv : ∃ base, Value.okWide Tryd.prog W .any base 3 v) (hr : Rd Tryd.prog W 3 v.cells.toList) : ∃ n, v = .int .i64 n ∧ -9223372036854775808 ≤ n ∧ n ≤ 9223372036854775807 := by
  obtain ⟨_, hv⟩ := hv
  obtain ⟨n, rfl⟩ := okWide_int Tryd.underlying3 hv
  obtain ⟨m, h, wm⟩ := hr.int Tryd.underlying3
  simp [Value.cells] at h
  subst h
  exact ⟨_, rfl, i64_wf wm⟩
theorem rd_ints {cs : List Value} (hr : Rd Tryd.prog W 22 cs) : ∃ u l, cs = [u] ∧ Sl W u l ∧ ∀ x ∈ l, -9223372036854775808 ≤ x ∧ x ≤ 9223372036854775807 := by
  obtain ⟨a, n, c, f, rfl, h1, h2, h3, h4, _, hwf⟩ := hr.ints Tryd.underlying22 Tryd.underlying3 cells3
  have hl : ((List.range n).map f).length = n := by simp
  refine ⟨_, (List.range n).map f, rfl, ⟨a, c, by rw [hl], by rw [hl]; exact h1, h2, h3, fun h0 => ?_⟩, fun x hx => ?_⟩
  · rw [hl] at h0
    obtain ⟨b, off, rfl, hc⟩ := h4 h0
    refine ⟨b, off, rfl, fun i hi => ?_⟩
    rw [hl] at hi
    rw [hc i hi]
    simp [hi]
  · obtain ⟨i, hi, rfl⟩ := List.mem_map.1 hx
    exact i64_wf (hwf i (List.mem_range.1 hi))
theorem arg_ints (hv : ∃ base, Value.okWide Tryd.prog W .any base 22 v) (hr : Rd Tryd.prog W 22 v.cells.toList) : ∃ l, Sl W v l ∧ ∀ x ∈ l, -9223372036854775808 ≤ x ∧ x ≤ 9223372036854775807 := by
  obtain ⟨_, hv⟩ := hv
  obtain ⟨a, n, c, rfl⟩ := okWide_slice Tryd.underlying22 hv
  obtain ⟨u, l, h, h1, h2⟩ := rd_ints hr
  simp [Value.cells] at h
  subst h
  exact ⟨l, h1, h2⟩
theorem drop_take_one {α : Type} {l : List α} {i : Nat} {u : α} (h : (l.drop i).take 1 = [u]) : l[i]? = some u := by
  have h1 : ((l.drop i).take 1)[0]? = some u := by rw [h]; rfl
  rw [List.getElem?_take_of_lt (by decide), List.getElem?_drop, Nat.add_zero] at h1
  exact h1
/-- Numbers that a machine holds. -/
def Fit (p : P) : Prop := (-9223372036854775808 ≤ p.st ∧ p.st ≤ 9223372036854775807) ∧ (∀ x ∈ p.ty, -9223372036854775808 ≤ x ∧ x ≤ 9223372036854775807) ∧ ∀ i, i < 15 → ∀ x ∈ p.fr i, -9223372036854775808 ≤ x ∧ x ≤ 9223372036854775807
theorem arg_pb (hv : ∃ base, Value.okWide Tryd.prog W .any base 26 v) (hr : Rd Tryd.prog W 26 v.cells.toList) : ∃ p, Rpv W v p ∧ Fit p := by
  obtain ⟨_, hv⟩ := hv
  obtain ⟨cs, rfl, hsz⟩ := okWide_struct Tryd.underlying26 hv
  replace hr : Rd Tryd.prog W 26 cs.toList := hr
  obtain ⟨hl, hf⟩ := hr.struct Tryd.underlying26
  obtain ⟨st, hst, wst⟩ := (show Rd Tryd.prog W 3 ((cs.toList.drop 0).take (Tryd.prog.cellsOf 3)) from hf 0 _ rfl).int Tryd.underlying3
  obtain ⟨u, ty, hu, hty, wty⟩ := rd_ints (show Rd Tryd.prog W 22 ((cs.toList.drop 1).take (Tryd.prog.cellsOf 22)) from hf 1 _ rfl)
  obtain ⟨_, hg⟩ := (show Rd Tryd.prog W 24 ((cs.toList.drop 2).take (Tryd.prog.cellsOf 24)) from hf 2 _ rfl).array Tryd.underlying24
  rw [cells26] at hl
  rw [cells3] at hst
  rw [cells22] at hu
  rw [cells23, cells24] at hg
  have hfr : ∀ i, ∃ q : List Int, i < 15 → ∃ u, cs.toList[2 + i]? = some u ∧ Sl W u q ∧ ∀ x ∈ q, -9223372036854775808 ≤ x ∧ x ≤ 9223372036854775807 := fun i => by
    by_cases hi : i < 15
    · obtain ⟨_, hk⟩ := (hg (i / 5) (by omega)).array Tryd.underlying23
      rw [cells22] at hk
      obtain ⟨u', q, h1, h2, h3⟩ := rd_ints (hk (i % 5) (by omega))
      refine ⟨q, fun _ => ⟨u', ?_, h2, h3⟩⟩
      have := drop_take_one h1
      rw [Nat.mul_one, List.getElem?_take_of_lt (by omega), List.getElem?_drop, List.getElem?_take_of_lt (by omega), List.getElem?_drop] at this
      rw [← this]
      congr 1
      omega
    · exact ⟨[], fun h => absurd h hi⟩
  obtain ⟨fr, hfr⟩ := Classical.axiomOfChoice hfr
  refine ⟨⟨st, ty, fr⟩, ⟨cs.toList, by simp, hl, drop_take_one hst, ⟨u, drop_take_one hu, hty⟩, fun i hi => ?_⟩, i64_wf wst, wty, fun i hi => ?_⟩
  · obtain ⟨u', h1, h2, _⟩ := hfr i hi
    exact ⟨u', h1, h2⟩
  · obtain ⟨u', _, _, h3⟩ := hfr i hi
    exact h3
end
set_option maxRecDepth 100000 in
/-- The door's own heap meets the condition. -/
theorem door_met (os : Os) (args : Array Value) : laidMetH Tryd.prog laidL ((World.doorLaid Tryd.prog 17 os).forCall (fun _ _ => 0) ⟨#[], args, []⟩).memory :=
  laidMetH_of_parts3 (fuel := 8) (laidMet_of_run' 8 (by kernel_rfl) (by kernel_rfl)) (by kernel_rfl) (by kernel_rfl)
theorem met_heap (w w' : World) (hh : w.heap = w'.heap) (h : laidMetH Tryd.prog laidL w) : laidMetH Tryd.prog laidL w' := h.of_heap hh
end Go.Proofs.YtkiiifmofmbniaaDoor
