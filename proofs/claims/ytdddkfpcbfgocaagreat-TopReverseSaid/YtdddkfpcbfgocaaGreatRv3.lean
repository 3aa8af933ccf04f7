/- Walks: Clear of a page table. Walks: an empty page table; all entries of a page table. Walks: mappings are compared; a list of mappings is checked. Walks: the order of mappings; valid mappings; a list of mappings is checked. Walks: a list of mappings that is in order is checked. Walks: a search in a list of mappings. Walks: slices.Clone, slices.Insert and slices.Delete of mappings. Walks: Add, Remove and Drop of reverse maps. Walks: Add, Remove and Drop of reverse maps (continued). Walks: lists of mappings are equal. Walks: rows of lists of mappings are equal; what a page table names is handed to a function. Walks: the pages of a space are put into the lists of their frames. Walks: Inverse of tables and lists that agree. Walks: Inverse. Walks: the frame of a page of the tables. -/
import Derived.Laws.StructEq
import Derived.Test.YtdddkfpcbfgocaaGreatRv2
import Derived.Test.YtdddkfpcbfgocaaGreatRv0
namespace Go.Pt
def posI (a b c i : Nat) : Nat := if i = 0 then a else if i = 1 then b else c
/-- The steps of a walk that comes to a page's entry. -/
theorem Pth.full {r : Int} {N : List Nd} {mid low : Nat → Option Int} {ent : Nat → En} {p : Nat} {L : List St} {fm fl : Int} (h : Pth r N mid low ent p L) (hm : mid (p / 64) = some fm) (hl : low (p / 8) = some fl) :
    ∃ a b c, (∀ i, i ≤ 2 → ∃ x, N[posI a b c i]? = some x ∧ x.f = frI r fm fl i) ∧ L = [⟨a, 2, ⟨4, fm, false⟩⟩, ⟨b, 1, ⟨4, fl, false⟩⟩, ⟨c, 0, ent p⟩] := by
  rcases h.h with ⟨a, x, h1, h2, h3, _⟩ | ⟨a, x, b, y, f, h1, h2, h3, h4, h5, h6, _⟩ | ⟨a, x, b, y, f, c, z, k, h1, h2, h3, h4, h5, h6, h7, h8, rfl⟩
  · rw [hm] at h3; cases h3
  · rw [hl] at h6; cases h6
  · rw [hm] at h3; cases h3
    rw [hl] at h6; cases h6
    refine ⟨a, b, c, fun i hi => ?_, rfl⟩
    match i, hi with
    | 0, _ => exact ⟨x, h1, h2⟩
    | 1, _ => exact ⟨y, h4, h5⟩
    | 2, _ => exact ⟨z, h7, h8⟩
end Go.Pt
namespace Go.Proofs.YtdddkfpcbfgocaaGreat
open Go.RowKit Go.Over Go.Seg Go.Grow Go.Pt
theorem infoW : (Tryz.prog.info? 181).map (·.size) = some 8 := by kernel_rfl
/-- The words of a node. -/
def wdsC (x : Nd) : List Value := [.int .u64 (wd (x.e 0)), .int .u64 (wd (x.e 1)), .int .u64 (wd (x.e 2)), .int .u64 (wd (x.e 3)), .int .u64 (wd (x.e 4)), .int .u64 (wd (x.e 5)), .int .u64 (wd (x.e 6)), .int .u64 (wd (x.e 7))]
theorem wdsC_len (x : Nd) : (wdsC x).length = 8 := rfl
theorem NV.words {w : World} {b i : Nat} {ns : List Value} {N : List Nd} {x : Nd} (h : NV w b ns N) (hx : N[i]? = some x) : ∀ j v, (wdsC x)[j]? = some v → ns[i * 9 + 1 + j]? = some v := fun j v hv => by
  rw [Nat.add_assoc, Nat.add_comm 1 j]
  exact h.row i x hx (j + 1) v hv
theorem part_w (xs : Array Value) (i : Nat) (v : Value) (h : xs[i]? = some v) (w : World) : (part 127 xs i).run Tryz.prog w = .ok v w := by
  have hA : ∀ w, (isAgg 127).run Tryz.prog w = .ok false w := fun w => Tryz.isAgg127 w
  simp [part, hA, h]
set_option maxHeartbeats 1000000 in
theorem eqAtD (D : Nat) (hE : ∀ (a b : Int) (w : World), (Op.equalIn D 127 (.int .u64 a) (.int .u64 b)).run Tryz.prog w = .ok (a == b) w) (xs ys : Array Value) (A B : Nat → Int) (hx : ∀ i, i < 8 → xs[i]? = some (.int .u64 (A i)) ∧ ys[i]? = some (.int .u64 (B i))) (W : World) : (Op.equalIn (D + 1) 181 (.agg xs) (.agg ys)).run Tryz.prog W = .ok ((List.range 8).all fun i => A i == B i) W := by
  have hS : ∀ w, (sizeOf 127).run Tryz.prog w = .ok 1 w := fun w => Tryz.sizeOf127 w
  have hr : List.range' 0 [:8].size = List.range 8 := rfl
  simp only [Op.equalIn, Sem.run_bind, run_underlying Tryz.underlying181, Result.andThen_ok, hS, Std.Legacy.Range.forIn_eq_forIn_range', hr]
  have hx' : ∀ i ∈ List.range 8, xs[i]? = some (.int .u64 (A i)) ∧ ys[i]? = some (.int .u64 (B i)) := fun i hi => hx i (List.mem_range.1 hi)
  generalize List.range 8 = l at hx'
  clear hr hx
  induction l with
  | nil => simp
  | cons i l ih =>
    obtain ⟨h1, h2⟩ := hx' i (by simp)
    have ih := ih fun j hj => hx' j (by simp [hj])
    simp only [List.forIn_cons, Sem.run_bind, Nat.mul_one, part_w xs i _ h1, part_w ys i _ h2, Result.andThen_ok, hE, List.all_cons]
    cases hq : (A i == B i) with
    | true =>
      simp only [Bool.not_true, Bool.false_eq_true, if_false, Sem.run_pure, Result.andThen_ok, Bool.true_and]
      simpa only [Nat.mul_one, Sem.run_bind] using ih
    | false =>
      simp [Sem.run_pure, Result.andThen_ok]
theorem eqAt8 (x : Nd) (W : World) : (Op.equalIn 10000 181 (.agg (wdsC x).toArray) (.agg #[.int .u64 0, .int .u64 0, .int .u64 0, .int .u64 0, .int .u64 0, .int .u64 0, .int .u64 0, .int .u64 0])).run Tryz.prog W = .ok (allZ x) W := by
  refine (eqAtD 9999 (fun a b w => run_equalIn_int w 9998 127 .u64 .u64 a b Tryz.underlying127) _ _ (fun i => wd (x.e i)) (fun _ => 0) (fun i hi => ?_) W).trans ?_
  · match i, hi with
    | 0, _ => exact ⟨rfl, rfl⟩
    | 1, _ => exact ⟨rfl, rfl⟩
    | 2, _ => exact ⟨rfl, rfl⟩
    | 3, _ => exact ⟨rfl, rfl⟩
    | 4, _ => exact ⟨rfl, rfl⟩
    | 5, _ => exact ⟨rfl, rfl⟩
    | 6, _ => exact ⟨rfl, rfl⟩
    | 7, _ => exact ⟨rfl, rfl⟩
  · congr 1
theorem resPT3 {fn : Func} {p q1 q2 q3 : Tmp} (h : fn.results = #[.cell p 120, .tmp q1, .tmp q2, .tmp q3]) (tmps : Array Value) (w : World) (g : Nat) (cs : List Value) (v1 v2 v3 : Value) (hp : tmps.getD p undef = .pointer (some ⟨g, 0, none⟩)) (hg : Blk w g 120 cs) (hl : cs.length = 3) (h1 : tmps.getD q1 undef = v1) (h2 : tmps.getD q2 undef = v2) (h3 : tmps.getD q3 undef = v3) :
    (results fn tmps).run Tryz.prog w = .ok (.tuple #[.agg cs.toArray, v1, v2, v3]) w := by
  have hp' : tmps[p]?.getD undef = .pointer (some ⟨g, 0, none⟩) := by simpa using hp
  have h1' : tmps[q1]?.getD undef = v1 := by simpa using h1
  have h2' : tmps[q2]?.getD undef = v2 := by simpa using h2
  have h3' : tmps[q3]?.getD undef = v3 := by simpa using h3
  have hl := run_loadVar_row (P := Tryz.prog) w g 120 120 cs.toArray (0, 0) _ hg Tryz.underlying120 rfl (by rw [infoPT]; simp [hl])
  simp [results, h, hp', h1', h2', h3', asAddr, hl]
def SFin (gt : Nat) (r : Int) (b n c g10 gf : Nat) (W0 : Int) (vF : Value) (U : World) : Prop := Blk U gt 120 (ptC r b n c) ∧ U.cell? ⟨g10, 2, none⟩ = some (.int .u64 W0) ∧ U.cell? ⟨gf, 0, none⟩ = some vF
section
variable {ops : Array Oper} {rest : List Oper} {d i j : Nat} {ty : TypeId} {pos : String} {af : Array Edge} {a : Act} {w : World} {Q : Exit → Act → World → Prop}
/-- One number is appended to a row of a call's own. -/
theorem wpList_appI {base b : Nat} {v : Value} {l : List Int} {x : Int} (hs : a.eval (.tmp i) = v) (hx : a.eval (.tmp j) = .slice (some ⟨b, 0, none⟩) 1 1) (hO : Own w base v l) (hB : Blk w b 3 [.int .i64 x]) (hl : l.length ≤ 900000) (hb : base ≤ w.heap.size)
    (h : ∀ v' w', Own w' base v' (l ++ [x]) → w.grownBy w' v.ownBlock → wpList Tryz.prog ops Q rest (a.put (some d) v') w') :
    wpList Tryz.prog ops Q ({ dst := some d, op := .call { callee := .builtin .append, args := #[.tmp i, .tmp j], argTypes := #[24, 24] }, type := ty, pos := pos, after := af, guard := none } :: rest) a w := by
  refine wpList_append_k K22 rfl (.tmp i) (.tmp j) rfl v l.length (nums l) hs hO (some ⟨b, 0, none⟩) 1 1 [.int .i64 x] hx ⟨rfl, by simp [Value.oneCell'], .inr ⟨_, rfl, fun k u hk => ?_⟩⟩ (by omega) hb fun v' w' q1 q2 _ => h v' w' ?_ q2
  · rw [add_off, Nat.zero_add, hB.cell]; exact hk
  · unfold Own
    have e1 : (l ++ [x]).length = l.length + 1 := by simp
    have e2 : nums (l ++ [x]) = nums l ++ [.int .i64 x] := by simp [nums]
    rw [e1, e2]
    exact q1
end
def S17 (gf b o : Nat) (vF : Value) (f : Int) (U : World) : Prop := U.cell? ⟨gf, 0, none⟩ = some vF ∧ U.cell? ⟨b, o, none⟩ = some (.int .i64 f)
/-- What Clear gives. -/
def ClearAns (w : World) (r : Int) (ent : Nat → En) (N0 : List Nd) (e : Ending) (w' : World) : Prop :=
  ∃ b n c ns N mid low v5 v6, e = .returned (.tuple #[.agg #[.int .i64 r, .slice (some ⟨b, 0, none⟩) n c, .slice none 0 0], v5, v6, .int .i64 0]) ∧ TV w' r b n c ns N mid low ent ∧ (∀ x ∈ N, x.f ∈ N0.map (·.f)) ∧ w.heap.size ≤ b ∧ Below w.heap.size w w'
set_option maxRecDepth 100000 in set_option maxHeartbeats 3200000 in
theorem clear (r : Int) (b n c : Nat) (ns : List Value) (N : List Nd) (mid low : Nat → Option Int) (ent : Nat → En) (p : Nat) (w : World) (H : TV w r b n c ns N mid low ent) (hp : p < 512) (hk : (ent p).k = 1) :
    Calls Tryz.prog 69 #[.agg #[.int .i64 r, .slice (some ⟨b, 0, none⟩) n c, .slice none 0 0], .int .i64 p] w (ClearAns w r (upd ent p e0) N) := by
  have b0 := below_box w (.cells #[.int .i64 r, .slice (some ⟨b, 0, none⟩) n c, .slice none 0 0] 120)
  have X0 := PX.new (r := r) (c := c) (n := n) H.nv
  have b1 := below_box (w.alloc (.cells #[.int .i64 r, .slice (some ⟨b, 0, none⟩) n c, .slice none 0 0] 120)) (.cells #[.int .i64 0, .slice none 0 0, .slice none 0 0] 120)
  have X1 := X0.below b1
  have z1 := Blk.new (w.alloc (.cells #[.int .i64 r, .slice (some ⟨b, 0, none⟩) n c, .slice none 0 0] 120)) 120 #[.int .i64 0, .slice none 0 0, .slice none 0 0] _ rfl
  have s1 : (w.alloc (.cells #[.int .i64 r, .slice (some ⟨b, 0, none⟩) n c, .slice none 0 0] 120)).heap.size = w.heap.size + 1 := by simp
  rw [s1] at z1
  obtain ⟨fl, hl⟩ : ∃ fl, low (p / 8) = some fl := by
    cases hq : low (p / 8) with
    | some f => exact ⟨f, rfl⟩
    | none => exact absurd hq (H.tr.up2 p hp (by omega))
  obtain ⟨fm, hm⟩ : ∃ fm, mid (p / 64) = some fm := by
    cases hq : mid (p / 64) with
    | some f => exact ⟨f, rfl⟩
    | none => exact absurd hq (by rw [show p / 64 = p / 8 / 8 by omega]; exact H.tr.up1 _ (by omega) (by rw [hl]; simp))
  have HH := Lib.hid H; have HM := Lib.hid hm; have HL := Lib.hid hl; have HK := Lib.hid hk
  clear H hm hl hk b0 b1 X0 s1
  go_enter Tryz.func69, Tryz.ntmps69
  go_upto_region 1 with fail
  obtain ⟨w1, hw1⟩ : ∃ W, W = (w.alloc (.cells #[.int .i64 r, .slice (some ⟨b, 0, none⟩) n c, .slice none 0 0] 120)).alloc (.cells #[.int .i64 0, .slice none 0 0, .slice none 0 0] 120) := ⟨_, rfl⟩
  rw [← hw1] at X1 z1 ⊢
  obtain ⟨g4, hg4⟩ : ∃ g, w.heap.size + 1 = g := ⟨_, rfl⟩
  have l4 : w.heap.size ≤ g4 := by omega
  rw [hg4] at z1 ⊢
  obtain ⟨g, hg⟩ : ∃ g, w.heap.size = g := ⟨_, rfl⟩
  have X1 : PX w g r b n c ns N w1 := by rw [← hg]; exact X1
  rw [hg]
  clear hw1 hg hg4
  have HCK := Lib.hid (checked r b n c ns N mid low ent p w1 ⟨X1.v, HH.out.ln, HH.out.tr⟩ hp)
  go_wp2_with ((with_reducible refine ldPT ?_ X1.x ?_); (focus rfl))
  refine HCK.out.mono ?_
  rintro e w2 ⟨rfl, b2⟩
  have X2 := X1.below b2
  have z2 := z1.later b2
  clear X1 b2 HCK z1
  have HPA := Lib.hid (path r b n c ns N mid low ent p w2 X2.v HH.out.ln (by have := HH.out.le; omega) HH.out.tr hp)
  go_wp2_with ((with_reducible refine ldPT ?_ X2.x ?_); (focus rfl))
  refine HPA.out.mono ?_
  rintro e w3 ⟨vL, L, rfl, hP, O3, b3⟩
  have X3 := X2.below b3
  have z3 := z2.later b3
  clear X2 z2 b3 HPA
  obtain ⟨a0, a1, a2, hpos, hL⟩ := hP.full HM.out HL.out
  have hlen : L.length = 3 := by rw [hL]; rfl
  obtain ⟨BL, cp, zs, rfl, hBB, _, _, hzs, hrow⟩ := own_blk O3 (by omega)
  rw [hlen]
  have HPOS := Lib.hid hpos
  have hc : ∀ i, i ≤ 2 → zs[i * 3]? = some (.int .i64 (posI a0 a1 a2 i : Nat)) ∧ zs[i * 3 + 1]? = some (.int .i64 (2 - i : Nat)) := fun i hi => by
    match i, hi with
    | 0, _ => exact ⟨hrow 0 _ (by rw [hL]; rfl), hrow 1 _ (by rw [hL]; rfl)⟩
    | 1, _ => exact ⟨hrow 3 _ (by rw [hL]; rfl), hrow 4 _ (by rw [hL]; rfl)⟩
    | 2, _ => exact ⟨hrow 6 _ (by rw [hL]; rfl), hrow 7 _ (by rw [hL]; rfl)⟩
  have hst : ∀ j u, (stepC ⟨a2, 0, ent p⟩)[j]? = some u → zs[2 * 3 + j]? = some u := fun j u hu => by
    refine hrow _ u ?_
    have hj : j < 3 := by rw [List.getElem?_eq_some_iff] at hu; exact hu.1
    rw [hL]
    match j, hj, hu with
    | 0, _, hu => exact hu
    | 1, _, hu => exact hu
    | 2, _, hu => exact hu
  have HC := Lib.hid hc; have HST := Lib.hid hst
  have hz := Blk.new w3 186 #[.int .i64 0, .int .i64 0, .int .u64 0] _ rfl
  have bz := below_box w3 (.cells #[.int .i64 0, .int .i64 0, .int .u64 0] 186)
  clear hst hrow hc hlen hL hP O3 hpos
  go_upto_region 6 with first | ((with_reducible refine ldSt (off := 6) (s := ⟨a2, 0, ent p⟩) ?_ hzs HST.out ?_); (focus rfl)) | ((with_reducible refine stSt (s := ⟨a2, 0, ent p⟩) ?_ ?_ hz rfl ?_); (focus rfl); (focus rfl); intro w4 hB4 hg4)
  have b4 : Below w3.heap.size w3 w4 := bz.grown hg4 bz.size (fun q hq => by cases hq; exact Nat.le_refl _)
  have X4 := X3.below b4
  have z4 := z3.later b4
  have hzs4 := hzs.later b4
  have d1 : w4.cell? ⟨w3.heap.size, 1, none⟩ = some (.int .i64 0) := by rw [hB4.cell]; rfl
  have d2 : w4.cell? ⟨w3.heap.size, 2, none⟩ = some (.int .u64 (wd (ent p))) := by rw [hB4.cell]; rfl
  obtain ⟨g10, hg10⟩ : ∃ q, w3.heap.size = q := ⟨_, rfl⟩
  rw [hg10] at d1 d2 hB4 ⊢
  have tW : (wd (ent p) == 0) = false := by
    have := (HH.out.tr.ve p hp).zero
    rw [HK.out] at this
    simpa using this
  obtain ⟨W0, hW0⟩ : ∃ q, wd (ent p) = q := ⟨_, rfl⟩
  have HW0 := Lib.hid hW0
  rw [hW0] at d2 tW
  clear X3 z3 b4 hg4 hz bz hg10 hzs hW0
  have hn0 : 0 < n := by
    obtain ⟨x, hx, _⟩ := HH.out.tr.root
    rw [← HH.out.ln]; exact List.length_pos_of_mem hx
  have HCL := Lib.hid (clonePT r b n c ns N w4 X4.v HH.out.ln (by have := HH.out.le; omega) hn0)
  try simp only [Act.put]
  go_wp2_with ((with_reducible refine ldPT ?_ X4.x ?_); (focus rfl))
  refine HCL.out.mono ?_
  rintro e w5 ⟨b', c', rfl, O5, b5⟩
  rw [HH.out.ln] at O5 ⊢
  have hu4 := X4.u
  clear X4 HCL d1 d2 tW
  have hz := Blk.new w5 120 #[.int .i64 0, .slice none 0 0, .slice none 0 0] _ rfl
  have bz := below_box w5 (.cells #[.int .i64 0, .slice none 0 0, .slice none 0 0] 120)
  go_upto_region 9 with ((with_reducible refine stPT (r := r) (b := b') (n := n) (c := c') ?_ ?_ hz rfl ?_); (focus rfl); (focus rfl); intro w6 hB6 hg6)
  have b6 : Below w5.heap.size w5 w6 := bz.grown hg6 bz.size (fun q hq => by cases hq; exact Nat.le_refl _)
  have P6 : PO w4 w5.heap.size r b' n c' N w6 := ⟨below_then b5 b6, b5.size, hB6, own_later O5 b6, HH.out.ln⟩
  obtain ⟨gt, hgt⟩ : ∃ q, w5.heap.size = q := ⟨_, rfl⟩
  rw [hgt] at P6 ⊢
  clear b6 hB6 hg6 hz bz hgt O5 b5
  try simp only [Act.put]
  go_upto_region 10 with fail
  have b7 := below_box w6 (.cells #[.slice none 0 0] 24)
  have y7 := Blk.new w6 24 #[.slice none 0 0] _ rfl
  have P7 := P6.below b7
  have l7 : w4.heap.size ≤ w6.heap.size := P6.u.size
  obtain ⟨w7, hw7⟩ : ∃ V, V = w6.alloc (.cells #[.slice none 0 0] 24) := ⟨_, rfl⟩
  obtain ⟨gf, hgf⟩ : ∃ q, w6.heap.size = q := ⟨_, rfl⟩
  rw [← hw7] at P7 y7 ⊢
  rw [hgf] at y7 l7 ⊢
  clear P6 b7 hw7 hgf
  have d1 : w7.cell? ⟨g10, 1, none⟩ = some (.int .i64 0) := by rw [(hB4.later P7.u).cell]; rfl
  go_wp2
  go_loopg [13] 2 (fun gg v13 wr => ∃ (C : List Nd) (F : List Int) (vF : Value), v13 = .int .i64 gg ∧ ClrS N low ent p fm fl gg C F ∧ PO w4 gt r b' n c' C wr ∧ Blk wr gf 24 [vF] ∧ Own wr w4.heap.size vF F)
  case atStart => exact ⟨N, [], _, rfl, ⟨.inl ⟨rfl, rfl, rfl⟩⟩, P7, y7, Own.nil _ _⟩
  case round =>
    clear P7 y7 d1
    obtain ⟨C, F, vF, rfl, hS, P8, y8, O8⟩ := hrel
    obtain ⟨hF2, hi2⟩ := hS.flen
    obtain ⟨x0, hx0, hxf0⟩ := HPOS.out gk hi2
    obtain ⟨x, hx, hxf⟩ := hS.at hx0
    rw [hxf0] at hxf
    obtain ⟨q, hq⟩ : ∃ q, posI a0 a1 a2 gk = q := ⟨_, rfl⟩
    obtain ⟨hc0, hc1⟩ := HC.out gk hi2
    rw [hq] at hx0 hx hc0
    have hqn : q < n := by rw [← HH.out.ln]; exact (List.getElem?_eq_some_iff.1 hx0).1
    have hz8 := hzs4.later P8.u
    have k0 : wr.cell? ⟨BL, gk * 3, none⟩ = some (.int .i64 q) := by rw [hz8.cell]; exact hc0
    have k1 : wr.cell? ⟨BL, gk * 3 + 1, none⟩ = some (.int .i64 (2 - gk : Nat)) := by rw [hz8.cell]; exact hc1
    have HX := Lib.hid hx; have HXF := Lib.hid hxf; have HS := Lib.hid hS
    have c1 := P8.c1
    have e0 := over_cell k0; have e1 := over_cell c1
    clear hx0 hx hxf hc0 hc1 hS hq hz8 k0 c1 hxf0
    go_upto_region 14 with fail
    refine wp_region_over (by kernel_rfl) (by kernel_rfl) ?_
    repeat (go_big_quiet_step (fail))
    refine wpQuiet_nil ?_
    rintro _ ⟨u, rfl⟩
    have P9 := P8.below (below_over wr u)
    have y9 := y8.later (below_over wr u)
    have O9 := O8.later (below_over wr u)
    have k1 := over_cell k1 u
    obtain ⟨w9, hw9⟩ : ∃ V, V = over wr u := ⟨_, rfl⟩
    rw [← hw9] at P9 y9 O9 k1 ⊢
    clear P8 y8 O8 e0 e1 hw9
    go_upto_region 15 with fail
    have hgb : BL ≠ b' := by have := P9.bl.1; have := hzs4.lt; omega
    refine wp_region_plan (fun U => U.cell? ⟨BL, gk * 3 + 1, none⟩ = some (.int .i64 (2 - gk : Nat))) (.quiet [0, 1, 2, 3, 4, 5, 6, 8, 9] (.only 7 (.quiet [10] (.only 11 .done)))) 99 (by kernel_rfl) (by kernel_rfl) k1 ?_
    intro W2 hWW hWe
    have bW : Below w9.heap.size w9 W2 := by rw [hWe]; exact (Below.refl _ _).drew
    clear hWe k1
    have P10 := P9.below bW
    have y10 := y9.later bW
    have O10 := O9.later bW
    clear P9 y9 O9 bW
    simp only [wpPlan, inOrder, List.filterMap_cons, List.filterMap_nil, List.getElem?_cons_zero, List.getElem?_cons_succ]
    have q1 := fun z => hold_ok (S0 := fun U => U.cell? ⟨BL, gk * 3 + 1, none⟩ = some (.int .i64 (2 - gk : Nat))) hWW z
    show wpQuiet _ _ _ _ (_ :: _ :: _ :: _ :: _ :: _ :: _ :: _ :: [_]) _
    repeat (go_big_quiet_step (fail))
    refine wpQuiet_nil ?_
    have hdg := dgP_lt p (2 - gk)
    have HDP := Lib.hid (dgP_eq p (2 - gk))
    rw [dgP_eq] at hdg
    have HDG := Lib.hid (digit p (2 - gk) hp (by omega) W2)
    obtain ⟨D, hD⟩ : ∃ D, dg p (2 - gk) = D := ⟨_, rfl⟩
    rw [hD] at hdg HDG HDP
    clear hD
    show wpList _ _ _ [_] _ _
    go_wp2_with fail
    refine HDG.out.mono ?_
    rintro e _ ⟨rfl, rfl⟩
    go_wp2
    refine ⟨hold_of (S0 := fun U => U.cell? ⟨BL, gk * 3 + 1, none⟩ = some (.int .i64 (2 - gk : Nat))) hWW, ?_⟩
    clear HDG
    show wpQuiet _ _ _ _ ([_]) _
    repeat (go_big_quiet_step (fail))
    refine wpQuiet_nil ?_
    clear q1
    obtain ⟨ns', hN5⟩ := P10.nv hn0
    have cw := hN5.word HX.out hdg
    have fw := hN5.x.frozen (q * 9 + 1 + D)
    have P11 := P10.word (e := e0) HX.out hdg
    have y11 := y10.far (p := ⟨b', q * 9 + 1 + D, none⟩) (by simpa using y10.ne_type hN5.x (by decide)) (.int .u64 (wd e0))
    have O11 : Own (W2.setCell ⟨b', q * 9 + 1 + D, none⟩ (.int .u64 (wd e0))) w4.heap.size vF F := World.ownsRow.kept O10 (set_grown (refl_grown _ _)) (.inr (hN5.x.not_own O10 (by decide)))
    have hS11 : (W2.setCell ⟨b', q * 9 + 1 + D, none⟩ (.int .u64 (wd e0))).cell? ⟨BL, gk * 3 + 1, none⟩ = some (.int .i64 (2 - gk : Nat)) := by
      have := (hzs4.later P11.u).cell (gk * 3 + 1)
      rw [this]; exact (HC.out gk hi2).2
    rw [show wd e0 = 0 from rfl] at P11 y11 O11 hS11
    have HP := Lib.hid P11; have HY := Lib.hid y11; have HO := Lib.hid O11; have HS11 := Lib.hid hS11
    clear P10 y10 O10 hN5 P11 y11 O11 hS11 hWW
    show wpList _ _ _ [_] _ _
    go_wp2
    refine ⟨hold_of (S0 := fun U => U.cell? ⟨BL, gk * 3 + 1, none⟩ = some (.int .i64 (2 - gk : Nat))) HS11.out, ?_⟩
    refine NoPanic.normal ?_
    have P11 := HP.out; have y11 := HY.out; have O11 := HO.out
    obtain ⟨w11, hw11⟩ : ∃ V, V = W2.setCell ⟨b', q * 9 + 1 + D, none⟩ (.int .u64 0) := ⟨_, rfl⟩
    rw [← hw11] at P11 y11 O11 ⊢
    clear HP HY HO HS11 hw11 cw fw
    rw [set_setF (HS.out.fo HH.out.tr) HX.out, HXF.out] at P11
    obtain ⟨x1, hx1⟩ : ∃ x1, (setF C (frI r fm fl gk) D e0)[q]? = some x1 ∧ x1 = ndSet x D e0 := by
      refine ⟨_, ?_, rfl⟩
      rw [← HXF.out, ← set_setF (HS.out.fo HH.out.tr) HX.out]
      rw [List.getElem?_set_self (List.getElem?_eq_some_iff.1 HX.out).1]
    obtain ⟨hx1, hx1e⟩ := hx1
    have HX1 := Lib.hid hx1; have HX1E := Lib.hid hx1e
    clear hx1 hx1e
    have hfg4 : gf ≠ g4 := by have := z4.lt; omega
    cases gk with
    | zero =>
      go_upto_region 18 with fail
      obtain ⟨mid', low', hT'⟩ := HS.out.done HH.out.tr hp HM.out HL.out
      rw [HDP.out] at hT'
      have HT' := Lib.hid hT'
      obtain ⟨M, hM⟩ : ∃ M, setF C (frI r fm fl 0) D e0 = M := ⟨_, rfl⟩
      have HMM := Lib.hid hM
      rw [hM] at HT' P11
      have hfb : gf ≠ b' := by
        obtain ⟨_, h⟩ := P11.nv hn0
        exact y11.ne_type h.x (by decide)
      have hvb : vF.ownBlock ≠ some b' := by
        obtain ⟨_, h⟩ := P11.nv hn0
        exact h.x.not_own O11 (by decide)
      have hO11 := P11.o
      unfold OwnN at hO11
      rw [P11.ln] at hO11
      have HDL := Lib.hid (delClr gf b' n c' w4.heap.size (fun x => !F.contains x.f) (FV gf b' w4.heap.size vF F) M w11 (FV.keeps (by omega)) ⟨y11, O11, hfb, hvb⟩ hO11 P11.ln (by have := HH.out.le; omega))
      have c1 := P11.c1
      clear hT' hM hO11
      go_wp2_with fail
      refine HDL.out.mono ?_
      rintro e w12 ⟨V', rfl, O12, g12, hvb'⟩
      have hpos12 : 0 < (M.filter fun x => !F.contains x.f).length := by
        obtain ⟨x, hx, _⟩ := HT'.out.root
        exact List.length_pos_of_mem hx
      obtain ⟨b2, c2, rfl, hb2, _, _, _⟩ := own_pos O12 hpos12
      obtain rfl : b2 = b' := by simpa [Value.ownBlock] using hvb'
      have X12 := P11.x.grown g12 (by simpa [Value.ownBlock] using Ne.symm P11.ne)
      have Y12 := y11.grown g12 (by simpa [Value.ownBlock] using Ne.symm hfb)
      have U12 := P11.u.grown g12 P11.u.size (fun k hk => by cases hk; exact P11.bl.1)
      have F12 : Own w12 w4.heap.size vF F := World.ownsRow.kept O11 g12 (.inr hvb)
      have L12 := P11.l
      have HO12 := Lib.hid O12
      obtain ⟨m2, hm2⟩ : ∃ m, (M.filter fun x => !F.contains x.f).length = m := ⟨_, rfl⟩
      rw [hm2] at hpos12 ⊢
      have HM2 := Lib.hid hm2
      have d1 : w12.cell? ⟨gt, 1, none⟩ = some (.slice (some ⟨b2, 0, none⟩) n c') := by rw [X12.cell]; rfl
      have fz := X12.frozen 1
      have hgt : w12.grownBy (w12.setCell ⟨gt, 1, none⟩ (.slice (some ⟨b2, 0, none⟩) m2 c2)) (some gt) := set_grown (refl_grown _ _)
      have P13 : PO w4 gt r b2 m2 c2 (M.filter fun x => !F.contains x.f) (w12.setCell ⟨gt, 1, none⟩ (.slice (some ⟨b2, 0, none⟩) m2 c2)) := by
        refine ⟨U12.grown hgt U12.size (fun k hk => by cases hk; exact L12), L12, X12.set 1 _, ?_, hm2⟩
        have := World.ownsRow.kept HO12.out hgt (.inr (X12.not_own HO12.out (by decide)))
        unfold OwnN
        rw [hm2] at this ⊢
        exact this
      have Y13 := Y12.grown hgt (by simpa using X12.ne_type Y12 (by decide))
      have F13 : Own (w12.setCell ⟨gt, 1, none⟩ (.slice (some ⟨b2, 0, none⟩) m2 c2)) w4.heap.size vF F := World.ownsRow.kept F12 hgt (.inr (X12.not_own F12 (by decide)))
      clear P11 c1 y11 O11 hvb' O12 g12 U12 F12 HDL hgt hm2
      go_upto_region 19 with fail
      obtain ⟨w13, hw13⟩ : ∃ V, V = w12.setCell ⟨gt, 1, none⟩ (.slice (some ⟨b2, 0, none⟩) m2 c2) := ⟨_, rfl⟩
      rw [← hw13] at P13 Y13 F13 ⊢
      clear hw13 d1 fz X12 Y12
      have d2 : w13.cell? ⟨g10, 2, none⟩ = some (.int .u64 W0) := by rw [(hB4.later P13.u).cell, ← HW0.out]; rfl
      have df : w13.cell? ⟨gf, 0, none⟩ = some vF := by rw [Y13.cell]; rfl
      refine wp_region_plan (SFin gt r b2 m2 c2 g10 gf W0 vF) (.quiet [0, 1, 2, 3] (.only 4 (.quiet [5, 6, 7] .done))) 99 (by kernel_rfl) (by kernel_rfl) ⟨P13.x, d2, df⟩ ?_
      intro W14 hWW hWe
      have bW : Below w13.heap.size w13 W14 := by rw [hWe]; exact (Below.refl _ _).drew
      clear hWe d2 df
      have P14 := P13.below bW
      have z14 := z4.later P14.u
      clear P13 Y13 F13 bW
      simp only [wpPlan, inOrder, List.filterMap_cons, List.filterMap_nil, List.getElem?_cons_zero, List.getElem?_cons_succ]
      have q2 := fun z => (hold_ok (S0 := SFin gt r b2 m2 c2 g10 gf W0 vF) hWW z).2.1
      have q3 := fun z => (hold_ok (S0 := SFin gt r b2 m2 c2 g10 gf W0 vF) hWW z).2.2
      show wpQuiet _ _ _ _ (_ :: _ :: _ :: [_]) _
      refine wpQuiet_load_part (off := 0) (cs := ptC r b2 m2 c2) Tryz.underlying120 rfl (by rw [infoPT]; rfl) rfl (fun U ⟨z, hz⟩ => by rw [hz]; exact (hold_ok (S0 := SFin gt r b2 m2 c2 g10 gf W0 vF) hWW z).1) (fun j v hv => by rw [Nat.zero_add]; exact hv) ?_
      simp only [Act.put, List.setIfInBounds_toArray, List.set_cons_succ, List.set_cons_zero]
      show wpQuiet _ _ _ _ (_ :: _ :: [_]) _
      repeat (go_big_quiet_step (fail))
      refine wpQuiet_nil ?_
      have HWW := Lib.hid hWW
      clear q2 q3 hWW
      show wpList _ _ _ [_] _ _
      go_wp2_with ((with_reducible refine stPT (r := r) (b := b2) (n := m2) (c := c2) ?_ ?_ z14 rfl ?_); (focus rfl); (focus rfl); intro w15 hB15 hg15)
      have hne : g4 ≠ gt := by have := z4.lt; have := P14.l; omega
      have hS15 : SFin gt r b2 m2 c2 g10 gf W0 vF w15 := by
        obtain ⟨s1, s2, s3⟩ := HWW.out
        refine ⟨s1.grown hg15 (by simpa using hne), ?_, ?_⟩
        · have := (hB4.later P14.u).grown hg15 (by simpa using (hB4.ne_type z4 (by decide)).symm)
          rw [this.cell, ← HW0.out]; rfl
        · exact hg15.cell s3 (by simpa using fun e => hfg4 e)
      refine ⟨hold_of hS15, ?_⟩
      simp only [Act.put]
      show wpQuiet _ _ _ _ (_ :: _ :: [_]) _
      repeat (go_big_quiet_step (fail))
      refine wpQuiet_nil ?_
      refine NoPanic.normal ?_
      go_wp2
      refine bodyPost_ret (resPT3 rfl _ _ g4 _ _ _ (.int .i64 0) rfl hB15 rfl rfl rfl rfl) rfl ?_
      obtain ⟨ns14, hN14⟩ := P14.nv hpos12
      have u14 := below_then hu4 P14.u
      have l44 := hu4.size
      refine ⟨b2, m2, c2, ns14, _, mid', low', _, _, rfl, ⟨⟨hN14.x.grown hg15 (by simpa using z14.ne_type hN14.x (by decide)), hN14.n, hN14.row⟩, HM2.out, HT'.out⟩, fun x hx => ?_, Nat.le_trans l44 hb2, u14.grown hg15 u14.size (fun k hk => by cases hk; exact l4)⟩
      have hx2 := (List.mem_filter.1 hx).1
      rw [← HS.out.fs, ← setF_f C (frI r fm fl 0) D e0, HMM.out]
      exact List.mem_map.2 ⟨x, hx2, rfl⟩
    | succ gg =>
      have t0 : (((gg + 1 : Nat) : Int) == 0) = false := by simp; omega
      obtain ⟨ns6, hN6⟩ := P11.nv hn0
      have hW8 := Lib.hid (hN6.words HX1.out)
      have heq := eqAt8 x1 w11
      cases haz : allZ x1 with
      | false =>
        rw [haz] at heq
        clear haz
        go_upto_region 18 with ((with_reducible refine wpList_load_part_g (cs := wdsC x1) Tryz.underlying181 rfl (by rw [infoW]; exact congrArg some (wdsC_len x1).symm) ?_ ?_ hN6.x hW8.out ?_); (focus rfl); (focus rfl))
        obtain ⟨mid', low', hT'⟩ := HS.out.done HH.out.tr hp HM.out HL.out
        rw [HDP.out] at hT'
        have HT' := Lib.hid hT'
        obtain ⟨M, hM⟩ : ∃ M, setF C (frI r fm fl (gg + 1)) D e0 = M := ⟨_, rfl⟩
        have HMM := Lib.hid hM
        rw [hM] at HT' P11
        have hfb : gf ≠ b' := by
          obtain ⟨_, h⟩ := P11.nv hn0
          exact y11.ne_type h.x (by decide)
        have hvb : vF.ownBlock ≠ some b' := by
          obtain ⟨_, h⟩ := P11.nv hn0
          exact h.x.not_own O11 (by decide)
        have hO11 := P11.o
        unfold OwnN at hO11
        rw [P11.ln] at hO11
        have HDL := Lib.hid (delClr gf b' n c' w4.heap.size (fun x => !F.contains x.f) (FV gf b' w4.heap.size vF F) M w11 (FV.keeps (by omega)) ⟨y11, O11, hfb, hvb⟩ hO11 P11.ln (by have := HH.out.le; omega))
        have c1 := P11.c1
        clear hT' hM hO11
        go_wp2_with fail
        refine HDL.out.mono ?_
        rintro e w12 ⟨V', rfl, O12, g12, hvb'⟩
        have hpos12 : 0 < (M.filter fun x => !F.contains x.f).length := by
          obtain ⟨x, hx, _⟩ := HT'.out.root
          exact List.length_pos_of_mem hx
        obtain ⟨b2, c2, rfl, hb2, _, _, _⟩ := own_pos O12 hpos12
        obtain rfl : b2 = b' := by simpa [Value.ownBlock] using hvb'
        have X12 := P11.x.grown g12 (by simpa [Value.ownBlock] using Ne.symm P11.ne)
        have Y12 := y11.grown g12 (by simpa [Value.ownBlock] using Ne.symm hfb)
        have U12 := P11.u.grown g12 P11.u.size (fun k hk => by cases hk; exact P11.bl.1)
        have F12 : Own w12 w4.heap.size vF F := World.ownsRow.kept O11 g12 (.inr hvb)
        have L12 := P11.l
        have HO12 := Lib.hid O12
        obtain ⟨m2, hm2⟩ : ∃ m, (M.filter fun x => !F.contains x.f).length = m := ⟨_, rfl⟩
        rw [hm2] at hpos12 ⊢
        have HM2 := Lib.hid hm2
        have d1 : w12.cell? ⟨gt, 1, none⟩ = some (.slice (some ⟨b2, 0, none⟩) n c') := by rw [X12.cell]; rfl
        have fz := X12.frozen 1
        have hgt : w12.grownBy (w12.setCell ⟨gt, 1, none⟩ (.slice (some ⟨b2, 0, none⟩) m2 c2)) (some gt) := set_grown (refl_grown _ _)
        have P13 : PO w4 gt r b2 m2 c2 (M.filter fun x => !F.contains x.f) (w12.setCell ⟨gt, 1, none⟩ (.slice (some ⟨b2, 0, none⟩) m2 c2)) := by
          refine ⟨U12.grown hgt U12.size (fun k hk => by cases hk; exact L12), L12, X12.set 1 _, ?_, hm2⟩
          have := World.ownsRow.kept HO12.out hgt (.inr (X12.not_own HO12.out (by decide)))
          unfold OwnN
          rw [hm2] at this ⊢
          exact this
        have Y13 := Y12.grown hgt (by simpa using X12.ne_type Y12 (by decide))
        have F13 : Own (w12.setCell ⟨gt, 1, none⟩ (.slice (some ⟨b2, 0, none⟩) m2 c2)) w4.heap.size vF F := World.ownsRow.kept F12 hgt (.inr (X12.not_own F12 (by decide)))
        clear P11 c1 y11 O11 hvb' O12 g12 U12 F12 HDL hgt hm2
        go_upto_region 19 with fail
        obtain ⟨w13, hw13⟩ : ∃ V, V = w12.setCell ⟨gt, 1, none⟩ (.slice (some ⟨b2, 0, none⟩) m2 c2) := ⟨_, rfl⟩
        rw [← hw13] at P13 Y13 F13 ⊢
        clear hw13 d1 fz X12 Y12
        have d2 : w13.cell? ⟨g10, 2, none⟩ = some (.int .u64 W0) := by rw [(hB4.later P13.u).cell, ← HW0.out]; rfl
        have df : w13.cell? ⟨gf, 0, none⟩ = some vF := by rw [Y13.cell]; rfl
        refine wp_region_plan (SFin gt r b2 m2 c2 g10 gf W0 vF) (.quiet [0, 1, 2, 3] (.only 4 (.quiet [5, 6, 7] .done))) 99 (by kernel_rfl) (by kernel_rfl) ⟨P13.x, d2, df⟩ ?_
        intro W14 hWW hWe
        have bW : Below w13.heap.size w13 W14 := by rw [hWe]; exact (Below.refl _ _).drew
        clear hWe d2 df
        have P14 := P13.below bW
        have z14 := z4.later P14.u
        clear P13 Y13 F13 bW
        simp only [wpPlan, inOrder, List.filterMap_cons, List.filterMap_nil, List.getElem?_cons_zero, List.getElem?_cons_succ]
        have q2 := fun z => (hold_ok (S0 := SFin gt r b2 m2 c2 g10 gf W0 vF) hWW z).2.1
        have q3 := fun z => (hold_ok (S0 := SFin gt r b2 m2 c2 g10 gf W0 vF) hWW z).2.2
        show wpQuiet _ _ _ _ (_ :: _ :: _ :: [_]) _
        refine wpQuiet_load_part (off := 0) (cs := ptC r b2 m2 c2) Tryz.underlying120 rfl (by rw [infoPT]; rfl) rfl (fun U ⟨z, hz⟩ => by rw [hz]; exact (hold_ok (S0 := SFin gt r b2 m2 c2 g10 gf W0 vF) hWW z).1) (fun j v hv => by rw [Nat.zero_add]; exact hv) ?_
        simp only [Act.put, List.setIfInBounds_toArray, List.set_cons_succ, List.set_cons_zero]
        show wpQuiet _ _ _ _ (_ :: _ :: [_]) _
        repeat (go_big_quiet_step (fail))
        refine wpQuiet_nil ?_
        have HWW := Lib.hid hWW
        clear q2 q3 hWW
        show wpList _ _ _ [_] _ _
        go_wp2_with ((with_reducible refine stPT (r := r) (b := b2) (n := m2) (c := c2) ?_ ?_ z14 rfl ?_); (focus rfl); (focus rfl); intro w15 hB15 hg15)
        have hne : g4 ≠ gt := by have := z4.lt; have := P14.l; omega
        have hS15 : SFin gt r b2 m2 c2 g10 gf W0 vF w15 := by
          obtain ⟨s1, s2, s3⟩ := HWW.out
          refine ⟨s1.grown hg15 (by simpa using hne), ?_, ?_⟩
          · have := (hB4.later P14.u).grown hg15 (by simpa using (hB4.ne_type z4 (by decide)).symm)
            rw [this.cell, ← HW0.out]; rfl
          · exact hg15.cell s3 (by simpa using fun e => hfg4 e)
        refine ⟨hold_of hS15, ?_⟩
        simp only [Act.put]
        show wpQuiet _ _ _ _ (_ :: _ :: [_]) _
        repeat (go_big_quiet_step (fail))
        refine wpQuiet_nil ?_
        refine NoPanic.normal ?_
        go_wp2
        refine bodyPost_ret (resPT3 rfl _ _ g4 _ _ _ (.int .i64 0) rfl hB15 rfl rfl rfl rfl) rfl ?_
        obtain ⟨ns14, hN14⟩ := P14.nv hpos12
        have u14 := below_then hu4 P14.u
        have l44 := hu4.size
        refine ⟨b2, m2, c2, ns14, _, mid', low', _, _, rfl, ⟨⟨hN14.x.grown hg15 (by simpa using z14.ne_type hN14.x (by decide)), hN14.n, hN14.row⟩, HM2.out, HT'.out⟩, fun x hx => ?_, Nat.le_trans l44 hb2, u14.grown hg15 u14.size (fun k hk => by cases hk; exact l4)⟩
        have hx2 := (List.mem_filter.1 hx).1
        rw [← HS.out.fs, ← setF_f C (frI r fm fl (gg + 1)) D e0, HMM.out]
        exact List.mem_map.2 ⟨x, hx2, rfl⟩
      | true =>
        rw [haz] at heq
        have HAZ := Lib.hid haz
        clear haz
        go_upto_region 17 with ((with_reducible refine wpList_load_part_g (cs := wdsC x1) Tryz.underlying181 rfl (by rw [infoW]; exact congrArg some (wdsC_len x1).symm) ?_ ?_ hN6.x hW8.out ?_); (focus rfl); (focus rfl))
        have hFR : x1.f = frI r fm fl (gg + 1) := by rw [HX1E.out]; exact HXF.out
        have hnx := HS.out.next HH.out.tr hp HM.out HL.out (Nat.succ_pos gg) HX.out HXF.out (by
          rw [HDP.out, ← HX1E.out]
          exact allZ_k HAZ.out (setF_ve (HS.out.ve HH.out.tr) x1 (List.mem_of_getElem? HX1.out)))
        rw [HDP.out] at hnx
        have HNX := Lib.hid hnx
        have df := hN6.fr HX1.out
        rw [hFR] at df
        have cf : w11.cell? ⟨gf, 0, none⟩ = some vF := by rw [y11.cell]; rfl
        have hfbn : gf ≠ b' := y11.ne_type hN6.x (by decide)
        obtain ⟨FR, hFRe⟩ : ∃ q, frI r fm fl (gg + 1) = q := ⟨_, rfl⟩
        rw [hFRe] at df HNX P11
        clear hFR hnx hN6 heq hW8
        refine wp_region_plan (S17 gf b' (q * 9) vF FR) (.quiet [0, 1, 2, 3, 4] (.only 5 (.only 6 (.last 7)))) 7 (by kernel_rfl) (by kernel_rfl) ⟨cf, df⟩ ?_
        intro W2 hWW hWe
        have bW : Below w11.heap.size w11 W2 := by rw [hWe]; exact (Below.refl _ _).drew
        clear hWe cf df
        have P12 := P11.below bW
        have y12 := y11.later bW
        have O12 := O11.later bW
        clear P11 y11 O11 bW
        simp only [wpPlan, inOrder, List.filterMap_cons, List.filterMap_nil, List.getElem?_cons_zero, List.getElem?_cons_succ]
        have q1 := fun z => (hold_ok (S0 := S17 gf b' (q * 9) vF FR) hWW z).1
        have q2 := fun z => (hold_ok (S0 := S17 gf b' (q * 9) vF FR) hWW z).2
        show wpQuiet _ _ _ _ (_ :: _ :: _ :: _ :: [_]) _
        repeat (go_big_quiet_step (fail))
        refine wpQuiet_nil ?_
        clear q1 q2
        have b13 := below_box W2 (.cells #[.int .i64 FR] 3)
        have x13 := Blk.new W2 3 #[.int .i64 FR] [.int .i64 FR] rfl
        have P13 := P12.below b13
        have y13 := y12.later b13
        have O13 := O12.later b13
        have S13 : S17 gf b' (q * 9) vF FR (W2.alloc (.cells #[.int .i64 FR] 3)) := ⟨cell_later b13 hWW.1, cell_later b13 hWW.2⟩
        show wpList _ _ _ [_] _ _
        go_wp2_with fail
        refine ⟨hold_of S13, ?_⟩
        obtain ⟨w13, hw13⟩ : ∃ V, V = W2.alloc (.cells #[.int .i64 FR] 3) := ⟨_, rfl⟩
        obtain ⟨g13, hg13⟩ : ∃ g, W2.heap.size = g := ⟨_, rfl⟩
        rw [← hw13] at P13 y13 O13 x13 S13 ⊢
        rw [hg13] at x13 ⊢
        clear P12 y12 O12 b13 hw13 hg13 hWW
        have hl13 : F.length ≤ 900000 := by omega
        have hs13 : w4.heap.size ≤ w13.heap.size := P13.u.size
        show wpList _ _ _ [_] _ _
        go_wp2_with ((with_reducible refine wpList_appI (base := w4.heap.size) (b := g13) (x := FR) ?_ ?_ O13 x13 hl13 hs13 ?_); (focus rfl); (focus rfl); intro v14 w14 O14 hg14)
        have P14 : PO w4 gt r b' n c' (setF C FR D e0) w14 := ⟨P13.u.grown hg14 hs13 (fun k hk => (World.ownsRow.lt O13 k hk).1), P13.l, P13.x.grown hg14 (P13.x.not_own O13 (by decide)), World.ownsRow.kept P13.o hg14 (.inr (by
          obtain ⟨_, h⟩ := P13.nv hn0
          intro e
          exact h.x.not_own O13 (by decide) e.symm)), P13.ln⟩
        have y14 := y13.grown hg14 (y13.not_own O13 (by decide))
        have S14 : S17 gf b' (q * 9) vF FR w14 := ⟨by rw [y14.cell]; rfl, by
          obtain ⟨_, h⟩ := P13.nv hn0
          exact hg14.cell S13.2 (by
            intro e
            exact h.x.not_own O13 (by decide) e.symm)⟩
        refine ⟨hold_of S14, ?_⟩
        obtain ⟨nv, hnv⟩ : ∃ k, (F ++ [FR]).length = k := ⟨_, rfl⟩
        obtain ⟨gv, cv, hv14, _⟩ := own_pos O14 (by simp)
        rw [hnv] at hv14
        subst hv14
        clear hnv
        have cf := S14.1
        have ff := y14.frozen 0
        have hgs : w14.grownBy (w14.setCell ⟨gf, 0, none⟩ (.slice (some ⟨gv, 0, none⟩) nv cv)) (some gf) := set_grown (refl_grown _ _)
        have P15 := P14.far y14 (by decide) (by decide) (by have := l7; omega) hgs
        have y15 : Blk (w14.setCell ⟨gf, 0, none⟩ (.slice (some ⟨gv, 0, none⟩) nv cv)) gf 24 [.slice (some ⟨gv, 0, none⟩) nv cv] := y14.set 0 _
        have O15 : Own (w14.setCell ⟨gf, 0, none⟩ (.slice (some ⟨gv, 0, none⟩) nv cv)) w4.heap.size (.slice (some ⟨gv, 0, none⟩) nv cv) (F ++ [FR]) := World.ownsRow.kept O14 hgs (.inr (y14.not_own O14 (by decide)))
        clear P13 y13 O13 x13 S13 hg14 P14 y14 S14 O14 hgs
        show wpList _ _ _ [_] _ _
        go_wp2
        refine ⟨trivial, ?_⟩
        refine NoPanic.normal ?_
        obtain ⟨w15, hw15⟩ : ∃ V, V = w14.setCell ⟨gf, 0, none⟩ (.slice (some ⟨gv, 0, none⟩) nv cv) := ⟨_, rfl⟩
        rw [← hw15] at P15 y15 O15 ⊢
        clear cf ff hw15
        go_wp2
        go_roundg gg
        case rel => exact ⟨_, _, _, by go_num, HNX.out, P15, y15, O15⟩
        case measure => omega
end Go.Proofs.YtdddkfpcbfgocaaGreat
namespace Go.Pt
/-- The cells of an entry of a page. -/
def peC (ent : Nat → En) (p : Nat) : List Value := [.int .i64 (p : Nat), .int .u64 (wd (ent p))]
theorem peC_len (ent : Nat → En) (p : Nat) : (peC ent p).length = 2 := rfl
theorem peC_one (ent : Nat → En) (p : Nat) : ∀ v ∈ peC ent p, v.oneCell' = true := by
  intro u hu
  simp [peC] at hu
  rcases hu with rfl | rfl <;> rfl
/-- The pages below m that have an entry. -/
def pgs (ent : Nat → En) (m : Nat) : List Nat := (List.range m).filter fun p => decide ((ent p).k ≠ 0)
theorem pgs_len (ent : Nat → En) (m : Nat) : (pgs ent m).length ≤ m := by
  have := List.length_filter_le (fun p => decide ((ent p).k ≠ 0)) (List.range m)
  rw [List.length_range] at this
  exact this
theorem pgs_add {ent : Nat → En} {m w : Nat} (h : ∀ q, m ≤ q → q < m + w → (ent q).k = 0) : pgs ent (m + w) = pgs ent m := by
  unfold pgs
  rw [List.range_add, List.filter_append]
  have : ((List.range w).map (m + ·)).filter (fun p => decide ((ent p).k ≠ 0)) = [] := by
    rw [List.filter_eq_nil_iff]
    intro q hq
    obtain ⟨j, hj, rfl⟩ := List.mem_map.1 hq
    have := h (m + j) (by omega) (by have := List.mem_range.1 hj; omega)
    simp [this]
  rw [this, List.append_nil]
theorem pgs_one {ent : Nat → En} {m : Nat} (h : (ent m).k ≠ 0) : pgs ent (m + 1) = pgs ent m ++ [m] := by
  unfold pgs
  rw [List.range_succ, List.filter_append]
  simp [h]
/-- Where the list may stand. -/
structure Algn (mid low : Nat → Option Int) (p : Nat) : Prop where
  h : p < 512 → (low (p / 8) = none → p % 8 = 0) ∧ (mid (p / 64) = none → p % 64 = 0)
section
variable {r : Int} {N : List Nd} {mid low : Nat → Option Int} {ent : Nat → En}
theorem Algn.start : Algn mid low 0 := ⟨fun _ => ⟨fun _ => rfl, fun _ => rfl⟩⟩
theorem Algn.next {p : Nat} (h : Algn mid low p) (hT : Tr r N mid low ent) (hp : p < 512) : p + 8 ^ endL mid low p ≤ 512 ∧ Algn mid low (p + 8 ^ endL mid low p) ∧
    ((ent p).k = 0 → pgs ent (p + 8 ^ endL mid low p) = pgs ent p) ∧ ((ent p).k ≠ 0 → endL mid low p = 0 ∧ pgs ent (p + 8 ^ endL mid low p) = pgs ent p ++ [p]) := by
  obtain ⟨h1, h2⟩ := h.h hp
  have nz : ∀ q, q < 512 → low (q / 8) = none → (ent q).k = 0 := fun q hq hl => by rw [hT.none_ent hq hl]; rfl
  cases hm : mid (p / 64) with
  | none =>
    have hl : endL mid low p = 2 := by simp [endL, hm]
    have ha := h2 hm
    have hz : ∀ q, p ≤ q → q < p + 64 → (ent q).k = 0 := fun q hq1 hq2 => nz q (by omega) (hT.none_low (by omega) (by rw [show q / 8 / 8 = p / 64 by omega]; exact hm))
    rw [hl, show 8 ^ 2 = 64 from rfl]
    refine ⟨by omega, ⟨fun _ => ⟨fun _ => by omega, fun _ => by omega⟩⟩, fun _ => pgs_add hz, fun hk => absurd (hz p (by omega) (by omega)) hk⟩
  | some fm =>
    cases hlw : low (p / 8) with
    | none =>
      have hl : endL mid low p = 1 := by simp [endL, hm, hlw]
      have ha := h1 hlw
      have hz : ∀ q, p ≤ q → q < p + 8 → (ent q).k = 0 := fun q hq1 hq2 => nz q (by omega) (by rw [show q / 8 = p / 8 by omega]; exact hlw)
      rw [hl, show 8 ^ 1 = 8 from rfl]
      refine ⟨by omega, ⟨fun hq => ⟨fun _ => by omega, fun hm2 => ?_⟩⟩, fun _ => pgs_add hz, fun hk => absurd (hz p (by omega) (by omega)) hk⟩
      rcases Nat.eq_zero_or_pos ((p + 8) % 64) with h3 | h3
      · exact h3
      · rw [show (p + 8) / 64 = p / 64 by omega, hm] at hm2; cases hm2
    | some fl =>
      have hl : endL mid low p = 0 := by simp [endL, hm, hlw]
      rw [hl, show 8 ^ 0 = 1 from rfl]
      refine ⟨by omega, ⟨fun hq => ⟨fun hl2 => ?_, fun hm2 => ?_⟩⟩, fun hk => pgs_add fun q hq1 hq2 => by rw [show q = p by omega]; exact hk, fun hk => ⟨rfl, pgs_one hk⟩⟩
      · rcases Nat.eq_zero_or_pos ((p + 1) % 8) with h3 | h3
        · exact h3
        · rw [show (p + 1) / 8 = p / 8 by omega, hlw] at hl2; cases hl2
      · rcases Nat.eq_zero_or_pos ((p + 1) % 64) with h3 | h3
        · exact h3
        · rw [show (p + 1) / 64 = p / 64 by omega, hm] at hm2; cases hm2
end
end Go.Pt
namespace Go.Proofs.YtdddkfpcbfgocaaGreat
open Go.RowKit Go.Over Go.Seg Go.Grow Go.Pt
/-- What New gives. -/
def NewPT (w : World) (f : Int) (e : Ending) (w' : World) : Prop :=
  ∃ b ns, e = .returned (.tuple #[.agg #[.int .i64 f, .slice (some ⟨b, 0, none⟩) 1 1, .slice none 0 0], .int .i64 0]) ∧ TV w' f b 1 1 ns [ndE f] (fun _ => none) (fun _ => none) (fun _ => e0) ∧ w.heap.size ≤ b ∧ Below w.heap.size w w'
set_option maxRecDepth 100000 in set_option maxHeartbeats 3200000 in
theorem newPT (f : Int) (w : World) (h0 : 0 ≤ f) (h1 : f ≤ 4294967295) : Calls Tryz.prog 61 #[.int .i64 f] w (NewPT w f) := by
  have b0 := below_box w (.cells #[.int .i64 0, .slice none 0 0, .slice none 0 0] 120)
  have z0 := Blk.new w 120 #[.int .i64 0, .slice none 0 0, .slice none 0 0] _ rfl
  have HFO := Lib.hid (fun W => frame_ok f h0 h1 W)
  go_enter Tryz.func61, Tryz.ntmps61
  go_upto_region 1 with fail
  obtain ⟨w1, hw1⟩ : ∃ V, V = w.alloc (.cells #[.int .i64 0, .slice none 0 0, .slice none 0 0] 120) := ⟨_, rfl⟩
  obtain ⟨g, hg⟩ : ∃ g, w.heap.size = g := ⟨_, rfl⟩
  rw [← hw1] at b0 z0 ⊢
  have HG := Lib.hid hg
  rw [hg] at z0 ⊢
  clear hw1 hg
  go_wp2_with fail
  refine (HFO.out _).mono ?_
  rintro e _ ⟨rfl, rfl⟩
  have b2 := below_box w1 (.cells #[.int .i64 f, .int .u64 0, .int .u64 0, .int .u64 0, .int .u64 0, .int .u64 0, .int .u64 0, .int .u64 0, .int .u64 0] 183)
  have x2 := Blk.new w1 183 #[.int .i64 f, .int .u64 0, .int .u64 0, .int .u64 0, .int .u64 0, .int .u64 0, .int .u64 0, .int .u64 0, .int .u64 0] (ndC (ndE f)) rfl
  have z2 := z0.later b2
  clear z0
  go_wp2_with ((with_reducible refine stPT (r := f) (b := w1.heap.size) (n := 1) (c := 1) ?_ ?_ z2 rfl ?_); (focus rfl); (focus rfl); intro w3 hB3 hg3)
  refine bodyPost_ret (resPT1 rfl _ _ g _ (.int .i64 0) rfl hB3 rfl rfl) rfl ?_
  have u2 := below_then b0 b2
  have x3 := x2.grown hg3 (by simpa using z2.ne_type x2 (by decide))
  refine ⟨w1.heap.size, _, rfl, ⟨⟨x3, Nat.le_refl 9, fun i nd hi j v hv => ?_⟩, rfl, Tr.new h0 h1⟩, b0.size, u2.grown hg3 u2.size (fun k hk => by cases hk; rw [← HG.out]; exact Nat.le_refl _)⟩
  match i, hi with
  | 0, hi =>
    cases hi
    rw [Nat.zero_mul, Nat.zero_add]; exact hv
  | i + 1, hi => simp at hi
theorem infoPE : (Tryz.prog.info? 145).map (·.size) = some 2 := by kernel_rfl
section
variable {ops : Array Oper} {rest : List Oper} {i j : Nat} {ty : TypeId} {pos : String} {af : Array Edge} {a : Act} {w : World} {Q : Exit → Act → World → Prop} {g p : Nat} {ent : Nat → En}
/-- An entry of a page is stored whole. -/
theorem stPE {zs : List Value} (hx : a.eval (.tmp i) = .pointer (some ⟨g, 0, none⟩)) (hy : a.eval (.tmp j) = .agg (peC ent p).toArray) (hB : Blk w g 145 zs) (hz : zs.length = 2)
    (h : ∀ W, Blk W g 145 (peC ent p) → w.grownBy W (some g) → wpList Tryz.prog ops Q rest (a.put none undef) W) :
    wpList Tryz.prog ops Q ({ dst := none, op := .store 145 (.tmp i) (.tmp j), type := ty, pos := pos, after := af, guard := none } :: rest) a w := by
  have e : lay zs 0 (peC ent p) = peC ent p := by
    have hl : (peC ent p).length = 2 := rfl
    unfold lay
    rw [hl, List.take_zero, List.nil_append, List.drop_eq_nil_of_le (by omega), List.append_nil]
  exact wpList_store_part (cs := peC ent p) (by rw [infoPE]; rfl) hx hy hB (by rw [hz]; exact Nat.le_refl _) (peC_one ent p) fun W q1 q2 => h W (by rw [← e]; exact q1) q2
end
theorem K142 : Kind Tryz.prog 142 145 2 16 := Kind.mk' (z := .agg #[.int .i64 0, .int .u64 0]) Tryz.underlying142 (by kernel_rfl) rfl (by decide) (by decide)
/-- Entries of pages in a row of a call's own. -/
def OwnP (ent : Nat → En) (w : World) (B : Nat) (v : Value) (L : List Nat) : Prop := w.ownsRow B 145 2 v L.length (L.flatMap (peC ent))
section
variable {ops : Array Oper} {rest : List Oper} {d i j : Nat} {ty : TypeId} {pos : String} {af : Array Edge} {a : Act} {w : World} {Q : Exit → Act → World → Prop}
/-- An entry of a page is appended. -/
theorem wpList_appP {ent : Nat → En} {base b : Nat} {v : Value} {L : List Nat} {p : Nat} (hs : a.eval (.tmp i) = v) (hx : a.eval (.tmp j) = .slice (some ⟨b, 0, none⟩) 1 1) (hO : OwnP ent w base v L) (hB : Blk w b 145 (peC ent p)) (hl : L.length ≤ 900000) (hb : base ≤ w.heap.size)
    (h : ∀ v' w', OwnP ent w' base v' (L ++ [p]) → w.grownBy w' v.ownBlock → wpList Tryz.prog ops Q rest (a.put (some d) v') w') :
    wpList Tryz.prog ops Q ({ dst := some d, op := .call { callee := .builtin .append, args := #[.tmp i, .tmp j], argTypes := #[142, 142] }, type := ty, pos := pos, after := af, guard := none } :: rest) a w := by
  refine wpList_append_k K142 rfl (.tmp i) (.tmp j) rfl v L.length (L.flatMap (peC ent)) hs hO (some ⟨b, 0, none⟩) 1 1 (peC ent p) hx ⟨rfl, peC_one ent p, .inr ⟨_, rfl, fun k u hk => ?_⟩⟩ (by omega) hb fun v' w' q1 q2 _ => h v' w' ?_ q2
  · rw [add_off, Nat.zero_add, hB.cell]; exact hk
  · unfold OwnP
    rw [List.flatMap_append, List.length_append]
    simpa using q1
end
/-- What List gives. -/
def ListAns (w : World) (ent : Nat → En) (e : Ending) (w' : World) : Prop := ∃ v, e = .returned v ∧ OwnP ent w' w.heap.size v (pgs ent 512) ∧ Below w.heap.size w w'
set_option maxRecDepth 100000 in set_option maxHeartbeats 3200000 in
theorem list (r : Int) (b n c : Nat) (ns : List Value) (N : List Nd) (mid low : Nat → Option Int) (ent : Nat → En) (w : World) (H : TV w r b n c ns N mid low ent) :
    Calls Tryz.prog 71 #[.agg #[.int .i64 r, .slice (some ⟨b, 0, none⟩) n c, .slice none 0 0]] w (ListAns w ent) := by
  have X0 := PX.new (r := r) (c := c) (n := n) H.nv
  have HH := Lib.hid H
  clear H
  go_enter Tryz.func71, Tryz.ntmps71
  go_upto_region 1 with fail
  obtain ⟨w1, hw1⟩ : ∃ W, W = w.alloc (.cells #[.int .i64 r, .slice (some ⟨b, 0, none⟩) n c, .slice none 0 0] 120) := ⟨_, rfl⟩
  rw [← hw1] at X0 ⊢
  obtain ⟨g, hg⟩ : ∃ g, w.heap.size = g := ⟨_, rfl⟩
  have X1 : PX w g r b n c ns N w1 := by rw [← hg]; exact X0
  rw [hg]
  clear X0 hw1 hg
  have HCK := Lib.hid (ptcheck r b n c ns N mid low ent w1 ⟨X1.v, HH.out.ln, HH.out.tr⟩)
  go_wp2_with ((with_reducible refine ldPT ?_ X1.x ?_); (focus rfl))
  refine HCK.out.mono ?_
  rintro e w2 ⟨rfl, b2⟩
  have X2 := X1.below b2
  clear X1 b2 HCK
  go_wp2
  go_loopg [3, 4] 512 (fun gg v3 v4 wr => ∃ p : Nat, 512 ≤ p + gg ∧ p ≤ 512 ∧ v4 = .int .i64 p ∧ Algn mid low p ∧ OwnP ent wr w.heap.size v3 (pgs ent p) ∧ PX w g r b n c ns N wr)
  case atStart => exact ⟨0, by omega, by omega, rfl, Algn.start, World.ownsRow_nil _ _ _ _, X2⟩
  case round =>
    clear X2
    obtain ⟨p, hpg, hp512, rfl, hA, O3, X3⟩ := hrel
    by_cases hp : p < 512
    · have HPG := Lib.hid hpg
      obtain ⟨a1, a2, a3, a4⟩ := hA.next HH.out.tr hp
      have HLA := Lib.hid (last r b n c ns N mid low ent p wr X3.v HH.out.ln (by have := HH.out.le; omega) HH.out.tr hp)
      have HA1 := Lib.hid a1; have HA2 := Lib.hid a2; have HA3 := Lib.hid a3; have HA4 := Lib.hid a4
      clear hA a1 a2 a3 a4 hpg
      go_wp2_with ((with_reducible refine ldPT ?_ X3.x ?_); (focus rfl))
      refine HLA.out.mono ?_
      rintro e w4 ⟨a, l, E, rfl, hL, b4⟩
      have X4 := X3.below b4
      have O4 : OwnP ent w4 w.heap.size u3 _ := own_later O3 b4
      have HL := Lib.hid hL
      have hl2 := hL.l2
      have hz := Blk.new w4 186 #[.int .i64 0, .int .i64 0, .int .u64 0] _ rfl
      have bz := below_box w4 (.cells #[.int .i64 0, .int .i64 0, .int .u64 0] 186)
      clear X3 O3 b4 hL HLA
      go_upto_region 7 with ((with_reducible refine stSt (s := ⟨a, l, E⟩) ?_ ?_ hz rfl ?_); (focus rfl); (focus rfl); intro w5 hB5 hg5)
      have b5 : Below w4.heap.size w4 w5 := bz.grown hg5 bz.size (fun q hq => by cases hq; exact Nat.le_refl _)
      have X5 := X4.below b5
      have O5 : OwnP ent w5 w.heap.size u3 _ := own_later O4 b5
      obtain ⟨g5, hg5'⟩ : ∃ q, w4.heap.size = q := ⟨_, rfl⟩
      rw [hg5'] at hB5 ⊢
      have d1 : w5.cell? ⟨g5, 1, none⟩ = some (.int .i64 l) := by rw [hB5.cell]; rfl
      have d2 : w5.cell? ⟨g5, 2, none⟩ = some (.int .u64 (wd E)) := by rw [hB5.cell]; rfl
      have HB5 := Lib.hid hB5
      obtain ⟨W0, hW0⟩ : ∃ q, wd E = q := ⟨_, rfl⟩
      have HW0 := Lib.hid hW0
      rw [hW0] at d2
      clear X4 O4 b5 hg5 hz bz hg5' hB5 hW0
      try simp only [Act.put]
      go_upto_if 17 with fail
      have HWL := Lib.hid (show l = endL mid low p from HL.out.hl)
      have HEK := Lib.hid (show E.k = 0 ↔ (ent p).k = 0 by rw [HL.out.he]; exact HH.out.tr.endE hp)
      have HVZ := Lib.hid (HL.out.ve HH.out.tr hp).zero
      rw [HW0.out] at HVZ ⊢
      go_cut [3] from 17 to 24 (fun v3 W => OwnP ent W w.heap.size v3 (pgs ent (p + 8 ^ l)) ∧ PX w g r b n c ns N W ∧ Blk W g5 186 (stepC ⟨a, l, E⟩))
      case first =>
        by_cases hk : (ent p).k = 0
        · have tz : (W0 != 0) = false := by simpa using HVZ.out.2 (HEK.out.2 hk)
          have O6 := O5
          rw [← HA3.out hk, ← HWL.out] at O6
          clear O5 hk
          go_wp2
          go_meet
          case rel => exact ⟨O6, X5, HB5.out⟩
        · have tz : (W0 != 0) = true := by
            have := mt HVZ.out.1 (fun h => hk (HEK.out.1 h))
            simpa using this
          obtain ⟨hl0, hpg⟩ := HA4.out hk
          have hwe : W0 = wd (ent p) := by
            rw [← HW0.out, HL.out.he]
            obtain ⟨hm0, f0, hl0'⟩ := endL0 hl0
            unfold endE
            rw [hl0']
            cases hq : mid (p / 64) with
            | none => rw [hq] at hm0; cases hm0
            | some f => rfl
          have HWE := Lib.hid hwe; have HPGS := Lib.hid hpg
          have hx := Blk.new w5 145 #[.int .i64 (p : Nat), .int .u64 W0] (peC ent p) (by rw [hwe]; rfl)
          have hbx := below_box w5 (.cells #[.int .i64 (p : Nat), .int .u64 W0] 145)
          have O6 : OwnP ent _ w.heap.size u3 (pgs ent p) := own_later O5 hbx
          have hsz : w.heap.size ≤ (w5.alloc (.cells #[.int .i64 (p : Nat), .int .u64 W0] 145)).heap.size := Nat.le_trans X5.u.size hbx.size
          have X6 := X5.below hbx
          have B6 := HB5.out.later hbx
          have hll : (pgs ent p).length ≤ 900000 := by have := pgs_len ent p; omega
          clear O5 X5 hk hbx hwe hl0 hpg
          go_wp2_with ((with_reducible refine wpList_appP (base := w.heap.size) (b := w5.heap.size) (p := p) ?_ ?_ O6 hx hll hsz ?_); (focus rfl); (focus rfl); intro v7 w7 O7 hg7)
          have X7 : PX w g r b n c ns N w7 := ⟨X6.u.grown hg7 X6.u.size (fun k hk => (World.ownsRow.lt O6 k hk).1), X6.l, X6.x.grown hg7 (X6.x.not_own O6 (by decide)), ⟨X6.v.x.grown hg7 (X6.v.x.not_own O6 (by decide)), X6.v.n, X6.v.row⟩⟩
          have B7 := B6.grown hg7 (B6.not_own O6 (by decide))
          rw [← HPGS.out, ← HWL.out] at O7
          clear X6 B6 O6 hg7 hx hsz hll
          go_wp2
          go_meet
          case rel => exact ⟨O7, X7, B7⟩
      case rest =>
        clear O5 X5 d1 d2 HB5
        obtain ⟨O6, X6, B6⟩ := hcut
        have d1 : wc.cell? ⟨g5, 1, none⟩ = some (.int .i64 l) := by rw [B6.cell]; rfl
        clear B6
        go_wp2
        go_loopg [6, 27] l (fun gg v6 v27 W => ∃ i : Nat, i + gg = l ∧ v6 = .int .i64 ((8 ^ i : Nat) : Int) ∧ v27 = .int .i64 i ∧ W = wc)
        case atStart => exact ⟨0, by omega, rfl, rfl, rfl⟩
        case round =>
          obtain ⟨i, hi, rfl, rfl, rfl⟩ := hrel
          have hp8 : 8 ^ i ≤ 64 := by
            have : 8 ^ i ≤ 8 ^ 2 := Nat.pow_le_pow_right (by decide) (by omega)
            exact this
          have HPW := Lib.hid (show 8 ^ (i + 1) = 8 ^ i * 8 from Nat.pow_succ 8 i)
          cases gk with
          | succ gg2 =>
            have hin : i < l := by omega
            have HI := Lib.hid hi
            obtain ⟨P, hP⟩ : ∃ P, 8 ^ i = P := ⟨_, rfl⟩
            rw [hP] at hp8 HPW ⊢
            clear hi hP
            go_wp2
            go_roundg gg2
            case rel => exact ⟨i + 1, by have := HI.out; omega, by rw [HPW.out]; go_num, by go_num, rfl⟩
            case measure => omega
          | zero =>
            obtain rfl : l = i := by omega
            have hin : ¬ l < l := by omega
            have HA1' := HA1.out
            rw [← HWL.out] at HA1'
            have HNX := Lib.hid HA2.out
            rw [← HWL.out] at HNX
            obtain ⟨P, hP⟩ : ∃ P, 8 ^ l = P := ⟨_, rfl⟩
            have hP1 : 1 ≤ P := by rw [← hP]; exact Nat.pow_pos (by decide)
            rw [hP] at hp8 HA1' HNX O6 ⊢
            clear hi HPW hP d1
            obtain ⟨gg, rfl⟩ : ∃ gg, gk = gg + 1 := ⟨gk - 1, by have := HPG.out; omega⟩
            go_wp2
            go_roundg gg
            case rel => exact ⟨p + P, by have := HPG.out; omega, HA1', by go_num, HNX.out, O6, X6⟩
            case measure => omega
    · obtain rfl : p = 512 := by omega
      clear hpg hp512 hA
      go_wp2
      go_ret
      exact ⟨_, rfl, O3, X3.u⟩
end Go.Proofs.YtdddkfpcbfgocaaGreat
namespace Go.Pt
/-- How two numbers compare. -/
def cmpN (a b : Int) : Int := if a < b then -1 else if b < a then 1 else 0
/-- The first that is not zero. -/
def orN (x y : Int) : Int := if x = 0 then y else x
/-- How two mappings compare. -/
def cmpK (a b : Nat) : Int := if a < b then -1 else if b < a then 1 else 0
theorem cmpK_lt {a b : Nat} : cmpK a b < 0 ↔ a < b := by
  unfold cmpK
  split
  · omega
  · split <;> omega
theorem cmpK_eq {a b : Nat} : cmpK a b = 0 ↔ a = b := by
  unfold cmpK
  split
  · omega
  · split <;> omega
theorem cmpK_rg (a b : Nat) : -1 ≤ cmpK a b ∧ cmpK a b ≤ 1 := by
  unfold cmpK
  split
  · omega
  · split <;> omega
theorem cmpN_rg (a b : Int) : -1 ≤ cmpN a b ∧ cmpN a b ≤ 1 := by
  unfold cmpN
  split
  · omega
  · split <;> omega
/-- By the space, then by the page. -/
theorem cmpK_two (a b : Nat) : cmpK a b = orN (cmpN (a / 512 : Nat) (b / 512 : Nat)) (cmpN (a % 512 : Nat) (b % 512 : Nat)) := by
  unfold orN cmpK cmpN
  rcases Nat.lt_trichotomy (a / 512) (b / 512) with h | h | h
  · have h1 : ((a / 512 : Nat) : Int) < ((b / 512 : Nat) : Int) := by omega
    rw [if_pos h1, if_pos (by omega)]; rfl
  · have h1 : ¬ ((a / 512 : Nat) : Int) < ((b / 512 : Nat) : Int) := by omega
    have h2 : ¬ ((b / 512 : Nat) : Int) < ((a / 512 : Nat) : Int) := by omega
    rw [if_neg h1, if_neg h2, if_pos rfl]
    by_cases h3 : a % 512 < b % 512
    · rw [if_pos (by omega), if_pos (by omega)]
    · by_cases h4 : b % 512 < a % 512
      · rw [if_neg (by omega), if_pos (by omega), if_neg (by omega), if_pos (by omega)]
      · rw [if_neg (by omega), if_neg (by omega), if_neg (by omega), if_neg (by omega)]
  · have h1 : ¬ ((a / 512 : Nat) : Int) < ((b / 512 : Nat) : Int) := by omega
    have h2 : ((b / 512 : Nat) : Int) < ((a / 512 : Nat) : Int) := by omega
    rw [if_neg h1, if_pos h2, if_neg (by omega), if_pos (by omega), if_neg (by decide)]
end Go.Pt
namespace Go.Proofs.YtdddkfpcbfgocaaGreat
open Go.RowKit Go.Over Go.Seg Go.Grow Go.Pt
set_option maxRecDepth 100000 in set_option maxHeartbeats 3200000 in
theorem compareI (x y : Int) (w : World) : Calls Tryz.prog 58 #[.int .i64 x, .int .i64 y] w fun e w' => e = .returned (.int .i64 (cmpN x y)) ∧ w = w' := by
  rcases (show x < y ∨ (¬ x < y ∧ y < x) ∨ (¬ x < y ∧ ¬ y < x) by omega) with h | ⟨h, h2⟩ | ⟨h, h2⟩
  · have HE := Lib.hid (show cmpN x y = -1 by unfold cmpN; rw [if_pos h])
    go_enter Tryz.func58, Tryz.ntmps58
    go_wp2_with (go_at_call 107; refine (cnan _ _).mono ?_; rintro e w' ⟨rfl, rfl⟩)
    go_ret
    exact ⟨ret_int (by rw [HE.out]), rfl⟩
  · have HE := Lib.hid (show cmpN x y = 1 by unfold cmpN; rw [if_neg h, if_pos h2])
    go_enter Tryz.func58, Tryz.ntmps58
    go_wp2_with (go_at_call 107; refine (cnan _ _).mono ?_; rintro e w' ⟨rfl, rfl⟩)
    go_ret
    exact ⟨ret_int (by rw [HE.out]), rfl⟩
  · have HE := Lib.hid (show cmpN x y = 0 by unfold cmpN; rw [if_neg h, if_neg h2])
    go_enter Tryz.func58, Tryz.ntmps58
    go_wp2_with (go_at_call 107; refine (cnan _ _).mono ?_; rintro e w' ⟨rfl, rfl⟩)
    go_ret
    exact ⟨ret_int (by rw [HE.out]), rfl⟩
set_option maxRecDepth 100000 in set_option maxHeartbeats 3200000 in
theorem orI (x y : Int) (g c : Nat) (w : World) (H : Blk w g 3 [.int .i64 x, .int .i64 y]) : Calls Tryz.prog 161 #[.slice (some ⟨g, 0, none⟩) 2 c] w fun e w' => e = .returned (.int .i64 (orN x y)) ∧ w = w' := by
  have c0 : w.cell? ⟨g, 0, none⟩ = some (.int .i64 x) := by rw [H.cell]; rfl
  have c1 : w.cell? ⟨g, 1, none⟩ = some (.int .i64 y) := by rw [H.cell]; rfl
  by_cases hx : x = 0
  · have HE := Lib.hid (show orN x y = y by unfold orN; rw [if_pos hx])
    rw [hx] at c0
    clear hx
    by_cases hy : y = 0
    · have HY := Lib.hid hy
      rw [hy] at c1
      clear hy
      go_enter Tryz.func161, Tryz.ntmps161
      go_wp2
      go_loopg [8] 2 (fun gg v8 wr => ∃ i : Nat, i + gg = 2 ∧ v8 = .int .i64 i ∧ w = wr)
      case atStart => exact ⟨0, rfl, rfl, rfl⟩
      case round =>
        obtain ⟨i, hi, rfl, rfl⟩ := hrel
        cases gk with
        | zero =>
          have hin : ¬ i < 2 := by omega
          clear hi
          go_wp2
          go_ret
          exact ⟨ret_int (by rw [HE.out, HY.out]), rfl⟩
        | succ gg =>
          have ci : w.cell? ⟨g, i, none⟩ = some (.int .i64 0) := by
            rcases (show i = 0 ∨ i = 1 by omega) with e | e
            · rw [e]; exact c0
            · rw [e]; exact c1
          have hin : i < 2 := by omega
          have HI := Lib.hid hi
          clear hi
          go_wp2
          go_roundg gg
          case rel => exact ⟨i + 1, by have := HI.out; omega, by go_num, rfl⟩
          case measure => omega
    · have ty : (y != 0) = true := by simpa using hy
      clear hy
      go_enter Tryz.func161, Tryz.ntmps161
      go_wp2
      go_loopg [8] 2 (fun gg v8 wr => ∃ i : Nat, i + gg = 2 ∧ i ≤ 1 ∧ v8 = .int .i64 i ∧ w = wr)
      case atStart => exact ⟨0, rfl, by omega, rfl, rfl⟩
      case round =>
        obtain ⟨i, hi, hi1, rfl, rfl⟩ := hrel
        rcases (show i = 0 ∨ i = 1 by omega) with e | e
        · have ci : w.cell? ⟨g, i, none⟩ = some (.int .i64 0) := by rw [e]; exact c0
          have hin : i < 2 := by omega
          obtain ⟨gg, rfl⟩ : ∃ gg, gk = gg + 1 := ⟨gk - 1, by omega⟩
          have HI := Lib.hid hi; have HE0 := Lib.hid e
          clear hi e
          go_wp2
          go_roundg gg
          case rel => exact ⟨i + 1, by have := HI.out; omega, by have := HE0.out; omega, by go_num, rfl⟩
          case measure => omega
        · have ci : w.cell? ⟨g, i, none⟩ = some (.int .i64 y) := by rw [e]; exact c1
          have hin : i < 2 := by omega
          clear hi e hi1
          go_wp2
          go_ret
          exact ⟨ret_int (by rw [HE.out]), rfl⟩
  · have HE := Lib.hid (show orN x y = x by unfold orN; rw [if_neg hx])
    have tx : (x != 0) = true := by simpa using hx
    clear hx
    go_enter Tryz.func161, Tryz.ntmps161
    go_wp2
    go_loopg [8] 2 (fun gg v8 wr => v8 = .int .i64 0 ∧ w = wr)
    case atStart => exact ⟨rfl, rfl⟩
    case round =>
      obtain ⟨rfl, rfl⟩ := hrel
      go_wp2
      go_ret
      exact ⟨ret_int (by rw [HE.out]), rfl⟩
end Go.Proofs.YtdddkfpcbfgocaaGreat
namespace Go.Proofs.YtdddkfpcbfgocaaGreat
open Go.RowKit Go.Over Go.Seg Go.Grow Go.Pt
def S124 (g2 g3 : Nat) (sa pa sb pb : Int) (U : World) : Prop := (U.cell? ⟨g2, 0, none⟩ = some (.int .i64 sa) ∧ U.cell? ⟨g2, 1, none⟩ = some (.int .i64 pa)) ∧ U.cell? ⟨g3, 0, none⟩ = some (.int .i64 sb) ∧ U.cell? ⟨g3, 1, none⟩ = some (.int .i64 pb)
theorem S124.later {g2 g3 : Nat} {sa pa sb pb : Int} {U V : World} (h : S124 g2 g3 sa pa sb pb U) (hb : Below U.heap.size U V) : S124 g2 g3 sa pa sb pb V := ⟨⟨cell_later hb h.1.1, cell_later hb h.1.2⟩, cell_later hb h.2.1, cell_later hb h.2.2⟩
set_option maxRecDepth 100000 in set_option maxHeartbeats 3200000 in
theorem order2 (sa pa sb pb : Int) (w : World) : Calls Tryz.prog 124 #[.agg #[.int .i64 sa, .int .i64 pa], .agg #[.int .i64 sb, .int .i64 pb]] w fun e w' => e = .returned (.int .i64 (orN (cmpN sa sb) (cmpN pa pb))) ∧ Below w.heap.size w w' := by
  have b0 := below_box w (.cells #[.int .i64 sa, .int .i64 pa] 126)
  have x0 := Blk.new w 126 #[.int .i64 sa, .int .i64 pa] _ rfl
  have b1 := below_box (w.alloc (.cells #[.int .i64 sa, .int .i64 pa] 126)) (.cells #[.int .i64 sb, .int .i64 pb] 126)
  have x1 := Blk.new (w.alloc (.cells #[.int .i64 sa, .int .i64 pa] 126)) 126 #[.int .i64 sb, .int .i64 pb] _ rfl
  have s1 : (w.alloc (.cells #[.int .i64 sa, .int .i64 pa] 126)).heap.size = w.heap.size + 1 := by simp
  have hne : w.heap.size ≠ w.heap.size + 1 := by omega
  rw [s1] at x1
  have x0' := x0.later b1
  have u1 := below_then b0 b1
  have HC1 := Lib.hid (fun W => compareI sa sb W)
  have HC2 := Lib.hid (fun W => compareI pa pb W)
  obtain ⟨A, hA⟩ : ∃ A, cmpN sa sb = A := ⟨_, rfl⟩
  obtain ⟨B, hB⟩ : ∃ B, cmpN pa pb = B := ⟨_, rfl⟩
  rw [hA] at HC1 ⊢
  rw [hB] at HC2 ⊢
  clear hA hB s1 b0 b1 x0
  go_enter Tryz.func124, Tryz.ntmps124
  go_upto_region 1 with fail
  obtain ⟨w1, hw1⟩ : ∃ V, V = (w.alloc (.cells #[.int .i64 sa, .int .i64 pa] 126)).alloc (.cells #[.int .i64 sb, .int .i64 pb] 126) := ⟨_, rfl⟩
  rw [← hw1] at x0' x1 u1 ⊢
  obtain ⟨g3, hg3⟩ : ∃ g, w.heap.size + 1 = g := ⟨_, rfl⟩
  rw [hg3] at x1 hne ⊢
  obtain ⟨g2, hg2⟩ : ∃ g, w.heap.size = g := ⟨_, rfl⟩
  have hS : S124 g2 g3 sa pa sb pb w1 := ⟨⟨by rw [← hg2, x0'.cell]; rfl, by rw [← hg2, x0'.cell]; rfl⟩, by rw [x1.cell]; rfl, by rw [x1.cell]; rfl⟩
  have U1 := Lib.hid u1
  rw [hg2] at hne ⊢
  clear hw1 x0' x1 u1 hg2 hg3
  refine wp_region_plan (S124 g2 g3 sa pa sb pb) (.quiet [0, 1, 2, 3, 5, 6, 7, 8] (.only 4 (.only 9 (.only 10 (.only 11 (.quiet [12] .done)))))) 99 (by kernel_rfl) (by kernel_rfl) (hS.later (Below.refl _ _).drew) ?_
  intro W2 hWW hWe
  have U2 := Lib.hid (below_then U1.out (show Below w1.heap.size w1 W2 by rw [hWe]; exact (Below.refl _ _).drew))
  clear hWe hS U1
  simp only [wpPlan, inOrder, List.filterMap_cons, List.filterMap_nil, List.getElem?_cons_zero, List.getElem?_cons_succ]
  have q1 := fun z => (hold_ok (S0 := S124 g2 g3 sa pa sb pb) hWW z).1.1
  have q2 := fun z => (hold_ok (S0 := S124 g2 g3 sa pa sb pb) hWW z).1.2
  have q3 := fun z => (hold_ok (S0 := S124 g2 g3 sa pa sb pb) hWW z).2.1
  have q4 := fun z => (hold_ok (S0 := S124 g2 g3 sa pa sb pb) hWW z).2.2
  show wpQuiet _ _ _ _ (_ :: _ :: _ :: _ :: _ :: _ :: _ :: [_]) _
  repeat (go_big_quiet_step (fail))
  refine wpQuiet_nil ?_
  have HW := Lib.hid hWW
  clear q1 q2 q3 q4 hWW
  show wpList _ _ _ [_] _ _
  go_wp2_with fail
  refine (HC1.out _).mono ?_
  rintro e _ ⟨rfl, rfl⟩
  go_wp2
  refine ⟨hold_of HW.out, ?_⟩
  show wpList _ _ _ [_] _ _
  go_wp2_with fail
  refine (HC2.out _).mono ?_
  rintro e _ ⟨rfl, rfl⟩
  go_wp2
  refine ⟨hold_of HW.out, ?_⟩
  have b3 := below_box W2 (.cells #[.int .i64 A, .int .i64 B] 3)
  have x3 := Blk.new W2 3 #[.int .i64 A, .int .i64 B] _ rfl
  have HS3 := Lib.hid (HW.out.later b3)
  have U3 := Lib.hid (below_then U2.out b3)
  show wpList _ _ _ [_] _ _
  go_wp2_with fail
  refine ⟨hold_of HS3.out, ?_⟩
  obtain ⟨w3, hw3⟩ : ∃ V, V = W2.alloc (.cells #[.int .i64 A, .int .i64 B] 3) := ⟨_, rfl⟩
  obtain ⟨gs, hgs⟩ : ∃ g, W2.heap.size = g := ⟨_, rfl⟩
  rw [← hw3] at x3 HS3 U3 ⊢
  rw [hgs] at x3 ⊢
  clear b3 hw3 hgs
  have HOR := Lib.hid (orI A B gs 2 w3 x3)
  show wpList _ _ _ [_] _ _
  go_wp2_with fail
  refine HOR.out.mono ?_
  rintro e _ ⟨rfl, rfl⟩
  go_wp2
  refine ⟨hold_of HS3.out, ?_⟩
  show wpQuiet _ _ _ _ ([_]) _
  repeat (go_big_quiet_step (fail))
  refine wpQuiet_nil ?_
  refine NoPanic.normal ?_
  go_wp2
  go_ret
  exact ⟨rfl, U3.out⟩
theorem order (a b : Nat) (w : World) : Calls Tryz.prog 124 #[.agg (mpC a).toArray, .agg (mpC b).toArray] w fun e w' => e = .returned (.int .i64 (cmpK a b)) ∧ Below w.heap.size w w' := by
  rw [cmpK_two]
  exact order2 _ _ _ _ w
set_option maxRecDepth 100000 in set_option maxHeartbeats 3200000 in
theorem spaceOk (n : Nat) (h : n < 8) (w : World) : Calls Tryz.prog 160 #[.int .i64 n] w fun e w' => e = .returned (.bool true) ∧ w = w' := by
  have t0 : (0 : Int) ≤ (n : Int) := by omega
  go_enter Tryz.func160, Tryz.ntmps160
  go_wp2
  go_ret
  exact ⟨ret_bool (by simp; omega), rfl⟩
set_option maxRecDepth 100000 in set_option maxHeartbeats 3200000 in
theorem validOk2 (s p : Nat) (h1 : s < 8) (h2 : p < 512) (w : World) : Calls Tryz.prog 122 #[.agg #[.int .i64 s, .int .i64 p]] w fun e w' => e = .returned (.bool true) ∧ Below w.heap.size w w' := by
  have b0 := below_box w (.cells #[.int .i64 s, .int .i64 p] 126)
  have x0 := Blk.new w 126 #[.int .i64 s, .int .i64 p] _ rfl
  have HSP := Lib.hid (fun W => spaceOk s h1 W)
  clear h1
  go_enter Tryz.func122, Tryz.ntmps122
  go_upto_region 1 with fail
  obtain ⟨w1, hw1⟩ : ∃ V, V = w.alloc (.cells #[.int .i64 s, .int .i64 p] 126) := ⟨_, rfl⟩
  rw [← hw1] at x0 b0 ⊢
  have c0 : w1.cell? ⟨w.heap.size, 0, none⟩ = some (.int .i64 s) := by rw [x0.cell]; rfl
  have c1 : w1.cell? ⟨w.heap.size, 1, none⟩ = some (.int .i64 p) := by rw [x0.cell]; rfl
  have U1 := Lib.hid b0
  obtain ⟨g, hg⟩ : ∃ g, w.heap.size = g := ⟨_, rfl⟩
  rw [hg] at c0 c1 ⊢
  clear hw1 hg b0 x0
  have tp : (0 : Int) ≤ (p : Int) := by omega
  go_wp2_with fail
  refine (HSP.out _).mono ?_
  rintro e _ ⟨rfl, rfl⟩
  go_wp2
  go_ret
  exact ⟨ret_bool (by simp; omega), U1.out⟩
theorem validOk (a : Nat) (h : a < 4096) (w : World) : Calls Tryz.prog 122 #[.agg (mpC a).toArray] w fun e w' => e = .returned (.bool true) ∧ Below w.heap.size w w' :=
  validOk2 (a / 512) (a % 512) (by omega) (by omega) w
set_option maxRecDepth 100000 in set_option maxHeartbeats 3200000 in
theorem chkFn2 (sa pa : Int) (cs : List Value) (hcs : cs = [.int .i64 sa, .int .i64 pa]) (w : World) (HV : ∀ W, Calls Tryz.prog 122 #[.agg cs.toArray] W fun e w' => e = .returned (.bool true) ∧ Below W.heap.size W w') : Calls Tryz.prog 159 #[.agg #[.int .i64 sa, .int .i64 pa]] w fun e w' => e = .returned (.bool (!true)) ∧ Below w.heap.size w w' := by
  have b0 := below_box w (.cells #[.int .i64 sa, .int .i64 pa] 126)
  have x0 := Blk.new w 126 #[.int .i64 sa, .int .i64 pa] cs (by rw [hcs])
  have hl : cs.length = 2 := by rw [hcs]; rfl
  have HV := Lib.hid HV; have HL := Lib.hid hl
  clear hcs hl
  go_enter Tryz.func159, Tryz.ntmps159
  go_upto_region 1 with fail
  go_wp2_with ((with_reducible refine wpList_load_part (off := 0) (cs := cs) Tryz.underlying126 rfl (by rw [infoM]; exact congrArg some HL.out.symm) ?_ x0 (fun j v hv => (by rw [Nat.zero_add]; exact hv)) ?_); (focus rfl))
  refine (HV.out _).mono ?_
  rintro e w2 ⟨rfl, b2⟩
  have U2 := below_then b0 b2
  clear HV x0 b0 b2
  go_wp2
  go_ret
  exact ⟨rfl, U2⟩
theorem chkFn (a : Nat) (h : a < 4096) (w : World) : Calls Tryz.prog 159 #[.agg (mpC a).toArray] w fun e w' => e = .returned (.bool (!true)) ∧ Below w.heap.size w w' :=
  chkFn2 _ _ (mpC a) rfl w (fun W => validOk a h W)
end Go.Proofs.YtdddkfpcbfgocaaGreat
namespace Go.Pt
/-- Mappings in order. -/
structure ML (M : List Nat) : Prop where
  asc : List.Pairwise (· < ·) M
  rg : ∀ k ∈ M, k < 4096
theorem ML.len {M : List Nat} (h : ML M) : M.length ≤ 4096 := by
  have := len_le (l := M) (m := List.range 4096) (h.asc.imp fun h => Nat.ne_of_lt h) fun k hk => List.mem_range.2 (h.rg k hk)
  rw [List.length_range] at this
  exact this
theorem ML.lt {M : List Nat} (h : ML M) {i j a b : Nat} (hi : M[i]? = some a) (hj : M[j]? = some b) (hij : i < j) : a < b := by
  have := List.pairwise_iff_getElem.1 h.asc
  rw [List.getElem?_eq_some_iff] at hi hj
  have h2 := this i j hi.1 hj.1 hij
  rw [hi.2, hj.2] at h2
  exact h2
end Go.Pt
namespace Go.Proofs.YtdddkfpcbfgocaaGreat
open Go.RowKit Go.Over Go.Seg Go.Grow Go.Pt
/-- Mappings in a row. -/
def OwnM (w : World) (B : Nat) (v : Value) (M : List Nat) : Prop := w.ownsRow B 126 2 v M.length (M.flatMap mpC)
theorem OwnM.later {w w' : World} {B : Nat} {v : Value} {M : List Nat} (h : OwnM w B v M) (hb : Below w.heap.size w w') : OwnM w' B v M := own_later h hb
theorem OwnM.nil (w : World) (B : Nat) : OwnM w B (.slice none 0 0) [] := World.ownsRow_nil _ _ _ _
theorem OwnM.form {w : World} {B : Nat} {v : Value} {M : List Nat} (h : OwnM w B v M) : (v = .slice none 0 0 ∧ M = []) ∨ ∃ (g c : Nat), v = .slice (some ⟨g, 0, none⟩) M.length c ∧ M.length ≤ c ∧ c ≤ maxLen := by
  unfold OwnM at h
  rcases h.2 with ⟨h1, h2⟩ | ⟨g, cap, cur, h1, _, _, h4, h5, _⟩
  · exact .inl ⟨h1, List.eq_nil_of_length_eq_zero h2⟩
  · exact .inr ⟨g, cap, h1, h4, h5⟩
set_option maxRecDepth 100000 in set_option maxHeartbeats 3200000 in
theorem idx0 (fv : Value) (w : World) : Calls Tryz.prog 172 #[.slice none 0 0, fv] w fun e w' => e = .returned (.int .i64 (-1)) ∧ w = w' := by
  go_enter Tryz.func172, Tryz.ntmps172
  go_wp2
  go_loopg [8] 0 (fun gg v8 wr => gg = 0 ∧ v8 = .int .i64 0 ∧ w = wr)
  case atStart => exact ⟨rfl, rfl, rfl⟩
  case round =>
    obtain ⟨rfl, rfl, rfl⟩ := hrel
    go_wp2
    go_ret
    exact ⟨rfl, rfl⟩
set_option maxRecDepth 100000 in set_option maxHeartbeats 3200000 in
theorem contF (v : Value) (M : List Nat) (B : Nat) (w : World) (H : OwnM w B v M) (hM : ML M) : Calls Tryz.prog 158 #[v, .func (.func 159) #[] #[]] w fun e w' => e = .returned (.bool false) ∧ Below w.heap.size w w' := by
  rcases H.form with ⟨rfl, rfl⟩ | ⟨g, c, rfl, h1, h2⟩
  · go_enter Tryz.func158, Tryz.ntmps158
    go_wp2_with fail
    refine (idx0 _ _).mono ?_
    rintro e _ ⟨rfl, rfl⟩
    go_wp2
    go_ret
    exact ⟨rfl, Below.refl _ _⟩
  · have HI := Lib.hid (idxChk g M.length c B (fun k => decide (k < 4096)) (fun _ => True) M w ⟨fun W x hx _ => (by
        have := chkFn x (hM.rg x hx) W
        simpa [hM.rg x hx] using this), fun _ _ _ _ => trivial, fun _ _ _ _ => trivial⟩ trivial H rfl (by have := hM.len; omega))
    obtain ⟨n, hn⟩ : ∃ n, M.length = n := ⟨_, rfl⟩
    have HR := Lib.hid hM.rg
    rw [hn] at HI ⊢
    clear H hM hn h1 h2
    go_enter Tryz.func158, Tryz.ntmps158
    go_wp2_with fail
    refine HI.out.mono ?_
    rintro e w2 ⟨b2, ⟨rfl, _⟩ | ⟨i, x, rfl, hx, hk, _⟩⟩
    · go_wp2
      go_ret
      exact ⟨rfl, b2⟩
    · have := HR.out x (List.mem_of_getElem? hx)
      simp at hk
      omega
def SB (g : Nat) (zs : List Value) (U : World) : Prop := Blk U g 126 zs
set_option maxRecDepth 100000 in set_option maxHeartbeats 3200000 in
theorem rcheck (v : Value) (M : List Nat) (B : Nat) (w : World) (H : OwnM w B v M) (hM : ML M) : Calls Tryz.prog 121 #[v] w fun e w' => e = .returned (.int .i64 0) ∧ Below w.heap.size w w' := by
  have HCF := Lib.hid (contF v M B w H hM)
  rcases H.form with ⟨rfl, rfl⟩ | ⟨g, c, rfl, h1, h2⟩
  · clear H hM
    go_enter Tryz.func121, Tryz.ntmps121
    go_wp2_with fail
    refine HCF.out.mono ?_
    rintro e w2 ⟨rfl, b2⟩
    clear HCF
    go_wp2
    go_loopg [3] 0 (fun gg v3 wr => gg = 0 ∧ v3 = .int .i64 1 ∧ w2 = wr)
    case atStart => exact ⟨rfl, rfl, rfl⟩
    case round =>
      obtain ⟨rfl, rfl, rfl⟩ := hrel
      go_wp2
      go_ret
      exact ⟨rfl, b2⟩
  · obtain ⟨n, hn⟩ : ∃ n, M.length = n := ⟨_, rfl⟩
    have HH := Lib.hid H; have HM := Lib.hid hM; have HN := Lib.hid hn
    have hn4 := hM.len
    rw [hn] at HCF h1 hn4 HH ⊢
    clear H hM hn
    go_enter Tryz.func121, Tryz.ntmps121
    go_wp2_with fail
    refine HCF.out.mono ?_
    rintro e w2 ⟨rfl, b2⟩
    clear HCF
    go_wp2
    go_loopg [3] n (fun gg v3 wr => ∃ j : Nat, n ≤ j + 1 + gg ∧ j ≤ n ∧ v3 = .int .i64 ((j + 1 : Nat) : Int) ∧ Below w.heap.size w wr)
    case atStart => exact ⟨0, by omega, by omega, rfl, b2⟩
    case round =>
      clear b2
      obtain ⟨i, hi, hi2, rfl, b3⟩ := hrel
      by_cases hin : i + 1 < n
      · have HI := Lib.hid hi
        obtain ⟨x, hx⟩ := get_some HN.out (show i < n by omega)
        obtain ⟨y, hy⟩ := get_some HN.out hin
        have hxy := HM.out.lt hx hy (by omega)
        have O3 := own_later HH.out b3
        rw [HN.out] at O3
        obtain ⟨zs, hB, hzx⟩ := own_elem mpC_len O3 hx
        obtain ⟨zs2, hB2, hzy⟩ := own_elem mpC_len O3 hy
        obtain rfl : zs2 = zs := by unfold Blk at hB hB2; rw [hB] at hB2; simpa using hB2.symm
        have HZX := Lib.hid hzx; have HZY := Lib.hid hzy
        have HOR := Lib.hid (fun W => order x y W)
        have hK := cmpK_lt.2 hxy
        have hKr := (cmpK_rg x y).1
        obtain ⟨K, hKe⟩ : ∃ K, cmpK x y = K := ⟨_, rfl⟩
        rw [hKe] at HOR hK hKr
        clear hi hx hy hxy hzx hzy O3 hB2 hKe
        go_upto_region 6 with fail
        refine wp_region_plan (SB g zs2) (.quiet [0, 1, 2, 3, 4, 5, 6, 7, 8] (.only 9 (.quiet [10] .done))) 99 (by kernel_rfl) (by kernel_rfl) (hB.later (Below.refl _ _).drew) ?_
        intro W2 hWW hWe
        have b4 := below_then b3 (show Below wr.heap.size wr W2 by rw [hWe]; exact (Below.refl _ _).drew)
        clear hWe hB b3
        simp only [wpPlan, inOrder, List.filterMap_cons, List.filterMap_nil, List.getElem?_cons_zero, List.getElem?_cons_succ]
        show wpQuiet _ _ _ _ (_ :: _ :: _ :: _ :: _ :: _ :: _ :: _ :: [_]) _
        repeat (go_big_quiet_step (fail))
        refine wpQuiet_load_part (off := i * 2) (cs := mpC x) Tryz.underlying126 rfl (by rw [infoM]; rfl) rfl (fun U ⟨z, hz⟩ => by rw [hz]; exact hold_ok (S0 := SB g zs2) hWW z) HZX.out ?_
        simp only [Act.put, List.setIfInBounds_toArray, List.set_cons_succ, List.set_cons_zero]
        repeat (go_big_quiet_step (fail))
        refine wpQuiet_load_part (off := (i + 1) * 2) (cs := mpC y) Tryz.underlying126 rfl (by rw [infoM]; rfl) rfl (fun U ⟨z, hz⟩ => by rw [hz]; exact hold_ok (S0 := SB g zs2) hWW z) HZY.out ?_
        simp only [Act.put, List.setIfInBounds_toArray, List.set_cons_succ, List.set_cons_zero]
        refine wpQuiet_nil ?_
        have HW := Lib.hid hWW
        clear hWW HZX HZY
        show wpList _ _ _ [_] _ _
        go_wp2_with fail
        refine (HOR.out W2).mono ?_
        rintro e w5 ⟨rfl, b5⟩
        have HS5 := Lib.hid (show SB g zs2 w5 from Blk.later HW.out b5)
        have b6 := below_then b4 b5
        clear HW b4 b5 HOR
        go_wp2
        refine ⟨hold_of HS5.out, ?_⟩
        show wpQuiet _ _ _ _ ([_]) _
        repeat (go_big_quiet_step (fail))
        refine wpQuiet_nil ?_
        refine NoPanic.normal ?_
        obtain ⟨gg, rfl⟩ : ∃ gg, gk = gg + 1 := ⟨gk - 1, by have := HI.out; omega⟩
        go_wp2
        go_roundg gg
        case rel => exact ⟨i + 1, by have := HI.out; omega, by omega, by go_num, b6⟩
        case measure => omega
      · clear hi hi2
        go_wp2
        go_ret
        exact ⟨rfl, b3⟩
end Go.Proofs.YtdddkfpcbfgocaaGreat
namespace Go.Proofs.YtdddkfpcbfgocaaGreat
open Go.RowKit Go.Over Go.Seg Go.Grow Go.Pt
/-- Mappings that are read. -/
def RdM (w : World) (a : Option Addr) (M : List Nat) : Prop :=
  ∀ (i x : Nat), M[i]? = some x → ∃ (g : Nat) (zs : List Value), a = some ⟨g, 0, none⟩ ∧ Blk w g 126 zs ∧ ∀ (j : Nat) (v : Value), (mpC x)[j]? = some v → zs[i * 2 + j]? = some v
theorem RdM.below {w w' : World} {a : Option Addr} {M : List Nat} (h : RdM w a M) (hb : Below w.heap.size w w') : RdM w' a M := fun i x hx => by
  obtain ⟨g, zs, h1, h2, h3⟩ := h i x hx
  exact ⟨g, zs, h1, h2.later hb, h3⟩
theorem OwnM.rd {w : World} {B : Nat} {v : Value} {M : List Nat} (h : OwnM w B v M) : ∃ (a : Option Addr) (c : Nat), v = .slice a M.length c ∧ M.length ≤ c ∧ c ≤ maxLen ∧ (a = none → c = 0) ∧ RdM w a M := by
  rcases h.form with ⟨rfl, rfl⟩ | ⟨g, c, rfl, h1, h2⟩
  · exact ⟨none, 0, rfl, Nat.le_refl _, Nat.zero_le _, fun _ => rfl, fun i x hx => by simp at hx⟩
  · refine ⟨_, c, rfl, h1, h2, (fun e => by cases e), fun i x hx => ?_⟩
    obtain ⟨zs, hB, hz⟩ := own_elem mpC_len h hx
    exact ⟨g, zs, rfl, hB, hz⟩
def S123 (g g4 : Nat) (zs : List Value) (x : Nat) (U : World) : Prop := Blk U g 126 zs ∧ Blk U g4 126 (mpC x)
theorem S123.later {g g4 x : Nat} {zs : List Value} {U V : World} (h : S123 g g4 zs x U) (hb : Below U.heap.size U V) : S123 g g4 zs x V := ⟨h.1.later hb, h.2.later hb⟩
/-- Where a mapping stands or is to stand. -/
structure Pos (M : List Nat) (x i : Nat) : Prop where
  le : i ≤ M.length
  lo : ∀ k y, k < i → M[k]? = some y → y < x
  hi : ∀ k y, i ≤ k → M[k]? = some y → x ≤ y
def BsAns (M : List Nat) (x : Nat) (w : World) (e : Ending) (w' : World) : Prop := ∃ i : Nat, e = .returned (.tuple #[.int .i64 i, .bool (M.contains x)]) ∧ Pos M x i ∧ Below w.heap.size w w'
theorem Pos.in {M : List Nat} {x i : Nat} (hM : ML M) (h : Pos M x i) : M.contains x = true ↔ M[i]? = some x := by
  rw [List.contains_iff_mem]
  constructor
  · intro hm
    obtain ⟨j, hj⟩ := List.getElem?_of_mem hm
    rcases Nat.lt_trichotomy j i with h1 | h1 | h1
    · have := h.lo j x h1 hj; omega
    · rw [← h1]; exact hj
    · have hi : i < M.length := by rw [List.getElem?_eq_some_iff] at hj; have := hj.1; omega
      have h2 := h.hi i _ (Nat.le_refl _) (List.getElem?_eq_getElem hi)
      have h3 := hM.lt (List.getElem?_eq_getElem hi) hj h1
      omega
  · exact fun h => List.mem_of_getElem? h
set_option maxRecDepth 100000 in set_option maxHeartbeats 3200000 in
theorem bsearch (v : Value) (M : List Nat) (B x : Nat) (w : World) (H : OwnM w B v M) (hM : ML M) : Calls Tryz.prog 123 #[v, .agg (mpC x).toArray, .func (.func 124) #[] #[]] w (BsAns M x w) := by
  have hn4 := hM.len
  obtain ⟨a, c, rfl, _, _, _, hrd⟩ := H.rd
  obtain ⟨n, hn⟩ : ∃ n, M.length = n := ⟨_, rfl⟩
  rw [hn] at hn4 ⊢
  have HN := Lib.hid hn; have HM := Lib.hid hM
  have b0 := below_box w (.cells (mpC x).toArray 126)
  have x0 := Blk.new w 126 (mpC x).toArray (mpC x) rfl
  have R0 := hrd.below b0
  clear H hn hM hrd
  go_enter Tryz.func123, Tryz.ntmps123
  go_upto_region 1 with fail
  obtain ⟨w1, hw1⟩ : ∃ V, V = w.alloc (.cells (mpC x).toArray 126) := ⟨_, rfl⟩
  obtain ⟨g4, hg4⟩ : ∃ g, w.heap.size = g := ⟨_, rfl⟩
  rw [← hw1] at b0 x0 R0 ⊢
  rw [hg4] at x0 ⊢
  clear hw1 hg4
  go_wp2
  go_loopg [9, 10] n (fun gg v9 v10 wr => ∃ (i j : Nat), i ≤ j ∧ j ≤ n ∧ j ≤ i + gg ∧ v9 = .int .i64 i ∧ v10 = .int .i64 j ∧ (∀ k y, k < i → M[k]? = some y → y < x) ∧ (∀ k y, j ≤ k → M[k]? = some y → x ≤ y) ∧ Below w.heap.size w wr ∧ Blk wr g4 126 (mpC x) ∧ RdM wr a M)
  case atStart => exact ⟨0, n, by omega, by omega, by omega, rfl, rfl, fun k s hk => absurd hk (by omega), fun k s hk hs => by
    have h2 : k < M.length := by rw [List.getElem?_eq_some_iff] at hs; exact hs.1
    have := HN.out
    omega, b0, x0, R0⟩
  case round =>
    clear b0 x0 R0
    obtain ⟨i, j, hij, hjn, hg, rfl, rfl, h1, h2, b3, x3, R3⟩ := hrel
    have H1 := Lib.hid h1; have H2 := Lib.hid h2; have HG := Lib.hid hg
    by_cases hlt : i < j
    · obtain ⟨m, hmid⟩ : ∃ m, (i + j) / 2 = m := ⟨_, rfl⟩
      have hm1 : i ≤ m := by omega
      have hm2 : m < j := by omega
      obtain ⟨y, hy⟩ := get_some HN.out (show m < n by omega)
      obtain ⟨g, zs, rfl, hB, hz⟩ := R3 m y hy
      have HY := Lib.hid hy; have HMI := Lib.hid hmid; have HZ := Lib.hid hz
      have HOR := Lib.hid (fun W => order y x W)
      obtain ⟨K, hK⟩ : ∃ K, cmpK y x = K := ⟨_, rfl⟩
      have HK := Lib.hid hK
      have hKr := cmpK_rg y x
      rw [hK] at HOR hKr
      clear h1 h2 hg hy hz hK
      go_upto_region 5 with fail
      refine wp_region_plan (S123 g g4 zs x) (.quiet [0, 1, 2, 3, 4, 5] (.only 6 (.quiet [7] .done))) 99 (by kernel_rfl) (by kernel_rfl) (S123.later ⟨hB, x3⟩ (Below.refl _ _).drew) ?_
      intro W2 hWW hWe
      have bW : Below wr.heap.size wr W2 := by rw [hWe]; exact (Below.refl _ _).drew
      have b4 := below_then b3 bW
      have R4 := R3.below bW
      clear hWe hB b3 R3 bW x3
      simp only [wpPlan, inOrder, List.filterMap_cons, List.filterMap_nil, List.getElem?_cons_zero, List.getElem?_cons_succ]
      show wpQuiet _ _ _ _ (_ :: _ :: _ :: _ :: _ :: [_]) _
      repeat (go_big_quiet_step (fail))
      refine wpQuiet_load_part (off := (i + j) / 2 * 2) (cs := mpC y) Tryz.underlying126 rfl (by rw [infoM]; rfl) rfl (fun U ⟨z, hz⟩ => by rw [hz]; exact (hold_ok (S0 := S123 g g4 zs x) hWW z).1) (by rw [HMI.out]; exact HZ.out) ?_
      simp only [Act.put, List.setIfInBounds_toArray, List.set_cons_succ, List.set_cons_zero]
      refine wpQuiet_load_part (off := 0) (cs := mpC x) Tryz.underlying126 rfl (by rw [infoM]; rfl) rfl (fun U ⟨z, hz⟩ => by rw [hz]; exact (hold_ok (S0 := S123 g g4 zs x) hWW z).2) (fun j v hv => by rw [Nat.zero_add]; exact hv) ?_
      simp only [Act.put, List.setIfInBounds_toArray, List.set_cons_succ, List.set_cons_zero]
      refine wpQuiet_nil ?_
      have HW := Lib.hid hWW
      clear hWW HZ
      show wpList _ _ _ [_] _ _
      go_wp2_with fail
      refine (HOR.out W2).mono ?_
      rintro e w5 ⟨rfl, b5⟩
      have hS5 := S123.later HW.out b5
      have HS5 := Lib.hid hS5
      have b6 := below_then b4 b5
      have R6 := R4.below b5
      have x6 := hS5.2
      clear HW b4 b5 HOR hS5 R4
      go_wp2
      refine ⟨hold_of HS5.out, ?_⟩
      show wpQuiet _ _ _ _ ([_]) _
      repeat (go_big_quiet_step (fail))
      refine wpQuiet_nil ?_
      refine NoPanic.normal ?_
      clear HS5
      obtain ⟨gg, rfl⟩ : ∃ gg, gk = gg + 1 := ⟨gk - 1, by have := HG.out; omega⟩
      by_cases hk : K < 0
      · have hyx : y < x := by rw [← HK.out] at hk; exact cmpK_lt.1 hk
        have HYX := Lib.hid hyx
        clear hyx
        go_wp2
        go_roundg gg
        case rel =>
          refine ⟨m + 1, j, by omega, by omega, by have := HG.out; omega, by rw [← HMI.out]; go_num, rfl, fun k s hk hs => ?_, H2.out, b6, x6, R6⟩
          rcases Nat.lt_or_ge k m with h | h
          · have := HM.out.lt hs HY.out h; have := HYX.out; omega
          · obtain rfl : k = m := by omega
            rw [HY.out] at hs; cases hs; exact HYX.out
        case measure => omega
      · have hyx : ¬ y < x := fun h => hk (by rw [← HK.out]; exact cmpK_lt.2 h)
        have HYX := Lib.hid hyx
        clear hyx
        go_wp2
        go_roundg gg
        case rel =>
          refine ⟨i, m, by omega, by omega, by have := HG.out; omega, rfl, by rw [← HMI.out]; go_num, H1.out, fun k s hk hs => ?_, b6, x6, R6⟩
          rcases Nat.lt_or_ge m k with h | h
          · have := HM.out.lt HY.out hs h; have := HYX.out; omega
          · obtain rfl : k = m := by omega
            rw [HY.out] at hs; cases hs; have := HYX.out; omega
        case measure => omega
    · obtain rfl : i = j := by omega
      have hpos : Pos M x i := ⟨by rw [HN.out]; exact hjn, h1, h2⟩
      have hin2 := hpos.in HM.out
      have HP := Lib.hid hpos
      clear h1 h2 hg hpos
      by_cases hin : i < n
      · obtain ⟨y, hy⟩ := get_some HN.out hin
        obtain ⟨g, zs, rfl, hB, hz⟩ := R3 i y hy
        have HIN := Lib.hid (show M.contains x = (cmpK y x == 0) by
          rw [Bool.eq_iff_iff, hin2, hy, beq_iff_eq, cmpK_eq]
          constructor
          · exact fun h => Option.some.inj h
          · exact fun h => by rw [h])
        have HY := Lib.hid hy; have HZ := Lib.hid hz
        have HOR := Lib.hid (fun W => order y x W)
        obtain ⟨K, hK⟩ : ∃ K, cmpK y x = K := ⟨_, rfl⟩
        have hKr := cmpK_rg y x
        rw [hK] at HOR hKr HIN
        clear hy hz hK hin2
        go_upto_region 8 with fail
        refine wp_region_plan (S123 g g4 zs x) (.quiet [0, 1, 2, 3, 4, 5, 6, 7, 8, 9, 10] (.only 11 (.quiet [12, 13, 14, 15] .done))) 99 (by kernel_rfl) (by kernel_rfl) (S123.later ⟨hB, x3⟩ (Below.refl _ _).drew) ?_
        intro W2 hWW hWe
        have b4 := below_then b3 (show Below wr.heap.size wr W2 by rw [hWe]; exact (Below.refl _ _).drew)
        clear hWe hB b3 R3 x3
        simp only [wpPlan, inOrder, List.filterMap_cons, List.filterMap_nil, List.getElem?_cons_zero, List.getElem?_cons_succ]
        show wpQuiet _ _ _ _ (_ :: _ :: _ :: _ :: _ :: _ :: _ :: _ :: _ :: _ :: [_]) _
        repeat (go_big_quiet_step (fail))
        refine wpQuiet_load_part_g (off := i * 2) (cs := mpC y) rfl Tryz.underlying126 rfl (by rw [infoM]; rfl) rfl (fun U ⟨z, hz⟩ => by rw [hz]; exact (hold_ok (S0 := S123 g g4 zs x) hWW z).1) HZ.out ?_
        simp only [Act.put, List.setIfInBounds_toArray, List.set_cons_succ, List.set_cons_zero]
        refine wpQuiet_load_part_g (off := 0) (cs := mpC x) rfl Tryz.underlying126 rfl (by rw [infoM]; rfl) rfl (fun U ⟨z, hz⟩ => by rw [hz]; exact (hold_ok (S0 := S123 g g4 zs x) hWW z).2) (fun j v hv => by rw [Nat.zero_add]; exact hv) ?_
        simp only [Act.put, List.setIfInBounds_toArray, List.set_cons_succ, List.set_cons_zero]
        refine wpQuiet_nil ?_
        have HW := Lib.hid hWW
        clear hWW HZ
        show wpList _ _ _ [_] _ _
        go_wp2_with fail
        refine (HOR.out W2).mono ?_
        rintro e w5 ⟨rfl, b5⟩
        have HS5 := Lib.hid (S123.later HW.out b5)
        have b6 := below_then b4 b5
        clear HW b4 b5 HOR
        go_wp2
        refine ⟨hold_of HS5.out, ?_⟩
        show wpQuiet _ _ _ _ (_ :: _ :: _ :: [_]) _
        repeat (go_big_quiet_step (fail))
        refine wpQuiet_nil ?_
        refine NoPanic.normal ?_
        clear HS5
        go_wp2
        go_ret2
        exact ⟨i, ret_ib rfl HIN.out, HP.out, b6⟩
      · obtain rfl : i = n := by omega
        have HIN := Lib.hid (show M.contains x = false by
          rw [← Bool.not_eq_true, hin2, List.getElem?_eq_none (by have := HN.out; omega)]
          simp)
        clear hin2
        go_upto_region 8 with fail
        refine wp_region_plan (fun U => Blk U g4 126 (mpC x)) (.quiet [0, 1, 2, 3, 4, 5, 6, 7, 8, 9, 10] (.only 11 (.quiet [12, 13, 14, 15] .done))) 99 (by kernel_rfl) (by kernel_rfl) (x3.later (Below.refl _ _).drew) ?_
        intro W2 hWW hWe
        have b4 := below_then b3 (show Below wr.heap.size wr W2 by rw [hWe]; exact (Below.refl _ _).drew)
        clear hWe b3 R3 x3
        simp only [wpPlan, inOrder, List.filterMap_cons, List.filterMap_nil, List.getElem?_cons_zero, List.getElem?_cons_succ]
        show wpQuiet _ _ _ _ (_ :: _ :: _ :: _ :: _ :: _ :: _ :: _ :: _ :: _ :: [_]) _
        repeat (go_big_quiet_step (fail))
        refine wpQuiet_nil ?_
        have HW := Lib.hid hWW
        clear hWW
        show wpList _ _ _ [_] _ _
        go_wp2_with fail
        refine ⟨hold_of HW.out, ?_⟩
        show wpQuiet _ _ _ _ (_ :: _ :: _ :: [_]) _
        repeat (go_big_quiet_step (fail))
        refine wpQuiet_nil ?_
        refine NoPanic.normal ?_
        go_wp2
        go_ret2
        exact ⟨i, ret_ib rfl HIN.out, HP.out, b4⟩
end Go.Proofs.YtdddkfpcbfgocaaGreat
namespace Go.Proofs.YtdddkfpcbfgocaaGreat
open Go.RowKit Go.Over Go.Seg Go.Grow Go.Pt
theorem K123 : Kind Tryz.prog 123 126 2 16 := Kind.mk' (z := .agg #[.int .i64 0, .int .i64 0]) Tryz.underlying123 (by kernel_rfl) rfl (by decide) (by decide)
end Go.Proofs.YtdddkfpcbfgocaaGreat
namespace Go.Proofs.YtdddkfpcbfgocaaGreat.Rw
open Go.RowKit Go.Over Go.Pt Go.Seg Go.Grow
theorem ins_here (cur xs : List Value) (i n : Nat) (x1 x2 : Value) (hi : i < n) (hx : xs.length = n * 2) (ht : cur.take (n * 2) = xs) :
    (lay (lay cur ((i + 1) * 2) (xs.drop (i * 2))) (i * 2) [x1, x2]).take ((n + 1) * 2) = xs.take (i * 2) ++ [x1, x2] ++ xs.drop (i * 2) := by
  have h1 : cur = xs ++ cur.drop (n * 2) := by rw [← ht, List.take_append_drop]
  have h2 : xs = xs.take (i * 2) ++ xs.drop (i * 2) := (List.take_append_drop _ _).symm
  obtain ⟨p, hp⟩ : ∃ p, xs.take (i * 2) = p := ⟨_, rfl⟩
  obtain ⟨q, hq⟩ : ∃ q, xs.drop (i * 2) = q := ⟨_, rfl⟩
  obtain ⟨r, hr⟩ : ∃ r, cur.drop (n * 2) = r := ⟨_, rfl⟩
  have lp : p.length = i * 2 := by rw [← hp, List.length_take]; omega
  have lq : q.length = (n - i) * 2 := by rw [← hq, List.length_drop]; omega
  rw [hp, hq] at h2 ⊢
  rw [h2, hr] at h1
  have e1 : lay cur ((i + 1) * 2) q = p ++ q.take 2 ++ q ++ r.drop 2 := by
    unfold lay
    rw [h1]
    have a1 : (p ++ q ++ r).take ((i + 1) * 2) = p ++ q.take 2 := by
      rw [List.append_assoc, List.take_append, List.take_of_length_le (by omega), List.take_append_of_le_length (by omega)]
      congr 2; omega
    have a2 : (p ++ q ++ r).drop ((i + 1) * 2 + q.length) = r.drop 2 := by
      rw [List.drop_append, List.drop_eq_nil_of_le (by simp; omega), List.nil_append]
      congr 1; simp; omega
    rw [a1, a2]
  have e2 : lay (p ++ q.take 2 ++ q ++ r.drop 2) (i * 2) [x1, x2] = p ++ [x1, x2] ++ q ++ r.drop 2 := by
    unfold lay
    have lq2 : (q.take 2).length = 2 := by rw [List.length_take]; omega
    have a1 : (p ++ q.take 2 ++ q ++ r.drop 2).take (i * 2) = p := by
      rw [List.append_assoc, List.append_assoc, List.take_append_of_le_length (by omega), List.take_of_length_le (by omega)]
    have a2 : (p ++ q.take 2 ++ q ++ r.drop 2).drop (i * 2 + [x1, x2].length) = q ++ r.drop 2 := by
      rw [List.append_assoc (p ++ q.take 2), List.drop_append, List.drop_eq_nil_of_le (by simp only [List.length_append, List.length_cons, List.length_nil]; omega), List.nil_append]
      rw [show i * 2 + [x1, x2].length - (p ++ q.take 2).length = 0 by simp only [List.length_append, List.length_cons, List.length_nil]; omega, List.drop_zero]
    rw [a1, a2]
    simp
  rw [e1, e2, List.append_assoc (p ++ [x1, x2]), ← List.append_assoc (p ++ [x1, x2]), List.take_append_of_le_length (by simp; omega), List.take_of_length_le (by simp; omega)]
theorem ins_there (xs zs : List Value) (i n : Nat) (x1 x2 : Value) (hi : i < n) (hx : xs.length = n * 2) :
    (lay (lay (xs.take (i * 2) ++ zs) (i * 2) [x1, x2]) ((i + 1) * 2) (xs.drop (i * 2))).take ((n + 1) * 2) = xs.take (i * 2) ++ [x1, x2] ++ xs.drop (i * 2) := by
  obtain ⟨p, hp⟩ : ∃ p, xs.take (i * 2) = p := ⟨_, rfl⟩
  obtain ⟨q, hq⟩ : ∃ q, xs.drop (i * 2) = q := ⟨_, rfl⟩
  have lp : p.length = i * 2 := by rw [← hp, List.length_take]; omega
  have lq : q.length = (n - i) * 2 := by rw [← hq, List.length_drop]; omega
  rw [hp]
  rw [hq]
  have e1 : lay (p ++ zs) (i * 2) [x1, x2] = p ++ [x1, x2] ++ zs.drop 2 := by
    unfold lay
    rw [List.take_append_of_le_length (by omega), List.take_of_length_le (by omega), List.drop_append, List.drop_eq_nil_of_le (by simp; omega), List.nil_append]
    congr 2; simp; omega
  have e2 : lay (p ++ [x1, x2] ++ zs.drop 2) ((i + 1) * 2) q = p ++ [x1, x2] ++ q ++ (zs.drop 2).drop q.length := by
    unfold lay
    rw [List.take_append_of_le_length (by simp; omega), List.take_of_length_le (by simp; omega), List.drop_append, List.drop_eq_nil_of_le (by simp; omega), List.nil_append]
    congr 2; simp; omega
  rw [e1, e2, List.take_append_of_le_length (by simp; omega), List.take_of_length_le (by simp; omega)]
/-- What Insert gives. -/
def InsAns (w : World) (base : Nat) (V : Value) (n : Nat) (ys : List Value) (e : Ending) (w' : World) : Prop :=
  ∃ V', e = .returned V' ∧ w'.ownsRow base 126 2 V' (n + 1) ys ∧ w.grownBy w' V.ownBlock ∧ (∀ k, V'.ownBlock = some k → V.ownBlock = some k ∨ w.heap.size ≤ k)
set_option maxRecDepth 100000 in set_option maxHeartbeats 1600000 in
theorem insert_end (base : Nat) (V : Value) (n : Nat) (xs : List Value) (x1 x2 : Value) (vb : Nat) (w : World) (hown : w.ownsRow base 126 2 V n xs) (hv : Blk w vb 126 [x1, x2]) (h1 : x1.oneCell' = true) (h2 : x2.oneCell' = true) (hn : n ≤ 100000) (hb : base ≤ w.heap.size) :
    Calls Tryz.prog 125 #[V, .int .i64 n, .slice (some ⟨vb, 0, none⟩) 1 1] w (InsAns w base V n (xs ++ [x1, x2])) := by
  obtain ⟨a, c, rfl, hnc, hcm, hz⟩ := own_form hown
  unfold maxLen at hcm
  have hsrc : Grow.Src w 2 (some ⟨vb, 0, none⟩) 1 1 [x1, x2] := by
    refine ⟨rfl, by simp [h1, h2], .inr ⟨_, rfl, fun j u hj => ?_⟩⟩
    rw [show (⟨vb, 0, none⟩ : Addr).add j = ⟨vb, j, none⟩ by unfold Addr.add; split <;> simp_all, hv.cell]
    exact hj
  have t0 : ((n : Int) == (n : Int)) = true := by simp
  go_enter Tryz.func125, Tryz.ntmps125
  go_wp2_with (at_builtin; refine wpList_append_k K123 rfl (.tmp 23) (.tmp 24) rfl _ n xs rfl hown _ 1 1 [x1, x2] rfl hsrc (by omega) hb ?_)
  all_goals
    intro V' w' ho hg hw
    go_wp2
    go_ret
    exact ⟨_, rfl, ho, by cases a <;> exact hg, by cases a <;> exact hw⟩
theorem row_open {w : World} {base n : Nat} {V : Value} {xs : List Value} (h : w.ownsRow base 126 2 V n xs) (hn : 0 < n) :
    ∃ g cap cur, V = .slice (some ⟨g, 0, none⟩) n cap ∧ base ≤ g ∧ Blk w g 126 cur ∧ n ≤ cap ∧ cap ≤ maxLen ∧ cur.length = cap * 2 ∧ cur.take (n * 2) = xs ∧ xs.length = n * 2 := by
  rcases h.2 with ⟨_, rfl⟩ | ⟨g, cap, cur, rfl, h1, h2, h3, h4, h5, h6⟩
  · omega
  · exact ⟨g, cap, cur.toList, rfl, h1, by unfold Blk; simpa using h2, h3, h4, by simpa using h5, h6, h.1⟩
theorem row_shut {w : World} {base n g cap : Nat} {cur xs : List Value} (hg : base ≤ g) (hb : Blk w g 126 cur) (hn : n ≤ cap) (hc : cap ≤ maxLen) (hl : cur.length = cap * 2) (ht : cur.take (n * 2) = xs) : w.ownsRow base 126 2 (.slice (some ⟨g, 0, none⟩) n cap) n xs := by
  refine ⟨by rw [← ht, List.length_take, hl]; omega, .inr ⟨g, cap, cur.toArray, rfl, hg, hb, hn, hc, by simpa using hl, by simpa using ht⟩⟩
theorem add_row (g o j : Nat) : (⟨g, o, none⟩ : Addr).add j = ⟨g, o + j, none⟩ := by unfold Addr.add; split <;> simp_all
theorem blk_src {w : World} {g o : Nat} {T : TypeId} {cur cs : List Value} (h : Blk w g T cur) (hc : ∀ j u, cs[j]? = some u → cur[o + j]? = some u) : ∀ j u, cs[j]? = some u → w.cell? ((⟨g, o, none⟩ : Addr).add j) = some u := by
  intro j u hj
  rw [add_row, h.cell]
  exact hc j u hj
theorem drop_src {cur xs : List Value} {k m : Nat} (ht : cur.take m = xs) : ∀ j u, (xs.drop k)[j]? = some u → cur[k + j]? = some u := by
  intro j u hj
  rw [List.getElem?_drop, ← ht, List.getElem?_take] at hj
  split at hj
  · exact hj
  · cases hj
theorem grown_trans {w w1 w2 : World} {row : Option Nat} (h : w.grownBy w1 row) (h' : w1.grownBy w2 row) : w.grownBy w2 row :=
  ⟨h'.os.trans h.os, h'.tape.trans h.tape, h'.output.trans h.output, Nat.le_trans h.size h'.size, fun k hk hne => (h'.block k (Nat.lt_of_lt_of_le hk h.size) hne).trans (h.block k hk hne)⟩
set_option maxRecDepth 100000 in set_option maxHeartbeats 1600000 in
theorem insert_room (base : Nat) (g n cap i : Nat) (cur xs : List Value) (x1 x2 : Value) (vb : Nat) (w : World) (hg : base ≤ g) (hB : Blk w g 126 cur) (hcl : cur.length = cap * 2) (hcm : cap ≤ maxLen) (ht : cur.take (n * 2) = xs) (hx : xs.length = n * 2) (h1c : ∀ u ∈ xs, u.oneCell' = true)
    (hv : Blk w vb 126 [x1, x2]) (h1 : x1.oneCell' = true) (h2 : x2.oneCell' = true) (hne : vb ≠ g) (hi : i < n) (hroom : n + 1 ≤ cap) (hn : n ≤ 100000) :
    Calls Tryz.prog 125 #[.slice (some ⟨g, 0, none⟩) n cap, .int .i64 i, .slice (some ⟨vb, 0, none⟩) 1 1] w (InsAns w base (.slice (some ⟨g, 0, none⟩) n cap) n (xs.take (i * 2) ++ [x1, x2] ++ xs.drop (i * 2))) := by
  unfold maxLen at hcm
  have hfin := Lib.hid (ins_here cur xs i n x1 x2 hi hx ht)
  have hcs := Lib.hid (show (xs.drop (i * 2)).length = (n - i) * 2 by rw [List.length_drop, hx]; omega)
  have hsrc := drop_src (k := i * 2) ht
  obtain ⟨q, hq⟩ : ∃ q, xs.drop (i * 2) = q := ⟨_, rfl⟩
  have h1q : ∀ u ∈ q, u.oneCell' = true := fun u hu => h1c u (by rw [← hq] at hu; exact List.mem_of_mem_drop hu)
  have hov : ∀ lb cb, (callFunc 162 #[.slice (some ⟨vb, 0, none⟩) 1 1, .slice (some ⟨g, (i + 1) * 2, none⟩) lb cb]).run Tryz.prog w = .ok (.value (.bool false)) w := fun lb cb => by
    have hs1 : w.shape? vb = some (126, 2) := by unfold Blk at hv; simp [World.shape?, hv]
    have hs2 : w.shape? g = some (126, cur.length) := by unfold Blk at hB; simp [World.shape?, hB]
    rw [run_callFunc_extern Tryz.func162 (by kernel_rfl) (by kernel_rfl) (by kernel_rfl) (e := Extern.SlicesOverlaps.overlaps #[123, 123] #[4]) (by kernel_rfl),
      Lib.run_overlaps_apart w 123 4 126 Tryz.underlying123 2 (by intro w; kernel_rfl) ⟨vb, 0, none⟩ ⟨g, (i + 1) * 2, none⟩ 1 1 lb cb hne 126 126 2 cur.length hs1 hs2 (by omega) (hv.frozen 0) (hv.frozen 2)]
    rfl
  have HSRC := Lib.hid hsrc
  have HT := Lib.hid ht; have HX := Lib.hid hx; have HQ := Lib.hid hq; have HCL := Lib.hid hcl; have H1C := Lib.hid h1c
  have t1 : ((i : Int) == (n : Int)) = false := by simp; omega
  have t2 : ¬ ((cap : Int) < (n : Int) + 1) := by omega
  clear hsrc ht hx hq hcl h1c
  go_enter Tryz.func125, Tryz.ntmps125
  go_wp2_with fail
  refine wp_region_segs (fun _ => True) [(true, 8), (false, 1)] (by kernel_rfl) (by kernel_rfl) trivial ?_
  intro W _ hWe
  have hBW : Blk W g 126 cur := by rw [hWe]; exact hB
  have hvW : Blk W vb 126 [x1, x2] := by rw [hWe]; exact hv
  have hgW : w.grownBy W (some g) := by rw [hWe]; exact ⟨rfl, rfl, rfl, Nat.le_refl _, fun _ _ _ => rfl⟩
  clear hWe hov
  simp only [wpSegs, List.take_succ_cons, List.take_zero, List.drop_succ_cons, List.drop_zero]
  have e1 : IntKind.i64.wrap ((i : Int) + 1) = (i : Int) + 1 := IntWalk.i64_in _ (by omega)
  have e3 : ((i : Int) + 1).toNat = i + 1 := by omega
  have e4 : (0 : Int) ≤ (i : Int) + 1 := by omega
  have e5 : (i : Int) + 1 ≤ (n : Int) + 1 := by omega
  have e6 : (i : Int) ≤ (n : Int) + 1 := by omega
  have e7 : ¬ cap = i + 1 := by omega
  have e8 : ¬ cap = i := by omega
  repeat (go_big_quiet_step (fail))
  refine wpQuiet_nil ?_
  clear e1 e3 e4 e5 e6
  refine wpList_copy_k K123 rfl (.tmp 73) (.tmp 76) rfl g ((i + 1) * 2) _ _ ⟨g, i * 2, none⟩ _ _ rfl rfl cur 126 (xs.drop (i * 2)) hBW ?c1 (blk_src hBW HSRC.out) ?c2 (by rw [HQ.out]; exact h1q) ?_
  case c1 => rw [hcs.out]; congr 1; simp only [Nat.min_def]; split <;> omega
  case c2 => rw [hcs.out, HCL.out]; omega
  intro w2 hB2 hg2
  have hv2 : Blk w2 vb 126 [x1, x2] := hvW.grown hg2 (by simpa using Ne.symm hne)
  have hgw2 : w.grownBy w2 (some g) := grown_trans hgW hg2
  refine wpList_nil ⟨hold_of (S0 := fun _ => True) trivial, NoPanic.normal ?_⟩
  simp only [Act.put, List.setIfInBounds_toArray, List.set_cons_succ, List.set_cons_zero]
  have hl2 := Lib.hid (show (lay cur ((i + 1) * 2) (xs.drop (i * 2))).length = cap * 2 by rw [lay_len (by rw [hcs.out, HCL.out]; omega), HCL.out])
  clear hBW hvW hgW hg2 hB hv
  go_wp2_with (refine wpList_copy_k K123 rfl (.tmp 80) (.tmp 81) rfl g (i * 2) _ _ ⟨vb, 0, none⟩ _ _ rfl rfl _ 126 [x1, x2] hB2 ?d1 (blk_src hv2 (by intro j u h; simpa using h)) ?d2 (by simp [h1, h2]) ?_)
  case d1 => simp only [Nat.min_def, List.length_cons, List.length_nil]; split <;> omega
  case d2 => rw [hl2.out]; simp; omega
  intro w3 hB3 hg3
  have hgw3 : w.grownBy w3 (some g) := grown_trans hgw2 hg3
  have hl3 := lay_len (L := lay cur ((i + 1) * 2) (xs.drop (i * 2))) (o := i * 2) (cs := [x1, x2]) (by rw [hl2.out]; simp; omega)
  have hown := row_shut (n := n + 1) hg hB3 (by omega) (by unfold maxLen; omega) (by rw [hl3, hl2.out]) hfin.out
  clear hB2 hg3 hgw2 hB3 hl3
  go_wp2
  go_ret
  exact ⟨_, rfl, hown, hgw3, fun k hk => .inl hk⟩
set_option maxRecDepth 100000 in set_option maxHeartbeats 1600000 in
theorem insert_grow (base : Nat) (g n cap i : Nat) (cur xs : List Value) (x1 x2 : Value) (vb : Nat) (w : World) (hg : base ≤ w.heap.size) (hB : Blk w g 126 cur) (hcm : cap ≤ maxLen) (ht : cur.take (n * 2) = xs) (hx : xs.length = n * 2) (h1c : ∀ u ∈ xs, u.oneCell' = true)
    (hv : Blk w vb 126 [x1, x2]) (h1 : x1.oneCell' = true) (h2 : x2.oneCell' = true) (hi : i < n) (hnc : n ≤ cap) (hroom : cap < n + 1) (hn : n ≤ 100000) :
    Calls Tryz.prog 125 #[.slice (some ⟨g, 0, none⟩) n cap, .int .i64 i, .slice (some ⟨vb, 0, none⟩) 1 1] w (InsAns w base (.slice (some ⟨g, 0, none⟩) n cap) n (xs.take (i * 2) ++ [x1, x2] ++ xs.drop (i * 2))) := by
  unfold maxLen at hcm
  have hfin := Lib.hid (fun zs => ins_there xs zs i n x1 x2 hi hx)
  have hcs := Lib.hid (show (xs.drop (i * 2)).length = (n - i) * 2 by rw [List.length_drop, hx]; omega)
  have htl := Lib.hid (show (xs.take (i * 2)).length = i * 2 by rw [List.length_take, hx]; omega)
  have HSRC := Lib.hid (drop_src (k := i * 2) ht)
  have HSRC0 := Lib.hid (show ∀ j u, (xs.take (i * 2))[j]? = some u → cur[0 + j]? = some u by
    intro j u hj
    rw [List.getElem?_take] at hj
    split at hj
    · have := drop_src (k := 0) ht j u (by simpa using hj)
      exact this
    · cases hj)
  have HX := Lib.hid hx; have H1C := Lib.hid h1c
  have t1 : ((i : Int) == (n : Int)) = false := by simp; omega
  have t2 : (cap : Int) < (n : Int) + 1 := by omega
  have e1 : IntKind.i64.wrap ((n : Int) + 1 - (i : Int)) = ((n + 1 - i : Nat) : Int) := by rw [IntWalk.i64_in _ (by omega)]; omega
  have e2 : (n : Int) + 1 - (i : Int) = ((n + 1 - i : Nat) : Int) := by omega
  have e8 : ¬ cap = i := by omega
  clear ht hx h1c
  go_enter Tryz.func125, Tryz.ntmps125
  go_wp2_with (at_builtin; refine wpList_append_zeros_k K123 rfl (.tmp 34) (.tmp 39) 3 Tryz.underlying3 rfl ⟨g, 0, none⟩ i cap (n + 1 - i) rfl rfl (xs.take (i * 2)) htl.out (blk_src hB HSRC0.out) (by omega) (by omega) (by omega) ?_)
  intro w2 G zs hB2 hlz hG1 hG2 hg2 hsz
  have hv2 : Blk w2 vb 126 [x1, x2] := hv.grown hg2 (by simp)
  have hO2 : Blk w2 g 126 cur := hB.grown hg2 (by simp)
  have hgne : g ≠ w.heap.size := by have := hB.lt; omega
  have hLZ := Lib.hid hlz
  have hbig : (xs.take (i * 2) ++ zs).length = G * 2 := by rw [List.length_append]; first | exact hlz | (rw [List.length_take]; exact hlz)
  have HBIG := Lib.hid hbig
  have eG1 : ¬ G = i := by omega
  have eG2 : ¬ G = i + 1 := by omega
  have en : i + (n + 1 - i) = n + 1 := by omega
  unfold maxLen at hG2
  clear hlz hbig hB hv
  rw [en]
  clear e1 e2 en
  go_wp2_with (refine wpList_copy_k K123 rfl (.tmp 43) (.tmp 44) rfl w.heap.size (i * 2) _ _ ⟨vb, 0, none⟩ _ _ rfl rfl _ 126 [x1, x2] hB2 ?d1 (blk_src hv2 (by intro j u h; simpa using h)) ?d2 (by simp [h1, h2]) ?_)
  case d1 => simp only [Nat.min_def, List.length_cons, List.length_nil]; split <;> omega
  case d2 => rw [HBIG.out]; simp; omega
  intro w3 hB3 hg3
  have hO3 : Blk w3 g 126 cur := hO2.grown hg3 (by simpa using Ne.symm hgne)
  have hl3 := Lib.hid (show (lay (xs.take (i * 2) ++ zs) (i * 2) [x1, x2]).length = G * 2 by rw [lay_len (by rw [HBIG.out]; simp; omega), HBIG.out])
  have hgw3 : ∀ k, k < w.heap.size → w3.heap[k]? = w.heap[k]? := fun k hk => (hg3.block k (by omega) (by simp; omega)).trans (hg2.block k hk (by simp))
  have hos3 : w3.os = w.os ∧ w3.tape = w.tape ∧ w3.output = w.output ∧ w.heap.size < w3.heap.size := ⟨hg3.os.trans hg2.os, hg3.tape.trans hg2.tape, hg3.output.trans hg2.output, by have := hg3.size; omega⟩
  clear hB2 hg3 hg2 hO2 hv2 hsz
  go_wp2
  refine wp_region_segs (fun _ => True) [(true, 8), (false, 1)] (by kernel_rfl) (by kernel_rfl) trivial ?_
  intro W _ hWe
  have hBW : Blk W w.heap.size 126 (lay (xs.take (i * 2) ++ zs) (i * 2) [x1, x2]) := by rw [hWe]; exact hB3
  have hOW : Blk W g 126 cur := by rw [hWe]; exact hO3
  have hgW : ∀ k, k < w.heap.size → W.heap[k]? = w.heap[k]? := fun k hk => by rw [hWe]; exact hgw3 k hk
  have hosW : W.os = w.os ∧ W.tape = w.tape ∧ W.output = w.output ∧ w.heap.size < W.heap.size := by rw [hWe]; exact hos3
  clear hWe hB3 hO3 hgw3 hos3
  simp only [wpSegs, List.take_succ_cons, List.take_zero, List.drop_succ_cons, List.drop_zero]
  have e1 : IntKind.i64.wrap ((i : Int) + 1) = (i : Int) + 1 := IntWalk.i64_in _ (by omega)
  have e3 : ((i : Int) + 1).toNat = i + 1 := by omega
  have e4 : (0 : Int) ≤ (i : Int) + 1 := by omega
  have e5 : (i : Int) + 1 ≤ (n : Int) + 1 := by omega
  have e6 : (i : Int) ≤ (n : Int) := by omega
  repeat (go_big_quiet_step (fail))
  refine wpQuiet_nil ?_
  clear e1 e3 e4 e5 e6
  refine wpList_copy_k K123 rfl (.tmp 50) (.tmp 53) rfl w.heap.size ((i + 1) * 2) _ _ ⟨g, i * 2, none⟩ _ _ rfl rfl _ 126 (xs.drop (i * 2)) hBW ?c1 (blk_src hOW HSRC.out) ?c2 (fun u hu => H1C.out u (List.mem_of_mem_drop hu)) ?_
  case c1 => rw [hcs.out]; congr 1; simp only [Nat.min_def]; split <;> omega
  case c2 => rw [hcs.out, hl3.out]; omega
  intro w4 hB4 hg4
  have hl4 := lay_len (L := lay (xs.take (i * 2) ++ zs) (i * 2) [x1, x2]) (o := (i + 1) * 2) (cs := xs.drop (i * 2)) (by rw [hcs.out, hl3.out]; omega)
  have hown := row_shut (base := base) (n := n + 1) (cap := G) hg hB4 (by omega) (by unfold maxLen; omega) (by rw [hl4, hl3.out]) (hfin.out zs)
  have hfinal : w.grownBy w4 (some g) := ⟨hg4.os.trans hosW.1, hg4.tape.trans hosW.2.1, hg4.output.trans hosW.2.2.1, by have := hg4.size; omega, fun k hk _ => (hg4.block k (by omega) (by simp; omega)).trans (hgW k hk)⟩
  refine wpList_nil ⟨hold_of (S0 := fun _ => True) trivial, NoPanic.normal ?_⟩
  simp only [Act.put, List.setIfInBounds_toArray, List.set_cons_succ, List.set_cons_zero]
  clear hBW hOW hgW hosW hB4 hg4 hl4
  go_wp2
  go_ret
  exact ⟨_, rfl, hown, hfinal, fun k hk => .inr (by simp [Value.ownBlock] at hk; omega)⟩
theorem insert_37 (base : Nat) (V : Value) (n i : Nat) (xs : List Value) (x1 x2 : Value) (vb : Nat) (w : World) (hown : w.ownsRow base 126 2 V n xs) (h1c : ∀ u ∈ xs, u.oneCell' = true) (hv : Blk w vb 126 [x1, x2]) (h1 : x1.oneCell' = true) (h2 : x2.oneCell' = true) (hne : V.ownBlock ≠ some vb) (hi : i ≤ n) (hn : n ≤ 100000) (hb : base ≤ w.heap.size) :
    Calls Tryz.prog 125 #[V, .int .i64 i, .slice (some ⟨vb, 0, none⟩) 1 1] w (InsAns w base V n (xs.take (i * 2) ++ [x1, x2] ++ xs.drop (i * 2))) := by
  rcases Nat.eq_or_lt_of_le hi with rfl | hlt
  · have := insert_end base V i xs x1 x2 vb w hown hv h1 h2 hn hb
    have hl := hown.1
    rw [List.take_of_length_le (by omega), List.drop_eq_nil_of_le (by omega), List.append_nil]
    exact this
  · obtain ⟨g, cap, cur, rfl, hg, hB, h3, h4, h5, h6, h7⟩ := row_open hown (by omega)
    by_cases hr : n + 1 ≤ cap
    · exact insert_room base g n cap i cur xs x1 x2 vb w hg hB h5 h4 h6 h7 h1c hv h1 h2 (fun e => hne (by rw [e]; rfl)) hlt hr hn
    · exact insert_grow base g n cap i cur xs x1 x2 vb w hb hB h4 h6 h7 h1c hv h1 h2 hlt h3 (by omega) hn
theorem del_here (cur xs new : List Value) (i n : Nat) (hi : i < n) (hx : xs.length = n * 2) (ht : cur.take (n * 2) = xs) (hnew : new.take ((n - 1) * 2) = (lay cur (i * 2) (xs.drop ((i + 1) * 2))).take ((n - 1) * 2)) :
    new.take ((n - 1) * 2) = xs.take (i * 2) ++ xs.drop ((i + 1) * 2) := by
  have hle : n * 2 ≤ cur.length := by
    have := congrArg List.length ht
    rw [List.length_take, hx] at this; omega
  rw [hnew]
  unfold lay
  have a1 : cur.take (i * 2) = xs.take (i * 2) := by rw [← ht, List.take_take]; congr 1; omega
  rw [a1]
  have l1 : (xs.take (i * 2)).length = i * 2 := by rw [List.length_take]; omega
  have l2 : (xs.drop ((i + 1) * 2)).length = (n - 1 - i) * 2 := by rw [List.length_drop]; omega
  rw [List.take_append_of_le_length (by rw [List.length_append]; omega), List.take_of_length_le (by rw [List.length_append]; omega)]
def DelAns (w : World) (base : Nat) (V : Value) (n : Nat) (ys : List Value) (e : Ending) (w' : World) : Prop :=
  ∃ V', e = .returned V' ∧ w'.ownsRow base 126 2 V' (n - 1) ys ∧ w.grownBy w' V.ownBlock ∧ V'.ownBlock = V.ownBlock
set_option maxRecDepth 100000 in set_option maxHeartbeats 1600000 in
theorem delete_45 (base : Nat) (V : Value) (n i : Nat) (xs : List Value) (w : World) (hown : w.ownsRow base 126 2 V n xs) (h1c : ∀ u ∈ xs, u.oneCell' = true) (hi : i < n) (hn : n ≤ 100000) :
    Calls Tryz.prog 133 #[V, .int .i64 i, .int .i64 ((i + 1 : Nat) : Int)] w (DelAns w base V n (xs.take (i * 2) ++ xs.drop ((i + 1) * 2))) := by
  obtain ⟨g, cap, cur, rfl, hg, hB, hnc, hcm, hcl, ht, hx⟩ := row_open hown (by omega)
  unfold maxLen at hcm
  have hfin := Lib.hid (fun new => del_here cur xs new i n hi hx ht)
  have hcs := Lib.hid (show (xs.drop ((i + 1) * 2)).length = (n - (i + 1)) * 2 by rw [List.length_drop, hx]; omega)
  have HSRC := Lib.hid (drop_src (k := (i + 1) * 2) ht)
  have HX := Lib.hid hx; have H1C := Lib.hid h1c; have HCL := Lib.hid hcl
  have t1 : ((i : Int) == ((i + 1 : Nat) : Int)) = false := by simp; omega
  have hclr := clrM
  have HC := Lib.hid hclr
  clear ht hx h1c hcl hclr hown
  have e0 : ((i + 1 : Nat) : Int) ≤ (n : Int) := by omega
  have e2 : (i : Int) ≤ ((i + 1 : Nat) : Int) := by omega
  by_cases hci : cap = i + 1
  · have hni : n = i + 1 := by omega
    subst hci
    have HNI := Lib.hid hni; clear hni
    go_enter Tryz.func133, Tryz.ntmps133
    go_wp2_with fail
    have HS2 := Lib.hid (show ∀ j u, (xs.drop ((i + 1) * 2))[j]? = some u → cur[0 + j]? = some u by
      intro j u hj
      rw [List.eq_nil_of_length_eq_zero (l := xs.drop ((i + 1) * 2)) (by rw [hcs.out]; omega)] at hj
      simp at hj)
    refine wp_region_segs (fun _ => True) [(true, 6), (false, 1), (true, 1)] (by kernel_rfl) (by kernel_rfl) trivial ?_
    intro W _ hWe
    have hBW : Blk W g 126 cur := by rw [hWe]; exact hB
    have hgW : w.grownBy W (some g) := by rw [hWe]; exact ⟨rfl, rfl, rfl, Nat.le_refl _, fun _ _ _ => rfl⟩
    clear hWe hB
    simp only [wpSegs, List.take_succ_cons, List.take_zero, List.drop_succ_cons, List.drop_zero]
    repeat (go_big_quiet_step (fail))
    refine wpQuiet_nil ?_
    refine wpList_append_room_k K123 rfl (.tmp 22) (.tmp 25) rfl g i (i + 1) ⟨g, 0, none⟩ _ _ rfl rfl cur hBW (xs.drop ((i + 1) * 2)) ?c1 (blk_src hBW HS2.out) (fun u hu => H1C.out u (List.mem_of_mem_drop hu)) ?c2 HCL.out ?_
    case c1 => have := hcs.out; omega
    case c2 => omega
    intro w2 hB2 hg2
    rw [show i + 0 = i from by omega]
    have hgw2 := grown_trans hgW hg2
    have hl2 := Lib.hid (show (lay cur (i * 2) (xs.drop ((i + 1) * 2))).length = (i + 1) * 2 by rw [lay_len (by rw [hcs.out, HCL.out]; omega), HCL.out])
    clear hBW hgW hg2
    refine wpList_nil ⟨hold_of (S0 := fun _ => True) trivial, ?_⟩
    simp only [Act.put, List.setIfInBounds_toArray, List.set_cons_succ, List.set_cons_zero]
    repeat (go_big_quiet_step (fail))
    refine wpQuiet_nil ?_
    refine NoPanic.normal ?_
    have z1 : ¬ (i + 1) = i := by omega
    have z2 : ((i : Nat) : Int) ≤ (n : Int) := by omega
    have z3 : ¬ ((n : Int) = 0) := by omega
    go_wp2_with (refine wpList_clear_k Tryz.underlying123 HC.out rfl (.tmp 31) rfl g (i * 2) _ _ rfl ?d0 _ 126 hB2 ?d1 ?_)
    case d0 => omega
    case d1 => rw [hl2.out]; omega
    intro w3 new hB3 hln htk hg3
    have hgw3 := grown_trans hgw2 hg3
    have hfq : ∀ new : List Value, new.take (i * 2) = (lay cur (i * 2) (xs.drop ((i + 1) * 2))).take (i * 2) → new.take (i * 2) = xs.take (i * 2) ++ xs.drop ((i + 1) * 2) := by
      have hq : n - 1 = i := by exact (congrArg (· - 1) HNI.out)
      have := hfin.out
      rw [hq] at this
      exact this
    have hown := row_shut (base := base) (n := i) (cap := (i + 1)) hg hB3 (by omega) (by unfold maxLen; omega) (by rw [hln, hl2.out]) (hfq new htk)
    clear hB2 hg3 hgw2 hB3 htk
    go_wp2
    go_ret
    exact ⟨_, rfl, by have hq : n - 1 = i := by exact (congrArg (· - 1) HNI.out)
                      rw [hq]; exact hown, hgw3, rfl⟩
  · go_enter Tryz.func133, Tryz.ntmps133
    go_wp2_with fail
    have HS2 := HSRC
    refine wp_region_segs (fun _ => True) [(true, 6), (false, 1), (true, 1)] (by kernel_rfl) (by kernel_rfl) trivial ?_
    intro W _ hWe
    have hBW : Blk W g 126 cur := by rw [hWe]; exact hB
    have hgW : w.grownBy W (some g) := by rw [hWe]; exact ⟨rfl, rfl, rfl, Nat.le_refl _, fun _ _ _ => rfl⟩
    clear hWe hB
    simp only [wpSegs, List.take_succ_cons, List.take_zero, List.drop_succ_cons, List.drop_zero]
    repeat (go_big_quiet_step (fail))
    refine wpQuiet_nil ?_
    refine wpList_append_room_k K123 rfl (.tmp 22) (.tmp 25) rfl g i cap ⟨g, (i + 1) * 2, none⟩ _ _ rfl rfl cur hBW (xs.drop ((i + 1) * 2)) ?c1 (blk_src hBW HS2.out) (fun u hu => H1C.out u (List.mem_of_mem_drop hu)) ?c2 HCL.out ?_
    case c1 => have := hcs.out; omega
    case c2 => omega
    intro w2 hB2 hg2
    rw [show i + (n - (i + 1)) = (n - 1) from by omega]
    have hgw2 := grown_trans hgW hg2
    have hl2 := Lib.hid (show (lay cur (i * 2) (xs.drop ((i + 1) * 2))).length = cap * 2 by rw [lay_len (by rw [hcs.out, HCL.out]; omega), HCL.out])
    clear hBW hgW hg2
    refine wpList_nil ⟨hold_of (S0 := fun _ => True) trivial, ?_⟩
    simp only [Act.put, List.setIfInBounds_toArray, List.set_cons_succ, List.set_cons_zero]
    repeat (go_big_quiet_step (fail))
    refine wpQuiet_nil ?_
    refine NoPanic.normal ?_
    have z1 : ¬ cap = (n - 1) := by omega
    have z2 : (((n - 1) : Nat) : Int) ≤ (n : Int) := by omega
    have z3 : ¬ ((n : Int) = 0) := by omega
    go_wp2_with (refine wpList_clear_k Tryz.underlying123 HC.out rfl (.tmp 31) rfl g ((n - 1) * 2) _ _ rfl ?d0 _ 126 hB2 ?d1 ?_)
    case d0 => omega
    case d1 => rw [hl2.out]; omega
    intro w3 new hB3 hln htk hg3
    have hgw3 := grown_trans hgw2 hg3
    have hfq : ∀ new : List Value, new.take ((n - 1) * 2) = (lay cur (i * 2) (xs.drop ((i + 1) * 2))).take ((n - 1) * 2) → new.take ((n - 1) * 2) = xs.take (i * 2) ++ xs.drop ((i + 1) * 2) := by
      have hq : n - 1 = (n - 1) := by rfl
      have := hfin.out
      rw [hq] at this
      exact this
    have hown := row_shut (base := base) (n := (n - 1)) (cap := cap) hg hB3 (by omega) (by unfold maxLen; omega) (by rw [hln, hl2.out]) (hfq new htk)
    clear hB2 hg3 hgw2 hB3 htk
    go_wp2
    go_ret
    exact ⟨_, rfl, by have hq : n - 1 = (n - 1) := by rfl
                      rw [hq]; exact hown, hgw3, rfl⟩
end Go.Proofs.YtdddkfpcbfgocaaGreat.Rw
namespace Go.Pt
/-- A list in order is determined by its members. -/
theorem ML.ext {M L : List Nat} (h : ML M) (h' : ML L) (hm : ∀ x, x ∈ M ↔ x ∈ L) : M = L := by
  have key : ∀ {M L : List Nat}, List.Pairwise (· < ·) M → List.Pairwise (· < ·) L → (∀ x, x ∈ M ↔ x ∈ L) → M = L := by
    intro M
    induction M with
    | nil =>
      intro L _ _ hm
      cases L with
      | nil => rfl
      | cons y L => exact absurd ((hm y).2 (by simp)) (by simp)
    | cons x M ih =>
      intro L h1 h2 hm
      cases L with
      | nil => exact absurd ((hm x).1 (by simp)) (by simp)
      | cons y L =>
        rw [List.pairwise_cons] at h1 h2
        have e : x = y := by
          have hx := (hm x).1 (by simp)
          have hy := (hm y).2 (by simp)
          rcases List.mem_cons.1 hx with e | hx
          · exact e
          · rcases List.mem_cons.1 hy with e | hy
            · exact e.symm
            · have := h1.1 y hy; have := h2.1 x hx; omega
        subst e
        rw [ih h1.2 h2.2 fun z => ?_]
        constructor
        · intro hz
          have h3 := h1.1 z hz
          rcases List.mem_cons.1 ((hm z).1 (by simp [hz])) with e | h
          · omega
          · exact h
        · intro hz
          have h3 := h2.1 z hz
          rcases List.mem_cons.1 ((hm z).2 (by simp [hz])) with e | h
          · omega
          · exact h
  exact key h.asc h'.asc hm
theorem ML.filter {M : List Nat} (h : ML M) (p : Nat → Bool) : ML (M.filter p) := ⟨h.asc.filter p, fun k hk => h.rg k (List.mem_filter.1 hk).1⟩
theorem mem_take_drop {M : List Nat} {i x : Nat} : x ∈ M ↔ x ∈ M.take i ∨ x ∈ M.drop i := by
  conv => lhs; rw [← List.take_append_drop i M]
  exact List.mem_append
end Go.Pt
namespace Go.Proofs.YtdddkfpcbfgocaaGreat
open Go.RowKit Go.Over Go.Seg Go.Grow Go.Pt
/-- A mapping is inserted where it is to stand. -/
theorem Pos.ins {M : List Nat} {x i : Nat} (h : Pos M x i) (hM : ML M) (hx : x < 4096) (hn : M.contains x = false) : ML (M.take i ++ [x] ++ M.drop i) ∧ ∀ y, y ∈ M.take i ++ [x] ++ M.drop i ↔ y ∈ M ∨ y = x := by
  have hlo : ∀ y ∈ M.take i, y < x := fun y hy => by
    obtain ⟨j, hj, hjy⟩ := List.mem_take_iff_getElem.1 hy
    exact h.lo j y (by omega) (by rw [← hjy]; exact List.getElem?_eq_getElem _)
  have hhi : ∀ y ∈ M.drop i, x < y := fun y hy => by
    obtain ⟨j, hj⟩ := List.getElem?_of_mem hy
    rw [List.getElem?_drop] at hj
    have h1 := h.hi (i + j) y (by omega) hj
    have h2 : ¬ y = x := fun e => by
      have := List.mem_of_getElem? hj
      rw [e] at this
      rw [List.contains_eq_mem] at hn
      simp at hn
      exact hn this
    omega
  refine ⟨⟨?_, fun k hk => ?_⟩, fun y => ?_⟩
  · rw [List.append_assoc, List.pairwise_append]
    refine ⟨hM.asc.sublist (List.take_sublist _ _), ?_, fun a ha b hb => ?_⟩
    · rw [List.singleton_append, List.pairwise_cons]
      exact ⟨hhi, hM.asc.sublist (List.drop_sublist _ _)⟩
    · have h1 := hlo a ha
      rcases List.mem_cons.1 hb with rfl | hb
      · exact h1
      · have := hhi b hb; omega
  · rcases List.mem_append.1 hk with hk | hk
    · rcases List.mem_append.1 hk with hk | hk
      · exact hM.rg k (List.mem_of_mem_take hk)
      · rw [List.mem_singleton.1 hk]; exact hx
    · exact hM.rg k (List.mem_of_mem_drop hk)
  · rw [List.mem_append, List.mem_append, List.mem_singleton, mem_take_drop (M := M) (i := i)]
    constructor
    · rintro ((h | h) | h)
      · exact .inl (.inl h)
      · exact .inr h
      · exact .inl (.inr h)
    · rintro ((h | h) | h)
      · exact .inl (.inl h)
      · exact .inr h
      · exact .inl (.inr h)
theorem ML.erase {M : List Nat} {x i : Nat} (hM : ML M) (hx : M[i]? = some x) : ML (M.eraseIdx i) ∧ ∀ y, y ∈ M.eraseIdx i ↔ y ∈ M ∧ y ≠ x := by
  have hsub : (M.eraseIdx i).Sublist M := List.eraseIdx_sublist _ _
  refine ⟨⟨hM.asc.sublist hsub, fun k hk => hM.rg k (hsub.subset hk)⟩, fun y => ?_⟩
  have hnd : M.Nodup := hM.asc.imp fun h => Nat.ne_of_lt h
  have hi : i < M.length := by rw [List.getElem?_eq_some_iff] at hx; exact hx.1
  constructor
  · intro hy
    refine ⟨hsub.subset hy, fun e => ?_⟩
    subst e
    obtain ⟨j, hj⟩ := List.getElem?_of_mem hy
    rw [List.getElem?_eraseIdx] at hj
    split at hj
    · have := (List.getElem_inj hnd).1 ((List.getElem?_eq_some_iff.1 hj).2.trans (List.getElem?_eq_some_iff.1 hx).2.symm)
      omega
    · have := (List.getElem_inj hnd).1 ((List.getElem?_eq_some_iff.1 hj).2.trans (List.getElem?_eq_some_iff.1 hx).2.symm)
      omega
  · rintro ⟨hy, hne⟩
    obtain ⟨j, hj⟩ := List.getElem?_of_mem hy
    have hji : j ≠ i := fun e => by subst e; rw [hx] at hj; exact hne (Option.some.inj hj).symm
    rcases Nat.lt_or_ge j i with h | h
    · exact List.mem_of_getElem? (i := j) (by rw [List.getElem?_eraseIdx, if_pos h]; exact hj)
    · exact List.mem_of_getElem? (i := j - 1) (by rw [List.getElem?_eraseIdx, if_neg (by omega), show j - 1 + 1 = j by omega]; exact hj)
theorem flatM_one (M : List Nat) : ∀ u ∈ M.flatMap mpC, u.oneCell' = true := fun u hu => by
  obtain ⟨x, _, h⟩ := List.mem_flatMap.1 hu
  exact mpC_one x u h
set_option maxRecDepth 100000 in set_option maxHeartbeats 3200000 in
theorem cloneM (v : Value) (M : List Nat) (B : Nat) (w : World) (H : OwnM w B v M) (hm : M.length ≤ 100000) : Calls Tryz.prog 126 #[v] w fun e w' => ∃ v', e = .returned v' ∧ OwnM w' w.heap.size v' M ∧ Below w.heap.size w w' := by
  rcases H.form with ⟨rfl, rfl⟩ | ⟨g, c, rfl, h1, h2⟩
  · have k1 := fun w' => Lib.run_eql_slice_nil (P := Tryz.prog) w' 123 126 none 0 0 0 0 Tryz.underlying123
    clear H hm
    go_enter Tryz.func126, Tryz.ntmps126
    go_wp2
    go_ret
    exact ⟨_, rfl, OwnM.nil _ _, Below.refl _ _⟩
  · obtain ⟨n, hn⟩ : ∃ n, M.length = n := ⟨_, rfl⟩
    have hsrc : Grow.Src (w.alloc (.cells #[] 126)) 2 (some ⟨g, 0, none⟩) n c (M.flatMap mpC) := by
      refine ⟨by rw [flat_len mpC_len, hn], flatM_one M, .inr ⟨_, rfl, fun j u hj => ?_⟩⟩
      obtain ⟨a, q, x, rfl, hx, hv⟩ := flat_of (by decide) mpC_len hj
      obtain ⟨zs, hB, hz⟩ := own_elem mpC_len H hx
      rw [add_off, Nat.zero_add, (hB.later (below_box _ _)).cell]
      exact hz q u hv
    rw [hn] at h1 hm ⊢
    have k1 := fun w' => Lib.run_eql_slice_nil (P := Tryz.prog) w' 123 126 (some ⟨g, 0, none⟩) n c 0 0 Tryz.underlying123
    have hmade : (w.alloc (.cells #[] 126)).ownsRow w.heap.size 126 2 (.slice (some ⟨w.heap.size, 0, none⟩) 0 0) 0 [] := World.ownsRow_made w #[] 0 (Nat.le_refl _) (Nat.zero_le _) rfl
    have HS := Lib.hid hsrc
    have HN := Lib.hid hn
    clear hsrc H hn h1 h2
    go_enter Tryz.func126, Tryz.ntmps126
    go_wp2_with (at_builtin; refine wpList_append_k K123 rfl (.tmp 5) (.tmp 6) rfl _ 0 [] rfl hmade _ n c _ rfl HS.out ?c1 ?c2 ?_)
    case c1 => omega
    case c2 => simp
    intro v' w' hown hg _
    have hb : Below w.heap.size w w' := (below_box w _).grown hg (by simp) (fun k hk => by simp [Value.ownBlock] at hk; omega)
    have hown : OwnM w' w.heap.size v' M := by unfold OwnM; rw [HN.out]; first | exact hown | simpa using hown
    clear hg
    go_wp2
    go_ret
    exact ⟨_, rfl, hown, hb⟩
/-- What inserting gives. -/
theorem insertM (base : Nat) (V : Value) (M : List Nat) (i x vb : Nat) (w : World) (hown : OwnM w base V M) (hv : Blk w vb 126 (mpC x)) (hne : V.ownBlock ≠ some vb) (hi : i ≤ M.length) (hn : M.length ≤ 100000) (hb : base ≤ w.heap.size) :
    Calls Tryz.prog 125 #[V, .int .i64 i, .slice (some ⟨vb, 0, none⟩) 1 1] w fun e w' => ∃ V', e = .returned V' ∧ OwnM w' base V' (M.take i ++ [x] ++ M.drop i) ∧ w.grownBy w' V.ownBlock := by
  refine (Rw.insert_37 base V M.length i (M.flatMap mpC) _ _ vb w hown (flatM_one M) hv rfl rfl hne hi hn hb).mono ?_
  rintro e w' ⟨V', h1, h2, h3, _⟩
  refine ⟨V', h1, ?_, h3⟩
  unfold OwnM
  have hl : (M.take i ++ [x] ++ M.drop i).length = M.length + 1 := by simp; omega
  rw [hl, List.flatMap_append, List.flatMap_append, ← flat_take mpC_len, ← flat_drop mpC_len]
  simpa [mpC] using h2
theorem deleteM (base : Nat) (V : Value) (M : List Nat) (i : Nat) (w : World) (hown : OwnM w base V M) (hi : i < M.length) (hn : M.length ≤ 100000) :
    Calls Tryz.prog 133 #[V, .int .i64 i, .int .i64 ((i + 1 : Nat) : Int)] w fun e w' => ∃ V', e = .returned V' ∧ OwnM w' base V' (M.eraseIdx i) ∧ w.grownBy w' V.ownBlock := by
  refine (Rw.delete_45 base V M.length i (M.flatMap mpC) w hown (flatM_one M) hi hn).mono ?_
  rintro e w' ⟨V', h1, h2, h3, _⟩
  refine ⟨V', h1, ?_, h3⟩
  unfold OwnM
  rw [List.length_eraseIdx, if_pos hi, List.eraseIdx_eq_take_drop_succ, List.flatMap_append, ← flat_take mpC_len, ← flat_drop mpC_len]
  exact h2
end Go.Proofs.YtdddkfpcbfgocaaGreat
namespace Go.Proofs.YtdddkfpcbfgocaaGreat
open Go.RowKit Go.Over Go.Seg Go.Grow Go.Pt
theorem foldM (k : Nat) : List.foldl (fun (cs : Array Value) (x : Value × Nat) => cs.setIfInBounds x.snd x.fst) #[.int .i64 0, .int .i64 0] (mpC k).zipIdx = (mpC k).toArray := rfl
/-- What Add and Remove give. -/
def MapAns (w : World) (P : Nat → Prop) (e : Ending) (w' : World) : Prop := ∃ V' M', e = .returned (.tuple #[V', .int .i64 0]) ∧ OwnM w' w.heap.size V' M' ∧ ML M' ∧ (∀ y, y ∈ M' ↔ P y) ∧ Below w.heap.size w w'
set_option maxRecDepth 100000 in set_option maxHeartbeats 3200000 in
theorem radd (v : Value) (M : List Nat) (B k : Nat) (w : World) (H : OwnM w B v M) (hM : ML M) (hk : k < 4096) (hnew : k ∉ M) : Calls Tryz.prog 68 #[v, .agg (mpC k).toArray] w (MapAns w fun y => y ∈ M ∨ y = k) := by
  have b0 := below_box w (.cells (mpC k).toArray 126)
  have x0 := Blk.new w 126 (mpC k).toArray (mpC k) rfl
  have HH := Lib.hid H; have HM := Lib.hid hM; have HNW := Lib.hid (show M.contains k = false by simpa using hnew)
  have hn4 := hM.len
  obtain ⟨a, c, hv, _⟩ := H.rd
  obtain ⟨n, hn⟩ : ∃ n, M.length = n := ⟨_, rfl⟩
  rw [hn] at hv hn4
  have HN := Lib.hid hn
  subst hv
  clear H hM hnew hn
  go_enter Tryz.func68, Tryz.ntmps68
  go_upto_region 1 with fail
  obtain ⟨w1, hw1⟩ : ∃ V, V = w.alloc (.cells (mpC k).toArray 126) := ⟨_, rfl⟩
  obtain ⟨g3, hg3⟩ : ∃ g, w.heap.size = g := ⟨_, rfl⟩
  rw [← hw1] at b0 x0 ⊢
  have HG3 := Lib.hid hg3
  rw [hg3] at x0 ⊢
  clear hw1 hg3
  have HCK := Lib.hid (rcheck _ M B w1 (HH.out.later b0) HM.out)
  go_wp2_with fail
  refine HCK.out.mono ?_
  rintro e w2 ⟨rfl, b2⟩
  have x2 := x0.later b2
  have u2 := below_then b0 b2
  clear HCK b0 x0 b2
  have HV := Lib.hid (validOk k hk w2)
  go_wp2_with ((with_reducible refine wpList_load_part (off := 0) (cs := mpC k) Tryz.underlying126 rfl (by rw [infoM]; exact congrArg some (mpC_len k).symm) ?_ x2 (fun j v hv => (by rw [Nat.zero_add]; exact hv)) ?_); (focus rfl))
  refine HV.out.mono ?_
  rintro e w3 ⟨rfl, b3⟩
  have x3 := x2.later b3
  have u3 := below_then u2 b3
  clear HV x2 u2 b3
  have HBS := Lib.hid (bsearch _ M B k w3 (HH.out.later u3) HM.out)
  go_wp2_with ((with_reducible refine wpList_load_part (off := 0) (cs := mpC k) Tryz.underlying126 rfl (by rw [infoM]; exact congrArg some (mpC_len k).symm) ?_ x3 (fun j v hv => (by rw [Nat.zero_add]; exact hv)) ?_); (focus rfl))
  refine HBS.out.mono ?_
  rintro e w4 ⟨i, rfl, hpos, b4⟩
  have x4 := x3.later b4
  have u4 := below_then u3 b4
  rw [HNW.out]
  have HP := Lib.hid hpos
  clear HBS x3 u3 b4 hpos
  go_upto_region 9 with fail
  refine wp_region_plan (fun U => Blk U g3 126 (mpC k)) (.quiet [0, 2, 3] (.fork 1 (.only 4 (.only 5 (.quiet [6, 7] .done))) 4 (.only 1 (.only 5 (.quiet [6, 7] .done))))) 99 (by kernel_rfl) (by kernel_rfl) (x4.later (Below.refl _ _).drew) ?_
  intro W hWW hWe
  have bW : Below w4.heap.size w4 W := by rw [hWe]; exact (Below.refl _ _).drew
  have u5 := below_then u4 bW
  clear hWe bW x4 u4
  simp only [wpPlan, inOrder, List.filterMap_cons, List.filterMap_nil, List.getElem?_cons_zero, List.getElem?_cons_succ]
  show wpQuiet _ _ _ _ (_ :: _ :: [_]) _
  repeat (go_big_quiet_step (fail))
  refine wpQuiet_load_part (off := 0) (cs := mpC k) Tryz.underlying126 rfl (by rw [infoM]; rfl) rfl (fun U ⟨z, hz⟩ => by rw [hz]; exact hold_ok (S0 := fun U => Blk U g3 126 (mpC k)) hWW z) (fun j v hv => by rw [Nat.zero_add]; exact hv) ?_
  simp only [Act.put, List.setIfInBounds_toArray, List.set_cons_succ, List.set_cons_zero]
  refine wpQuiet_nil ?_
  have HW := Lib.hid hWW
  have hlt3 := Blk.lt hWW
  have hv4 := own_later HH.out u5
  clear hWW
  refine ⟨?_, ?_⟩
  · have HCL := Lib.hid (cloneM _ M B W hv4 (by rw [HN.out]; omega))
    show wpList _ _ _ [_] _ _
    go_wp2_with fail
    refine HCL.out.mono ?_
    rintro e w6 ⟨V, rfl, O6, b6⟩
    have u6 := below_then u5 b6
    have hx6 := Blk.later HW.out b6
    have hlo := World.ownsRow.lt O6
    clear HCL hv4
    go_wp2
    refine ⟨hold_of (S0 := fun U => Blk U g3 126 (mpC k)) hx6, ?_⟩
    have b7 := below_box w6 (.cells (mpC k).toArray 126)
    have y7 := Blk.new w6 126 (mpC k).toArray (mpC k) rfl
    have O7 := O6.later b7
    have u7 := below_then u6 b7
    have hx7 := hx6.later b7
    have hnb : V.ownBlock ≠ some w6.heap.size := fun e => by have := (hlo _ e).2; omega
    clear O6 u6 hx6
    have hml := mpC_len k
    show wpList _ _ _ [_] _ _
    go_wp2_with fail
    rw [foldM]
    obtain ⟨w7, hw7⟩ : ∃ Z, Z = w6.alloc (.cells (mpC k).toArray 126) := ⟨_, rfl⟩
    have HWS := Lib.hid (show W.heap.size ≤ w7.heap.size by rw [hw7]; exact Nat.le_trans b6.size b7.size)
    rw [← hw7] at y7 O7 u7 hx7 ⊢
    obtain ⟨g7, hg7⟩ : ∃ g, w6.heap.size = g := ⟨_, rfl⟩
    rw [hg7] at y7 hnb ⊢
    refine ⟨hold_of (S0 := fun U => Blk U g3 126 (mpC k)) hx7, ?_⟩
    clear b7 hw7 hg7 b6
    have hne3 : V.ownBlock ≠ some g3 := fun e => by have := (hlo _ e).1; omega
    have hws0 : w.heap.size ≤ W.heap.size := u5.size
    have HIN := Lib.hid (insertM W.heap.size V M i k g7 w7 O7 y7 hnb HP.out.le (by rw [HN.out]; omega) HWS.out)
    show wpList _ _ _ [_] _ _
    go_wp2_with fail
    refine HIN.out.mono ?_
    rintro e w9 ⟨V', rfl, O9, g9⟩
    have u9 := u7.grown g9 u7.size (fun q hq => Nat.le_trans hws0 (hlo q hq).1)
    have hx9 := hx7.grown g9 hne3
    have HIS := Lib.hid (HP.out.ins HM.out hk HNW.out)
    have O10 : OwnM w9 w.heap.size V' _ := own_weaken O9 hws0
    clear HIN O9 g9 O7 y7 u7 hx7 hlo
    go_wp2
    refine ⟨hold_of (S0 := fun U => Blk U g3 126 (mpC k)) hx9, ?_⟩
    show wpQuiet _ _ _ _ (_ :: [_]) _
    repeat (go_big_quiet_step (fail))
    refine wpQuiet_nil ?_
    refine NoPanic.normal ?_
    go_wp2
    go_ret2
    exact ⟨V', _, rfl, O10, HIS.out.1, HIS.out.2, u9⟩
  · have b7 := below_box W (.cells (mpC k).toArray 126)
    have y7 := Blk.new W 126 (mpC k).toArray (mpC k) rfl
    have u7 := below_then u5 b7
    have hx7 := Blk.later HW.out b7
    have hml := mpC_len k
    show wpList _ _ _ [_] _ _
    go_wp2_with fail
    rw [foldM]
    obtain ⟨w7, hw7⟩ : ∃ Z, Z = W.alloc (.cells (mpC k).toArray 126) := ⟨_, rfl⟩
    have hws : W.heap.size ≤ w7.heap.size := by rw [hw7]; exact b7.size
    have hv7 := own_later hv4 b7
    rw [← hw7] at y7 u7 hx7 hv7 ⊢
    obtain ⟨g7, hg7⟩ : ∃ g, W.heap.size = g := ⟨_, rfl⟩
    rw [hg7] at y7 hws hlt3 ⊢
    have hlt7 := y7.lt
    refine ⟨hold_of (S0 := fun U => Blk U g3 126 (mpC k)) hx7, ?_⟩
    clear b7 hw7 hg7 hv4
    have HCL := Lib.hid (cloneM _ M B w7 hv7 (by rw [HN.out]; omega))
    show wpList _ _ _ [_] _ _
    go_wp2_with fail
    refine HCL.out.mono ?_
    rintro e w8 ⟨V, rfl, O8, b8⟩
    have u8 := below_then u7 b8
    have hx8 := hx7.later b8
    have y8 := y7.later b8
    have hlo := World.ownsRow.lt O8
    have hnb : V.ownBlock ≠ some g7 := fun e => by have := (hlo _ e).1; omega
    have HWS := Lib.hid b8.size
    clear HCL hv7
    go_wp2
    refine ⟨hold_of (S0 := fun U => Blk U g3 126 (mpC k)) hx8, ?_⟩
    have hws7 := u7.size
    clear u7 hx7 y7 b8
    have hne3 : V.ownBlock ≠ some g3 := fun e => by have := (hlo _ e).1; omega
    have hws0 : w.heap.size ≤ w7.heap.size := hws7
    have HIN := Lib.hid (insertM w7.heap.size V M i k g7 w8 O8 y8 hnb HP.out.le (by rw [HN.out]; omega) HWS.out)
    show wpList _ _ _ [_] _ _
    go_wp2_with fail
    refine HIN.out.mono ?_
    rintro e w9 ⟨V', rfl, O9, g9⟩
    have u9 := u8.grown g9 u8.size (fun q hq => Nat.le_trans hws0 (hlo q hq).1)
    have hx9 := hx8.grown g9 hne3
    have HIS := Lib.hid (HP.out.ins HM.out hk HNW.out)
    have O10 : OwnM w9 w.heap.size V' _ := own_weaken O9 hws0
    clear HIN O9 g9 O8 y8 u8 hx8 hlo
    go_wp2
    refine ⟨hold_of (S0 := fun U => Blk U g3 126 (mpC k)) hx9, ?_⟩
    show wpQuiet _ _ _ _ (_ :: [_]) _
    repeat (go_big_quiet_step (fail))
    refine wpQuiet_nil ?_
    refine NoPanic.normal ?_
    go_wp2
    go_ret2
    exact ⟨V', _, rfl, O10, HIS.out.1, HIS.out.2, u9⟩
set_option maxRecDepth 100000 in set_option maxHeartbeats 3200000 in
theorem rremove (v : Value) (M : List Nat) (B k : Nat) (w : World) (H : OwnM w B v M) (hM : ML M) (hin : k ∈ M) : Calls Tryz.prog 70 #[v, .agg (mpC k).toArray] w (MapAns w fun y => y ∈ M ∧ y ≠ k) := by
  have b0 := below_box w (.cells (mpC k).toArray 126)
  have x0 := Blk.new w 126 (mpC k).toArray (mpC k) rfl
  have HH := Lib.hid H; have HM := Lib.hid hM; have HNW := Lib.hid (show M.contains k = true by simpa using hin)
  have hn4 := hM.len
  obtain ⟨a, c, hv, _⟩ := H.rd
  obtain ⟨n, hn⟩ : ∃ n, M.length = n := ⟨_, rfl⟩
  rw [hn] at hv hn4
  have HN := Lib.hid hn
  subst hv
  clear H hM hin hn
  go_enter Tryz.func70, Tryz.ntmps70
  go_upto_region 1 with fail
  obtain ⟨w1, hw1⟩ : ∃ V, V = w.alloc (.cells (mpC k).toArray 126) := ⟨_, rfl⟩
  obtain ⟨g3, hg3⟩ : ∃ g, w.heap.size = g := ⟨_, rfl⟩
  rw [← hw1] at b0 x0 ⊢
  rw [hg3] at x0 ⊢
  clear hw1 hg3
  have HCK := Lib.hid (rcheck _ M B w1 (HH.out.later b0) HM.out)
  go_wp2_with fail
  refine HCK.out.mono ?_
  rintro e w2 ⟨rfl, b2⟩
  have x2 := x0.later b2
  have u2 := below_then b0 b2
  clear HCK b0 x0 b2
  have HBS := Lib.hid (bsearch _ M B k w2 (HH.out.later u2) HM.out)
  go_wp2_with ((with_reducible refine wpList_load_part (off := 0) (cs := mpC k) Tryz.underlying126 rfl (by rw [infoM]; exact congrArg some (mpC_len k).symm) ?_ x2 (fun j v hv => (by rw [Nat.zero_add]; exact hv)) ?_); (focus rfl))
  refine HBS.out.mono ?_
  rintro e w4 ⟨i, rfl, hpos, b4⟩
  have u4 := below_then u2 b4
  rw [HNW.out]
  have hxi := (hpos.in HM.out).1 HNW.out
  have hi : i < n := by rw [← HN.out]; exact (List.getElem?_eq_some_iff.1 hxi).1
  have HXI := Lib.hid hxi
  clear HBS x2 u2 b4 hpos hxi
  have HCL := Lib.hid (cloneM _ M B w4 (HH.out.later u4) (by rw [HN.out]; omega))
  go_wp2_with fail
  refine HCL.out.mono ?_
  rintro e w5 ⟨V, rfl, O5, b5⟩
  have u5 := below_then u4 b5
  have O6 : OwnM w5 w.heap.size V M := own_weaken O5 u4.size
  have hlo := World.ownsRow.lt O6
  have HDL := Lib.hid (deleteM w.heap.size V M i w5 O6 (by rw [HN.out]; exact hi) (by rw [HN.out]; omega))
  clear HCL u4 b5 O5
  go_wp2_with fail
  refine HDL.out.mono ?_
  rintro e w6 ⟨V', rfl, O7, g7⟩
  have u7 := u5.grown g7 u5.size (fun q hq => (hlo q hq).1)
  have HIS := Lib.hid (ML.erase HM.out HXI.out)
  clear HDL u5 O6 g7 hlo
  go_wp2
  go_ret2
  exact ⟨V', _, rfl, O7, HIS.out.1, HIS.out.2, u7⟩
set_option maxRecDepth 100000 in set_option maxHeartbeats 3200000 in
theorem dropFn2 (gc : Nat) (sx px : Int) (s : Int) (W : World) (H : Blk W gc 3 [.int .i64 s]) : Calls Tryz.prog 136 #[.agg #[.int .i64 sx, .int .i64 px], .pointer (some ⟨gc, 0, none⟩)] W fun e W' => e = .returned (.bool (sx == s)) ∧ Below W.heap.size W W' := by
  have b0 := below_box W (.cells #[.int .i64 sx, .int .i64 px] 126)
  have x0 := Blk.new W 126 #[.int .i64 sx, .int .i64 px] _ rfl
  have h1 := H.later b0
  go_enter Tryz.func136, Tryz.ntmps136
  go_upto_region 1 with fail
  obtain ⟨w1, hw1⟩ : ∃ V, V = W.alloc (.cells #[.int .i64 sx, .int .i64 px] 126) := ⟨_, rfl⟩
  rw [← hw1] at b0 x0 h1 ⊢
  have d0 : w1.cell? ⟨W.heap.size, 0, none⟩ = some (.int .i64 sx) := by rw [x0.cell]; rfl
  have d1 : w1.cell? ⟨gc, 0, none⟩ = some (.int .i64 s) := by rw [h1.cell]; rfl
  have U := Lib.hid b0
  obtain ⟨g0, hg0⟩ : ∃ g, W.heap.size = g := ⟨_, rfl⟩
  rw [hg0] at d0 ⊢
  clear hw1 x0 h1 b0 hg0 H
  go_wp2
  go_ret
  exact ⟨rfl, U.out⟩
/-- The space that is dropped, in a variable. -/
structure DV (gc g : Nat) (s : Nat) (W : World) : Prop where
  x : Blk W gc 3 [.int .i64 s]
  ne : gc ≠ g
theorem DV.keeps {gc g s : Nat} {l : List Nat} : KeepsDrp gc g l (fun k => decide (¬ k / 512 = s)) (DV gc g s) :=
  ⟨fun W k _ h => (dropFn2 gc (k / 512 : Nat) (k % 512 : Nat) s W h.x).mono fun e W' hh => ⟨by
      rw [hh.1]
      refine ret_bool ?_
      by_cases hk : k / 512 = s
      · simp [hk]
      · have : ¬ ((k / 512 : Nat) : Int) = (s : Int) := by omega
        simp only [hk, not_false_eq_true, decide_true, Bool.not_true, beq_eq_false_iff_ne, ne_eq]
        exact this, hh.2⟩, fun _ _ h hb => ⟨h.x.later hb, h.ne⟩, fun _ _ h hg => ⟨h.x.grown hg (fun e => h.ne (Option.some.inj e).symm), h.ne⟩⟩
set_option maxRecDepth 100000 in set_option maxHeartbeats 3200000 in
theorem del0 (fv : Value) (w : World) : Calls Tryz.prog 135 #[.slice none 0 0, fv] w fun e w' => e = .returned (.slice none 0 0) ∧ w = w' := by
  go_enter Tryz.func135, Tryz.ntmps135
  go_wp2_with fail
  refine (idx0 _ _).mono ?_
  rintro e _ ⟨rfl, rfl⟩
  go_wp2
  go_ret
  exact ⟨rfl, rfl⟩
/-- What Drop gives. -/
def DropAns (w : World) (M : List Nat) (s : Nat) (e : Ending) (w' : World) : Prop := ∃ V', e = .returned V' ∧ OwnM w' w.heap.size V' (M.filter fun k => decide (¬ k / 512 = s)) ∧ Below w.heap.size w w'
set_option maxRecDepth 100000 in set_option maxHeartbeats 3200000 in
theorem rdrop (v : Value) (M : List Nat) (B s : Nat) (w : World) (H : OwnM w B v M) (hM : ML M) : Calls Tryz.prog 72 #[v, .int .i64 s] w (DropAns w M s) := by
  have b0 := below_box w (.cells #[.int .i64 s] 3)
  have x0 := Blk.new w 3 #[.int .i64 s] [.int .i64 (s : Int)] rfl
  have HH := Lib.hid H; have HM := Lib.hid hM
  have hn4 := hM.len
  obtain ⟨a, c, hv, _⟩ := H.rd
  obtain ⟨n, hn⟩ : ∃ n, M.length = n := ⟨_, rfl⟩
  rw [hn] at hv hn4
  have HN := Lib.hid hn
  subst hv
  clear H hM hn
  go_enter Tryz.func72, Tryz.ntmps72
  go_upto_region 1 with fail
  obtain ⟨w1, hw1⟩ : ∃ V, V = w.alloc (.cells #[.int .i64 s] 3) := ⟨_, rfl⟩
  obtain ⟨g3, hg3⟩ : ∃ g, w.heap.size = g := ⟨_, rfl⟩
  rw [← hw1] at b0 x0 ⊢
  rw [hg3] at x0 ⊢
  clear hw1 hg3
  have HCK := Lib.hid (rcheck _ M B w1 (HH.out.later b0) HM.out)
  go_wp2_with fail
  refine HCK.out.mono ?_
  rintro e w2 ⟨rfl, b2⟩
  have x2 := x0.later b2
  have u2 := below_then b0 b2
  clear HCK b0 x0 b2
  have HCL := Lib.hid (cloneM _ M B w2 (HH.out.later u2) (by rw [HN.out]; omega))
  go_wp2_with fail
  refine HCL.out.mono ?_
  rintro e w3 ⟨V, rfl, O3, b3⟩
  have x3 := x2.later b3
  have u3 := below_then u2 b3
  have O4 : OwnM w3 w.heap.size V M := own_weaken O3 u2.size
  clear HCL x2 u2 b3 O3
  rcases O4.form with ⟨rfl, hM0⟩ | ⟨g, c', rfl, h1, h2⟩
  · have HM0 := Lib.hid hM0
    clear hM0
    go_wp2_with fail
    refine (del0 _ _).mono ?_
    rintro e _ ⟨rfl, rfl⟩
    go_wp2
    go_ret
    exact ⟨_, rfl, by rw [HM0.out]; exact OwnM.nil _ _, u3⟩
  · have hne : g3 ≠ g := fun e => by
      have := x3.not_own O4 (by decide)
      exact this (by rw [e]; rfl)
    have hlo := World.ownsRow.lt O4 g rfl
    have O5 := O4
    unfold OwnM at O5
    rw [HN.out] at O5 h1 ⊢
    have HDL := Lib.hid (delDrp g3 g n c' w.heap.size (fun k => decide (¬ k / 512 = s)) (DV g3 g s) M w3 DV.keeps ⟨x3, hne⟩ O5 HN.out (by omega))
    clear O4 O5
    go_wp2_with fail
    refine HDL.out.mono ?_
    rintro e w4 ⟨V', rfl, O6, g6, _⟩
    have u6 := u3.grown g6 u3.size (fun q hq => by simp [Value.ownBlock] at hq; omega)
    clear HDL g6
    go_wp2
    go_ret
    exact ⟨_, rfl, O6, u6⟩
end Go.Proofs.YtdddkfpcbfgocaaGreat
namespace Go.Proofs.YtdddkfpcbfgocaaGreat
open Go.RowKit Go.Over Go.Seg Go.Grow Go.Pt
theorem part_i (xs : Array Value) (i : Nat) (v : Value) (h : xs[i]? = some v) (w : World) : (part 3 xs i).run Tryz.prog w = .ok v w := by
  have hA : ∀ w, (isAgg 3).run Tryz.prog w = .ok false w := fun w => Tryz.isAgg3 w
  simp [part, hA, h]
theorem eqMp (a b c d : Int) (W : World) : (Op.equalIn 10000 126 (.agg #[.int .i64 a, .int .i64 b]) (.agg #[.int .i64 c, .int .i64 d])).run Tryz.prog W = .ok (a == c && b == d) W := by
  rw [show (10000 : Nat) = 9998 + 1 + 1 from rfl, run_equalIn_struct W (9998 + 1) 126 _ _ (by kernel_rfl) (by kernel_rfl)]
  have hf : (Tryz.prog.fieldsOf 126).toList = [Field.mk "Space" 3 0 false "" "" 0, Field.mk "Page" 3 1 false "" "" 8] := by kernel_rfl
  have hE : ∀ (a b : Int) (w : World), (Op.equalIn (9998 + 1) 3 (.int .i64 a) (.int .i64 b)).run Tryz.prog w = .ok (a == b) w := fun a b w => run_equalIn_int w 9998 3 .i64 .i64 a b Tryz.underlying3
  rw [hf]
  have n1 : ("Space" ≠ "_") = True := by simp
  have n2 : ("Page" ≠ "_") = True := by simp
  simp only [Op.eqFields, n1, n2, if_true, Sem.run_bind, part_i #[.int .i64 a, .int .i64 b] 0 (.int .i64 a) rfl, part_i #[.int .i64 c, .int .i64 d] 0 (.int .i64 c) rfl, Result.andThen_ok, hE]
  cases h1 : (a == c) with
  | false => simp [Sem.run_pure]
  | true =>
    cases h2 : (b == d) with
    | false => simp [Sem.run_pure, Sem.run_bind, hE, h2, part_i #[.int .i64 a, .int .i64 b] 1 (.int .i64 b) rfl, part_i #[.int .i64 c, .int .i64 d] 1 (.int .i64 d) rfl]
    | true => simp [Sem.run_pure, Sem.run_bind, hE, h2, part_i #[.int .i64 a, .int .i64 b] 1 (.int .i64 b) rfl, part_i #[.int .i64 c, .int .i64 d] 1 (.int .i64 d) rfl]
theorem eqMk (k : Nat) (W : World) : (Op.equalIn 10000 126 (.agg (mpC k).toArray) (.agg (mpC k).toArray)).run Tryz.prog W = .ok true W := by
  have := eqMp (k / 512 : Nat) (k % 512 : Nat) (k / 512 : Nat) (k % 512 : Nat) W
  simpa [mpC] using this
def S2B (g h : Nat) (zs ys : List Value) (U : World) : Prop := Blk U g 126 zs ∧ Blk U h 126 ys
set_option maxRecDepth 100000 in set_option maxHeartbeats 3200000 in
theorem equalM (v v' : Value) (M : List Nat) (B B' : Nat) (w : World) (H : OwnM w B v M) (H' : OwnM w B' v' M) (hm : M.length ≤ 100000) : Calls Tryz.prog 77 #[v, v'] w fun e w' => e = .returned (.bool true) ∧ Below w.heap.size w w' := by
  obtain ⟨a, c, rfl, _, _, _, hrd⟩ := H.rd
  obtain ⟨a', c', rfl, _, _, _, hrd'⟩ := H'.rd
  obtain ⟨n, hn⟩ : ∃ n, M.length = n := ⟨_, rfl⟩
  rw [hn] at hm ⊢
  have HN := Lib.hid hn; have HR := Lib.hid hrd; have HR' := Lib.hid hrd'
  clear H H' hn hrd hrd'
  go_enter Tryz.func77, Tryz.ntmps77
  go_wp2
  go_loopg [13] n (fun gg v13 wr => ∃ i : Nat, i + gg = n ∧ v13 = .int .i64 i ∧ Below w.heap.size w wr)
  case atStart => exact ⟨0, by omega, rfl, Below.refl _ _⟩
  case round =>
    obtain ⟨i, hi, rfl, b3⟩ := hrel
    cases gk with
    | zero =>
      have hin : ¬ i < n := by omega
      clear hi
      go_wp2
      go_ret
      exact ⟨rfl, b3⟩
    | succ gg =>
      have hin : i < n := by omega
      have HI := Lib.hid hi
      obtain ⟨x, hx⟩ := get_some HN.out hin
      obtain ⟨g, zs, rfl, hB, hz⟩ := HR.out.below b3 i x hx
      obtain ⟨h, ys, rfl, hB', hy⟩ := HR'.out.below b3 i x hx
      have HZ := Lib.hid hz; have HY := Lib.hid hy
      clear hi hx hz hy
      go_upto_region 6 with fail
      refine wp_region_plan (S2B g h zs ys) (.quiet [0, 1, 2, 3, 4, 5, 6, 7, 8] .done) 99 (by kernel_rfl) (by kernel_rfl) ⟨hB.later (Below.refl _ _).drew, hB'.later (Below.refl _ _).drew⟩ ?_
      intro W2 hWW hWe
      have b4 := below_then b3 (show Below wr.heap.size wr W2 by rw [hWe]; exact (Below.refl _ _).drew)
      clear hWe hB hB' b3
      simp only [wpPlan, inOrder, List.filterMap_cons, List.filterMap_nil, List.getElem?_cons_zero, List.getElem?_cons_succ]
      show wpQuiet _ _ _ _ (_ :: _ :: _ :: _ :: _ :: _ :: _ :: _ :: [_]) _
      repeat (go_big_quiet_step (fail))
      refine wpQuiet_load_part (off := i * 2) (cs := mpC x) Tryz.underlying126 rfl (by rw [infoM]; rfl) rfl (fun U ⟨z, hz⟩ => by rw [hz]; exact (hold_ok (S0 := S2B g h zs ys) hWW z).1) HZ.out ?_
      simp only [Act.put, List.setIfInBounds_toArray, List.set_cons_succ, List.set_cons_zero]
      repeat (go_big_quiet_step (fail))
      refine wpQuiet_load_part (off := i * 2) (cs := mpC x) Tryz.underlying126 rfl (by rw [infoM]; rfl) rfl (fun U ⟨z, hz⟩ => by rw [hz]; exact (hold_ok (S0 := S2B g h zs ys) hWW z).2) HY.out ?_
      simp only [Act.put, List.setIfInBounds_toArray, List.set_cons_succ, List.set_cons_zero]
      have heq := fun W => eqMk x W
      repeat (go_big_quiet_step (fail))
      refine wpQuiet_nil ?_
      refine NoPanic.normal ?_
      clear heq hWW
      go_wp2
      go_roundg gg
      case rel => exact ⟨i + 1, by have := HI.out; omega, by go_num, b4⟩
      case measure => omega
set_option maxRecDepth 100000 in set_option maxHeartbeats 3200000 in
theorem sameM (v v' : Value) (M : List Nat) (B B' : Nat) (w : World) (H : OwnM w B v M) (H' : OwnM w B' v' M) (hm : M.length ≤ 100000) : Calls Tryz.prog 73 #[v, v'] w fun e w' => e = .returned (.bool true) ∧ Below w.heap.size w w' := by
  obtain ⟨a, c, rfl, _, _, _, hrd⟩ := H.rd
  obtain ⟨a', c', rfl, _, _, _, hrd'⟩ := H'.rd
  obtain ⟨n, hn⟩ : ∃ n, M.length = n := ⟨_, rfl⟩
  rw [hn] at hm ⊢
  have HN := Lib.hid hn; have HR := Lib.hid hrd; have HR' := Lib.hid hrd'
  clear H H' hn hrd hrd'
  go_enter Tryz.func73, Tryz.ntmps73
  go_wp2
  go_loopg [13] n (fun gg v13 wr => ∃ i : Nat, i + gg = n ∧ v13 = .int .i64 i ∧ Below w.heap.size w wr)
  case atStart => exact ⟨0, by omega, rfl, Below.refl _ _⟩
  case round =>
    obtain ⟨i, hi, rfl, b3⟩ := hrel
    cases gk with
    | zero =>
      have hin : ¬ i < n := by omega
      clear hi
      go_wp2
      go_ret
      exact ⟨rfl, b3⟩
    | succ gg =>
      have hin : i < n := by omega
      have HI := Lib.hid hi
      obtain ⟨x, hx⟩ := get_some HN.out hin
      obtain ⟨g, zs, rfl, hB, hz⟩ := HR.out.below b3 i x hx
      obtain ⟨h, ys, rfl, hB', hy⟩ := HR'.out.below b3 i x hx
      have HZ := Lib.hid hz; have HY := Lib.hid hy
      clear hi hx hz hy
      go_upto_region 6 with fail
      refine wp_region_plan (S2B g h zs ys) (.quiet [0, 1, 2, 3, 4, 5, 6, 7, 8] .done) 99 (by kernel_rfl) (by kernel_rfl) ⟨hB.later (Below.refl _ _).drew, hB'.later (Below.refl _ _).drew⟩ ?_
      intro W2 hWW hWe
      have b4 := below_then b3 (show Below wr.heap.size wr W2 by rw [hWe]; exact (Below.refl _ _).drew)
      clear hWe hB hB' b3
      simp only [wpPlan, inOrder, List.filterMap_cons, List.filterMap_nil, List.getElem?_cons_zero, List.getElem?_cons_succ]
      show wpQuiet _ _ _ _ (_ :: _ :: _ :: _ :: _ :: _ :: _ :: _ :: [_]) _
      repeat (go_big_quiet_step (fail))
      refine wpQuiet_load_part (off := i * 2) (cs := mpC x) Tryz.underlying126 rfl (by rw [infoM]; rfl) rfl (fun U ⟨z, hz⟩ => by rw [hz]; exact (hold_ok (S0 := S2B g h zs ys) hWW z).1) HZ.out ?_
      simp only [Act.put, List.setIfInBounds_toArray, List.set_cons_succ, List.set_cons_zero]
      repeat (go_big_quiet_step (fail))
      refine wpQuiet_load_part (off := i * 2) (cs := mpC x) Tryz.underlying126 rfl (by rw [infoM]; rfl) rfl (fun U ⟨z, hz⟩ => by rw [hz]; exact (hold_ok (S0 := S2B g h zs ys) hWW z).2) HY.out ?_
      simp only [Act.put, List.setIfInBounds_toArray, List.set_cons_succ, List.set_cons_zero]
      have heq := fun W => eqMk x W
      repeat (go_big_quiet_step (fail))
      refine wpQuiet_nil ?_
      refine NoPanic.normal ?_
      clear heq hWW
      go_wp2
      go_roundg gg
      case rel => exact ⟨i + 1, by have := HI.out; omega, by go_num, b4⟩
      case measure => omega
end Go.Proofs.YtdddkfpcbfgocaaGreat
namespace Go.Pt
theorem pgs_in {ent : Nat → En} {i p : Nat} (h : (pgs ent 512)[i]? = some p) : p < 512 ∧ (ent p).k ≠ 0 := by
  have := List.mem_filter.1 (List.mem_of_getElem? h)
  exact ⟨List.mem_range.1 this.1, by simpa using this.2⟩
end Go.Pt
namespace Go.Proofs.YtdddkfpcbfgocaaGreat
open Go.RowKit Go.Over Go.Seg Go.Grow Go.Pt
/-- Lists of mappings in a row. -/
structure MV (w : World) (g : Nat) (vs : List Value) (m B : Nat) (E : Nat → List Nat) : Prop where
  x : Blk w g 123 vs
  n : vs.length = m
  row : ∀ f, f < m → ∃ v, vs[f]? = some v ∧ OwnM w B v (E f)
theorem MV.below {w w' : World} {g m B : Nat} {vs : List Value} {E : Nat → List Nat} (h : MV w g vs m B E) (hb : Below w.heap.size w w') : MV w' g vs m B E :=
  ⟨h.x.later hb, h.n, fun f hf => by obtain ⟨v, h1, h2⟩ := h.row f hf; exact ⟨v, h1, h2.later hb⟩⟩
set_option maxRecDepth 100000 in set_option maxHeartbeats 3200000 in
theorem equalFM (g h m B B' c c' : Nat) (vs ys : List Value) (E : Nat → List Nat) (w : World) (H : MV w g vs m B E) (H' : MV w h ys m B' E) (hE : ∀ f, f < m → (E f).length ≤ 100000) (hm : m ≤ 1000) : Calls Tryz.prog 76 #[.slice (some ⟨g, 0, none⟩) m c, .slice (some ⟨h, 0, none⟩) m c', .func (.func 77) #[] #[]] w fun e w' => e = .returned (.bool true) ∧ Below w.heap.size w w' := by
  have HH := Lib.hid H; have HH' := Lib.hid H'; have HE := Lib.hid hE
  clear H H' hE
  go_enter Tryz.func76, Tryz.ntmps76
  go_wp2
  go_loopg [17] m (fun gg v17 wr => ∃ i : Nat, i + gg = m ∧ v17 = .int .i64 i ∧ Below w.heap.size w wr)
  case atStart => exact ⟨0, by omega, rfl, Below.refl _ _⟩
  case round =>
    obtain ⟨i, hi, rfl, b3⟩ := hrel
    cases gk with
    | zero =>
      have hin : ¬ i < m := by omega
      clear hi
      go_wp2
      go_ret
      exact ⟨rfl, b3⟩
    | succ gg =>
      have hin : i < m := by omega
      have HI := Lib.hid hi
      have M1 := HH.out.below b3
      have M2 := HH'.out.below b3
      obtain ⟨v, hv, hO⟩ := M1.row i hin
      obtain ⟨v', hv', hO'⟩ := M2.row i hin
      have c1 : wr.cell? ⟨g, i, none⟩ = some v := by rw [M1.x.cell]; exact hv
      have c2 : wr.cell? ⟨h, i, none⟩ = some v' := by rw [M2.x.cell]; exact hv'
      have HEQ := Lib.hid (equalM v v' (E i) B B' wr hO hO' (HE.out i hin))
      clear hi M1 M2 hv hv' hO hO'
      go_wp2_with fail
      refine HEQ.out.mono ?_
      rintro e w4 ⟨rfl, b4⟩
      have b5 := below_then b3 b4
      clear HEQ b3 b4 c1 c2
      go_wp2
      go_roundg gg
      case rel => exact ⟨i + 1, by have := HI.out; omega, by go_num, b5⟩
      case measure => omega
/-- The blocks of a type stay. -/
def KeepT (t : TypeId) (w w' : World) : Prop := ∀ (g : Nat) (zs : List Value), Blk w g t zs → Blk w' g t zs
theorem KeepT.below {t : TypeId} {w w' : World} (h : Below w.heap.size w w') : KeepT t w w' := fun _ _ hB => hB.later h
theorem KeepT.trans {t : TypeId} {w w1 w2 : World} (h : KeepT t w w1) (h' : KeepT t w1 w2) : KeepT t w w2 := fun g zs hB => h' g zs (h g zs hB)
theorem KeepT.grown {t u : TypeId} {w w' : World} {g : Nat} {cs : List Value} (hB : Blk w g u cs) (ht : u ≠ t) (hg : w.grownBy w' (some g)) : KeepT t w w' := fun q zs hq => hq.grown hg (by simpa using hB.ne_type hq ht)
theorem KeepT.own {t u : TypeId} {w w' : World} {B k n : Nat} {v : Value} {xs : List Value} (hO : w.ownsRow B u k v n xs) (ht : u ≠ t) (hg : w.grownBy w' v.ownBlock) : KeepT t w w' := fun _ _ hq => hq.grown hg (hq.not_own hO ht)
/-- What a call for each entry does. -/
def EachAns (I : Nat → World → Prop) (i : Nat) (w : World) (e : Ending) (w' : World) : Prop := e = .returned (.tuple #[]) ∧ I i w' ∧ KeepT 145 w w'
set_option maxRecDepth 100000 in set_option maxHeartbeats 3200000 in
theorem namedI (g1 g2 g3 g4 : Nat) (r : Int) (b n c : Nat) (ns : List Value) (N : List Nd) (mid low : Nat → Option Int) (ent : Nat → En) (I : Nat → World → Prop) (w : World) (H : TV w r b n c ns N mid low ent) (hI : ∀ i W W', I i W → Below W.heap.size W W' → I i W')
    (hC : ∀ (i p : Nat) (W : World), (pgs ent 512)[i]? = some p → I i W → Calls Tryz.prog 75 #[.int .i64 p, .int .i64 (ent p).n, .pointer (some ⟨g1, 0, none⟩), .pointer (some ⟨g2, 0, none⟩), .pointer (some ⟨g3, 0, none⟩), .pointer (some ⟨g4, 0, none⟩)] W (EachAns I (i + 1) W)) (h0 : I 0 w) :
    Calls Tryz.prog 74 #[.agg #[.int .i64 r, .slice (some ⟨b, 0, none⟩) n c, .slice none 0 0], .func (.func 75) #[] #[.pointer (some ⟨g1, 0, none⟩), .pointer (some ⟨g2, 0, none⟩), .pointer (some ⟨g3, 0, none⟩), .pointer (some ⟨g4, 0, none⟩)]] w fun e w' => e = .returned (.tuple #[]) ∧ I (pgs ent 512).length w' := by
  have X0 := PX.new (r := r) (c := c) (n := n) H.nv
  have HH := Lib.hid H; have HI := Lib.hid hI; have HC := Lib.hid hC
  have I1 := hI 0 w _ h0 (below_box w (.cells #[.int .i64 r, .slice (some ⟨b, 0, none⟩) n c, .slice none 0 0] 120))
  have hm := pgs_len ent 512
  obtain ⟨m, hme⟩ : ∃ m, (pgs ent 512).length = m := ⟨_, rfl⟩
  have HM := Lib.hid hme
  rw [hme] at hm ⊢
  clear H hI hC h0 hme
  go_enter Tryz.func74, Tryz.ntmps74
  go_upto_region 1 with fail
  obtain ⟨w1, hw1⟩ : ∃ W, W = w.alloc (.cells #[.int .i64 r, .slice (some ⟨b, 0, none⟩) n c, .slice none 0 0] 120) := ⟨_, rfl⟩
  rw [← hw1] at X0 I1 ⊢
  obtain ⟨g, hg⟩ : ∃ g, w.heap.size = g := ⟨_, rfl⟩
  have X1 : PX w g r b n c ns N w1 := by rw [← hg]; exact X0
  rw [hg]
  clear X0 hw1 hg
  have HLI := Lib.hid (list r b n c ns N mid low ent w1 ⟨X1.v, HH.out.ln, HH.out.tr⟩)
  go_wp2_with ((with_reducible refine ldPT ?_ X1.x ?_); (focus rfl))
  refine HLI.out.mono ?_
  rintro e w2 ⟨v, rfl, O2, b2⟩
  have I2 := HI.out 0 _ _ I1 b2
  clear X1 I1 b2 HLI
  unfold OwnP at O2
  rw [HM.out] at O2
  obtain ⟨a, cp, rfl, _, _, _⟩ := own_form O2
  have hrd : ∀ i p, (pgs ent 512)[i]? = some p → ∃ (q : Nat) (zs : List Value), a = some ⟨q, 0, none⟩ ∧ Blk w2 q 145 zs ∧ ∀ j u, (peC ent p)[j]? = some u → zs[i * 2 + j]? = some u := fun i p hp => by
    obtain ⟨q, cq, zs0, hv, _, _, _, hB, hrow⟩ := own_blk O2 (by rw [← HM.out, List.getElem?_eq_some_iff] at *; have := hp.1; omega)
    cases hv
    exact ⟨q, zs0, rfl, hB, fun j u hu => hrow _ _ (flat_get (peC_len ent) hp hu)⟩
  have HRD := Lib.hid hrd
  clear O2 hrd
  go_wp2
  go_loopg [12] m (fun gg v12 wr => ∃ i : Nat, i + gg = m ∧ v12 = .int .i64 i ∧ I i wr ∧ KeepT 145 w2 wr)
  case atStart => exact ⟨0, by omega, rfl, I2, fun _ _ h => h⟩
  case round =>
    clear I2
    obtain ⟨i, hi, rfl, I3, K3⟩ := hrel
    cases gk with
    | zero =>
      obtain rfl : m = i := by omega
      have hin : ¬ m < m := by omega
      clear hi
      go_wp2
      refine bodyPost_end (results_none rfl _ _ _) rfl ?_
      exact ⟨rfl, I3⟩
    | succ gg =>
      have hin : i < m := by omega
      have HI1 := Lib.hid hi
      obtain ⟨p, hp⟩ := get_some HM.out hin
      obtain ⟨q, zs, rfl, hB, hz⟩ := HRD.out i p hp
      have hB := K3 q zs hB
      have HP := Lib.hid hp; have HZ := Lib.hid hz
      have hZ := Blk.new wr 145 #[.int .i64 0, .int .u64 0] _ rfl
      have bz := below_box wr (.cells #[.int .i64 0, .int .u64 0] 145)
      clear hi hp hz
      go_upto_region 4 with first | ((with_reducible refine wpList_load_part (off := i * 2) (cs := peC ent p) Tryz.underlying145 rfl (by rw [infoPE]; exact congrArg some (peC_len ent p).symm) ?_ hB HZ.out ?_); (focus rfl)) | ((with_reducible refine stPE (ent := ent) (p := p) ?_ ?_ hZ rfl ?_); (focus rfl); (focus rfl); intro w4 hB4 hg4)
      obtain ⟨q4, hg4'⟩ : ∃ g, wr.heap.size = g := ⟨_, rfl⟩
      have b4 := bz.grown hg4 bz.size (fun k hk => by cases hk; exact Nat.le_refl _)
      have I4 := HI.out i _ _ I3 b4
      have K4 := K3.trans (KeepT.below b4)
      rw [hg4'] at hB4 ⊢
      obtain ⟨hp5, hpk⟩ := pgs_in HP.out
      have hpk1 : (ent p).k = 1 := by
        rcases HH.out.tr.pg p hp5 with h | h
        · exact absurd h hpk
        · exact h
      have hve := HH.out.tr.ve p hp5
      have HVE := Lib.hid hve
      have HPK := Lib.hid hpk1
      have HDE := Lib.hid (fun u => decE hve u)
      have c1 : w4.cell? ⟨q4, 1, none⟩ = some (.int .u64 (wd (ent p))) := by rw [hB4.cell]; rfl
      have HB4 := Lib.hid hB4
      obtain ⟨W0, hW0⟩ : ∃ q, wd (ent p) = q := ⟨_, rfl⟩
      rw [hW0] at c1 HDE
      clear hZ bz hg4 b4 hg4' I3 K3 hB hpk hpk1 hve hW0 hB4
      go_wp2_with fail
      refine (HDE.out w4).mono ?_
      rintro e w5 ⟨rfl, b5⟩
      have I5 := HI.out i _ _ I4 b5
      have K5 := K4.trans (KeepT.below b5)
      have B5 := HB4.out.later b5
      have hz := Blk.new w5 131 #[.int .i64 0, .int .i64 0, .bool false, .bool false, .bool false, .bool false] _ rfl
      have bz := below_box w5 (.cells #[.int .i64 0, .int .i64 0, .bool false, .bool false, .bool false, .bool false] 131)
      clear I4 K4 b5 c1 HDE HB4
      go_upto_region 5 with ((with_reducible refine stE (k := (ent p).k) (n := (ent p).n) (b := (ent p).b) ?_ ?_ hz rfl ?_); (focus rfl); (focus rfl); intro w6 hB6 hg6)
      obtain ⟨q6, hq6⟩ : ∃ g, w5.heap.size = g := ⟨_, rfl⟩
      have b6 := bz.grown hg6 bz.size (fun k hk => by cases hk; exact Nat.le_refl _)
      have I6 := HI.out i _ _ I5 b6
      have K6 := K5.trans (KeepT.below b6)
      have B6 := B5.later b6
      rw [hq6] at hB6 ⊢
      have d0 : w6.cell? ⟨q6, 0, none⟩ = some (.int .i64 1) := by rw [hB6.cell, ← HPK.out]; rfl
      have d1 : w6.cell? ⟨q6, 1, none⟩ = some (.int .i64 (ent p).n) := by rw [hB6.cell]; rfl
      have d5 : w6.cell? ⟨q6, 5, none⟩ = some (.bool false) := by rw [hB6.cell]; rfl
      have c0 : w6.cell? ⟨q4, 0, none⟩ = some (.int .i64 p) := by rw [B6.cell]; rfl
      obtain ⟨nn, hnn⟩ : ∃ q, (ent p).n = q := ⟨_, rfl⟩
      have HCC := Lib.hid (HC.out i p w6 HP.out I6)
      have hnr : 0 ≤ nn ∧ nn ≤ 4294967295 := by
        have := HVE.out.h
        rw [HPK.out, hnn] at this
        omega
      rw [hnn] at d1 HCC
      clear hz bz hg6 b6 hq6 I5 K5 B5 B6 hB6 hnn I6
      go_wp2_with fail
      refine HCC.out.mono ?_
      rintro e w7 ⟨rfl, I7, K7⟩
      have K8 := K6.trans K7
      clear c0 d0 d1 d5 K6 K7 HCC
      go_wp2
      go_roundg gg
      case rel => exact ⟨i + 1, by have := HI1.out; omega, by go_num, I7, K8⟩
      case measure => omega
set_option maxRecDepth 100000 in set_option maxHeartbeats 3200000 in
theorem namedO (g1 g2 g3 : Nat) (r : Int) (b n c : Nat) (ns : List Value) (N : List Nd) (mid low : Nat → Option Int) (ent : Nat → En) (I : Nat → World → Prop) (w : World) (H : TV w r b n c ns N mid low ent) (hI : ∀ i W W', I i W → Below W.heap.size W W' → I i W')
    (hC : ∀ (i p : Nat) (W : World), (pgs ent 512)[i]? = some p → I i W → Calls Tryz.prog 111 #[.int .i64 p, .int .i64 (ent p).n, .pointer (some ⟨g1, 0, none⟩), .pointer (some ⟨g2, 0, none⟩), .pointer (some ⟨g3, 0, none⟩)] W (EachAns I (i + 1) W)) (h0 : I 0 w) :
    Calls Tryz.prog 74 #[.agg #[.int .i64 r, .slice (some ⟨b, 0, none⟩) n c, .slice none 0 0], .func (.func 111) #[] #[.pointer (some ⟨g1, 0, none⟩), .pointer (some ⟨g2, 0, none⟩), .pointer (some ⟨g3, 0, none⟩)]] w fun e w' => e = .returned (.tuple #[]) ∧ I (pgs ent 512).length w' := by
  have X0 := PX.new (r := r) (c := c) (n := n) H.nv
  have HH := Lib.hid H; have HI := Lib.hid hI; have HC := Lib.hid hC
  have I1 := hI 0 w _ h0 (below_box w (.cells #[.int .i64 r, .slice (some ⟨b, 0, none⟩) n c, .slice none 0 0] 120))
  have hm := pgs_len ent 512
  obtain ⟨m, hme⟩ : ∃ m, (pgs ent 512).length = m := ⟨_, rfl⟩
  have HM := Lib.hid hme
  rw [hme] at hm ⊢
  clear H hI hC h0 hme
  go_enter Tryz.func74, Tryz.ntmps74
  go_upto_region 1 with fail
  obtain ⟨w1, hw1⟩ : ∃ W, W = w.alloc (.cells #[.int .i64 r, .slice (some ⟨b, 0, none⟩) n c, .slice none 0 0] 120) := ⟨_, rfl⟩
  rw [← hw1] at X0 I1 ⊢
  obtain ⟨g, hg⟩ : ∃ g, w.heap.size = g := ⟨_, rfl⟩
  have X1 : PX w g r b n c ns N w1 := by rw [← hg]; exact X0
  rw [hg]
  clear X0 hw1 hg
  have HLI := Lib.hid (list r b n c ns N mid low ent w1 ⟨X1.v, HH.out.ln, HH.out.tr⟩)
  go_wp2_with ((with_reducible refine ldPT ?_ X1.x ?_); (focus rfl))
  refine HLI.out.mono ?_
  rintro e w2 ⟨v, rfl, O2, b2⟩
  have I2 := HI.out 0 _ _ I1 b2
  clear X1 I1 b2 HLI
  unfold OwnP at O2
  rw [HM.out] at O2
  obtain ⟨a, cp, rfl, _, _, _⟩ := own_form O2
  have hrd : ∀ i p, (pgs ent 512)[i]? = some p → ∃ (q : Nat) (zs : List Value), a = some ⟨q, 0, none⟩ ∧ Blk w2 q 145 zs ∧ ∀ j u, (peC ent p)[j]? = some u → zs[i * 2 + j]? = some u := fun i p hp => by
    obtain ⟨q, cq, zs0, hv, _, _, _, hB, hrow⟩ := own_blk O2 (by rw [← HM.out, List.getElem?_eq_some_iff] at *; have := hp.1; omega)
    cases hv
    exact ⟨q, zs0, rfl, hB, fun j u hu => hrow _ _ (flat_get (peC_len ent) hp hu)⟩
  have HRD := Lib.hid hrd
  clear O2 hrd
  go_wp2
  go_loopg [12] m (fun gg v12 wr => ∃ i : Nat, i + gg = m ∧ v12 = .int .i64 i ∧ I i wr ∧ KeepT 145 w2 wr)
  case atStart => exact ⟨0, by omega, rfl, I2, fun _ _ h => h⟩
  case round =>
    clear I2
    obtain ⟨i, hi, rfl, I3, K3⟩ := hrel
    cases gk with
    | zero =>
      obtain rfl : m = i := by omega
      have hin : ¬ m < m := by omega
      clear hi
      go_wp2
      refine bodyPost_end (results_none rfl _ _ _) rfl ?_
      exact ⟨rfl, I3⟩
    | succ gg =>
      have hin : i < m := by omega
      have HI1 := Lib.hid hi
      obtain ⟨p, hp⟩ := get_some HM.out hin
      obtain ⟨q, zs, rfl, hB, hz⟩ := HRD.out i p hp
      have hB := K3 q zs hB
      have HP := Lib.hid hp; have HZ := Lib.hid hz
      have hZ := Blk.new wr 145 #[.int .i64 0, .int .u64 0] _ rfl
      have bz := below_box wr (.cells #[.int .i64 0, .int .u64 0] 145)
      clear hi hp hz
      go_upto_region 4 with first | ((with_reducible refine wpList_load_part (off := i * 2) (cs := peC ent p) Tryz.underlying145 rfl (by rw [infoPE]; exact congrArg some (peC_len ent p).symm) ?_ hB HZ.out ?_); (focus rfl)) | ((with_reducible refine stPE (ent := ent) (p := p) ?_ ?_ hZ rfl ?_); (focus rfl); (focus rfl); intro w4 hB4 hg4)
      obtain ⟨q4, hg4'⟩ : ∃ g, wr.heap.size = g := ⟨_, rfl⟩
      have b4 := bz.grown hg4 bz.size (fun k hk => by cases hk; exact Nat.le_refl _)
      have I4 := HI.out i _ _ I3 b4
      have K4 := K3.trans (KeepT.below b4)
      rw [hg4'] at hB4 ⊢
      obtain ⟨hp5, hpk⟩ := pgs_in HP.out
      have hpk1 : (ent p).k = 1 := by
        rcases HH.out.tr.pg p hp5 with h | h
        · exact absurd h hpk
        · exact h
      have hve := HH.out.tr.ve p hp5
      have HVE := Lib.hid hve
      have HPK := Lib.hid hpk1
      have HDE := Lib.hid (fun u => decE hve u)
      have c1 : w4.cell? ⟨q4, 1, none⟩ = some (.int .u64 (wd (ent p))) := by rw [hB4.cell]; rfl
      have HB4 := Lib.hid hB4
      obtain ⟨W0, hW0⟩ : ∃ q, wd (ent p) = q := ⟨_, rfl⟩
      rw [hW0] at c1 HDE
      clear hZ bz hg4 b4 hg4' I3 K3 hB hpk hpk1 hve hW0 hB4
      go_wp2_with fail
      refine (HDE.out w4).mono ?_
      rintro e w5 ⟨rfl, b5⟩
      have I5 := HI.out i _ _ I4 b5
      have K5 := K4.trans (KeepT.below b5)
      have B5 := HB4.out.later b5
      have hz := Blk.new w5 131 #[.int .i64 0, .int .i64 0, .bool false, .bool false, .bool false, .bool false] _ rfl
      have bz := below_box w5 (.cells #[.int .i64 0, .int .i64 0, .bool false, .bool false, .bool false, .bool false] 131)
      clear I4 K4 b5 c1 HDE HB4
      go_upto_region 5 with ((with_reducible refine stE (k := (ent p).k) (n := (ent p).n) (b := (ent p).b) ?_ ?_ hz rfl ?_); (focus rfl); (focus rfl); intro w6 hB6 hg6)
      obtain ⟨q6, hq6⟩ : ∃ g, w5.heap.size = g := ⟨_, rfl⟩
      have b6 := bz.grown hg6 bz.size (fun k hk => by cases hk; exact Nat.le_refl _)
      have I6 := HI.out i _ _ I5 b6
      have K6 := K5.trans (KeepT.below b6)
      have B6 := B5.later b6
      rw [hq6] at hB6 ⊢
      have d0 : w6.cell? ⟨q6, 0, none⟩ = some (.int .i64 1) := by rw [hB6.cell, ← HPK.out]; rfl
      have d1 : w6.cell? ⟨q6, 1, none⟩ = some (.int .i64 (ent p).n) := by rw [hB6.cell]; rfl
      have d5 : w6.cell? ⟨q6, 5, none⟩ = some (.bool false) := by rw [hB6.cell]; rfl
      have c0 : w6.cell? ⟨q4, 0, none⟩ = some (.int .i64 p) := by rw [B6.cell]; rfl
      obtain ⟨nn, hnn⟩ : ∃ q, (ent p).n = q := ⟨_, rfl⟩
      have HCC := Lib.hid (HC.out i p w6 HP.out I6)
      have hnr : 0 ≤ nn ∧ nn ≤ 4294967295 := by
        have := HVE.out.h
        rw [HPK.out, hnn] at this
        omega
      rw [hnn] at d1 HCC
      clear hz bz hg6 b6 hq6 I5 K5 B5 B6 hB6 hnn I6
      go_wp2_with fail
      refine HCC.out.mono ?_
      rintro e w7 ⟨rfl, I7, K7⟩
      have K8 := K6.trans K7
      clear c0 d0 d1 d5 K6 K7 HCC
      go_wp2
      go_roundg gg
      case rel => exact ⟨i + 1, by have := HI1.out; omega, by go_num, I7, K8⟩
      case measure => omega
end Go.Proofs.YtdddkfpcbfgocaaGreat
namespace Go.Pt
theorem mpC_at {s p : Nat} (hp : p < 512) : mpC (512 * s + p) = [.int .i64 (s : Nat), .int .i64 (p : Nat)] := by
  unfold mpC
  rw [show (512 * s + p) / 512 = s by omega, show (512 * s + p) % 512 = p by omega]
/-- A function of numbers with another value at one of them. -/
def updR (R : Nat → List Nat) (f : Nat) (M : List Nat) (i : Nat) : List Nat := if i = f then M else R i
theorem updR_at (R : Nat → List Nat) (f : Nat) (M : List Nat) : updR R f M f = M := if_pos rfl
theorem updR_ne {R : Nat → List Nat} {f i : Nat} {M : List Nat} (h : i ≠ f) : updR R f M i = R i := if_neg h
end Go.Pt
namespace Go.Proofs.YtdddkfpcbfgocaaGreat
open Go.RowKit Go.Over Go.Seg Go.Grow Go.Pt
section
variable {ops : Array Oper} {rest : List Oper} {d i j : Nat} {ty : TypeId} {pos : String} {af : Array Edge} {a : Act} {w : World} {Q : Exit → Act → World → Prop}
/-- A mapping is appended. -/
theorem wpList_appM {base b : Nat} {v : Value} {M : List Nat} {k : Nat} (hs : a.eval (.tmp i) = v) (hx : a.eval (.tmp j) = .slice (some ⟨b, 0, none⟩) 1 1) (hO : OwnM w base v M) (hB : Blk w b 126 (mpC k)) (hl : M.length ≤ 900000) (hb : base ≤ w.heap.size)
    (h : ∀ v' w', OwnM w' base v' (M ++ [k]) → w.grownBy w' v.ownBlock → (∀ q, v'.ownBlock = some q → v.ownBlock = some q ∨ w.heap.size ≤ q) → wpList Tryz.prog ops Q rest (a.put (some d) v') w') :
    wpList Tryz.prog ops Q ({ dst := some d, op := .call { callee := .builtin .append, args := #[.tmp i, .tmp j], argTypes := #[123, 123] }, type := ty, pos := pos, after := af, guard := none } :: rest) a w := by
  refine wpList_append_k K123 rfl (.tmp i) (.tmp j) rfl v M.length (M.flatMap mpC) hs hO (some ⟨b, 0, none⟩) 1 1 (mpC k) hx ⟨rfl, mpC_one k, .inr ⟨_, rfl, fun z u hk => ?_⟩⟩ (by omega) hb fun v' w' q1 q2 q3 => h v' w' ?_ q2 q3
  · rw [add_off, Nat.zero_add, hB.cell]; exact hk
  · unfold OwnM
    rw [List.flatMap_append, List.length_append]
    simpa using q1
end
/-- Rows in blocks of their own. -/
def DJ (vs : List Value) : Prop := ∀ (f f' : Nat) (v v' : Value) (q : Nat), vs[f]? = some v → vs[f']? = some v' → v.ownBlock = some q → v'.ownBlock = some q → f = f'
/-- What the function keeps that is called for each page of a space. -/
structure IV (W0 : World) (g1 g2 g3 g4 bm ba s : Nat) (R : Nat → List Nat) (W : World) : Prop where
  u : Below W0.heap.size W0 W
  mv : Blk W g1 74 [.slice (some ⟨bm, 0, none⟩) 32 32]
  gd : Blk W g2 4 [.bool true]
  al : Blk W g3 74 [.slice (some ⟨ba, 0, none⟩) 32 32]
  sp : Blk W g4 3 [.int .i64 s]
  ex : ∃ vs, MV W ba vs 32 W0.heap.size R ∧ DJ vs
  hb : W0.heap.size ≤ ba
section
variable {W0 W W' W'' : World} {g1 g2 g3 g4 bm ba s : Nat} {R : Nat → List Nat}
theorem IV.below (h : IV W0 g1 g2 g3 g4 bm ba s R W) (hb : Below W.heap.size W W') : IV W0 g1 g2 g3 g4 bm ba s R W' :=
  ⟨below_then h.u hb, h.mv.later hb, h.gd.later hb, h.al.later hb, h.sp.later hb, by obtain ⟨vs, h1, h2⟩ := h.ex; exact ⟨vs, h1.below hb, h2⟩, h.hb⟩
/-- One list is put longer. -/
theorem IV.put {vs : List Value} {v v' : Value} {f : Nat} {M : List Nat} (h : IV W0 g1 g2 g3 g4 bm ba s R W) (hm : MV W ba vs 32 W0.heap.size R) (hd : DJ vs) (hf : f < 32) (hv : vs[f]? = some v) (hO : OwnM W' W0.heap.size v' M) (hg : W.grownBy W' v.ownBlock)
    (hw : ∀ q, v'.ownBlock = some q → v.ownBlock = some q ∨ W.heap.size ≤ q) (hB : Blk W'' ba 123 (vs.set f v')) (hg' : W'.grownBy W'' (some ba)) : IV W0 g1 g2 g3 g4 bm ba s (updR R f M) W'' := by
  have hB0 := hm.x
  obtain ⟨v0, hv0, hO0⟩ := hm.row f hf
  obtain rfl : v0 = v := by rw [hv] at hv0; exact (Option.some.inj hv0).symm
  have hB1 : Blk W' ba 123 vs := hB0.grown hg (hB0.not_own hO0 (by decide))
  have two : ∀ {q : Nat} {t : TypeId} {cs : List Value}, Blk W q t cs → t ≠ 126 → t ≠ 123 → Blk W'' q t cs := fun hq h1 h2 => by
    have a1 := hq.grown hg (hq.not_own hO0 (Ne.symm h1))
    exact a1.grown hg' (by simpa using hB1.ne_type a1 (Ne.symm h2))
  have hsz : W.heap.size ≤ W'.heap.size := hg.size
  refine ⟨(h.u.grown hg h.u.size fun k hk => (World.ownsRow.lt hO0 k hk).1).grown hg' (Nat.le_trans h.u.size hsz) (fun k hk => by cases hk; exact h.hb), two h.mv (by decide) (by decide), two h.gd (by decide) (by decide), two h.al (by decide) (by decide), two h.sp (by decide) (by decide), ⟨_, ⟨hB, by rw [List.length_set]; exact hm.n, fun j hj => ?_⟩, ?_⟩, h.hb⟩
  · by_cases e : j = f
    · subst e
      refine ⟨v', by rw [List.getElem?_set_self (by rw [hm.n]; exact hj)], ?_⟩
      rw [updR_at]
      exact World.ownsRow.kept hO hg' (.inr (hB1.not_own hO (by decide)))
    · obtain ⟨u, hu, hU⟩ := hm.row j hj
      refine ⟨u, by rw [List.getElem?_set_ne (Ne.symm e)]; exact hu, ?_⟩
      rw [updR_ne e]
      have a1 : OwnM W' W0.heap.size u (R j) := World.ownsRow.kept hU hg (by
        cases hq : u.ownBlock with
        | none => exact .inl rfl
        | some q => exact .inr fun e2 => e (hd j f u _ q hu hv hq e2.symm))
      exact World.ownsRow.kept a1 hg' (.inr (hB1.not_own a1 (by decide)))
  · intro i j x y q hx hy hxq hyq
    have old : ∀ {i : Nat} {x : Value}, i ≠ f → (vs.set f v')[i]? = some x → v'.ownBlock = some q → x.ownBlock = some q → False := fun {i x} hi hx h1 h2 => by
      rw [List.getElem?_set_ne (Ne.symm hi)] at hx
      rcases hw q h1 with h3 | h3
      · exact hi (hd i f x _ q hx hv h2 h3)
      · have hi32 : i < 32 := by rw [← hm.n]; exact (List.getElem?_eq_some_iff.1 hx).1
        obtain ⟨u, hu, hU⟩ := hm.row i hi32
        obtain rfl : u = x := by rw [hx] at hu; exact (Option.some.inj hu).symm
        have := (World.ownsRow.lt hU q h2).2
        omega
    by_cases ei : i = f
    · by_cases ej : j = f
      · rw [ei, ej]
      · subst ei
        rw [List.getElem?_set_self (by rw [hm.n]; exact hf)] at hx
        cases hx
        exact (old ej hy hxq hyq).elim
    · by_cases ej : j = f
      · subst ej
        rw [List.getElem?_set_self (by rw [hm.n]; exact hf)] at hy
        cases hy
        exact (old ei hx hyq hxq).elim
      · rw [List.getElem?_set_ne (Ne.symm ei)] at hx
        rw [List.getElem?_set_ne (Ne.symm ej)] at hy
        exact hd i j x y q hx hy hxq hyq
end
def SIn (g3 g4 ba s : Nat) (vs : List Value) (U : World) : Prop := Blk U g3 74 [.slice (some ⟨ba, 0, none⟩) 32 32] ∧ Blk U g4 3 [.int .i64 s] ∧ Blk U ba 123 vs
set_option maxRecDepth 100000 in set_option maxHeartbeats 3200000 in
theorem inv1 (W0 : World) (g1 g2 g3 g4 bm ba s p f : Nat) (R : Nat → List Nat) (w : World) (H : IV W0 g1 g2 g3 g4 bm ba s R w) (hp : p < 512) (hf : f < 32) (hl : (R f).length ≤ 900000) :
    Calls Tryz.prog 75 #[.int .i64 p, .int .i64 (f : Nat), .pointer (some ⟨g1, 0, none⟩), .pointer (some ⟨g2, 0, none⟩), .pointer (some ⟨g3, 0, none⟩), .pointer (some ⟨g4, 0, none⟩)] w fun e w' => e = .returned (.tuple #[]) ∧ IV W0 g1 g2 g3 g4 bm ba s (updR R f (R f ++ [512 * s + p])) w' ∧ KeepT 145 w w' := by
  have c1 : w.cell? ⟨g1, 0, none⟩ = some (.slice (some ⟨bm, 0, none⟩) 32 32) := by rw [H.mv.cell]; rfl
  obtain ⟨vs, hM, hD⟩ := H.ex
  obtain ⟨v, hv, hO⟩ := hM.row f hf
  have HH := Lib.hid H; have HM := Lib.hid hM; have HV := Lib.hid hv; have HO := Lib.hid hO
  have hS : SIn g3 g4 ba s vs w := ⟨H.al, H.sp, hM.x⟩
  have hx := mpC_at (s := s) hp
  have HX := Lib.hid hx
  clear H hM hv hO hx
  go_enter Tryz.func75, Tryz.ntmps75
  go_upto_region 2 with fail
  refine wp_region_plan (SIn g3 g4 ba s vs) (.quiet [0, 1, 2, 3, 4, 5, 6, 7, 8] (.only 9 (.only 10 (.quiet [11] (.last 12))))) 12 (by kernel_rfl) (by kernel_rfl) hS ?_
  intro W2 hWW hWe
  have bW : Below w.heap.size w W2 := by rw [hWe]; exact (Below.refl _ _).drew
  clear hWe c1 hS
  simp only [wpPlan, inOrder, List.filterMap_cons, List.filterMap_nil, List.getElem?_cons_zero, List.getElem?_cons_succ]
  have q1 : ∀ z, (hold (SIn g3 g4 ba s vs) W2 z).cell? ⟨g3, 0, none⟩ = some (.slice (some ⟨ba, 0, none⟩) 32 32) := fun z => by rw [(hold_ok (S0 := SIn g3 g4 ba s vs) hWW z).1.cell]; rfl
  have q2 : ∀ z, (hold (SIn g3 g4 ba s vs) W2 z).cell? ⟨g4, 0, none⟩ = some (.int .i64 s) := fun z => by rw [(hold_ok (S0 := SIn g3 g4 ba s vs) hWW z).2.1.cell]; rfl
  have q3 : ∀ z, (hold (SIn g3 g4 ba s vs) W2 z).cell? ⟨ba, f, none⟩ = some v := fun z => by rw [(hold_ok (S0 := SIn g3 g4 ba s vs) hWW z).2.2.cell]; exact HV.out
  show wpQuiet _ _ _ _ (_ :: _ :: _ :: _ :: _ :: _ :: _ :: _ :: [_]) _
  repeat (go_big_quiet_step (fail))
  refine wpQuiet_nil ?_
  have HW := Lib.hid hWW
  clear q1 q2 q3 hWW
  have H2 := HH.out.below bW
  have M2 := HM.out.below bW
  have O2 := HO.out.later bW
  have b3 := below_box W2 (.cells #[.int .i64 (s : Nat), .int .i64 (p : Nat)] 126)
  have y3 := Blk.new W2 126 #[.int .i64 (s : Nat), .int .i64 (p : Nat)] (mpC (512 * s + p)) (by rw [HX.out])
  have H3 := Lib.hid (H2.below b3)
  have M3 := Lib.hid (M2.below b3)
  have O3 := O2.later b3
  have hS3 : SIn g3 g4 ba s vs (W2.alloc (.cells #[.int .i64 (s : Nat), .int .i64 (p : Nat)] 126)) := ⟨HW.out.1.later b3, HW.out.2.1.later b3, HW.out.2.2.later b3⟩
  have u3 := below_then bW b3
  show wpList _ _ _ [_] _ _
  go_wp2_with fail
  refine ⟨hold_of hS3, ?_⟩
  obtain ⟨w3, hw3⟩ : ∃ V, V = W2.alloc (.cells #[.int .i64 (s : Nat), .int .i64 (p : Nat)] 126) := ⟨_, rfl⟩
  obtain ⟨b, hb⟩ : ∃ q, W2.heap.size = q := ⟨_, rfl⟩
  rw [← hw3] at hS3 u3 H3 M3 O3 y3 ⊢
  rw [hb] at y3 ⊢
  clear hw3 hb b3 H2 M2 O2 bW
  have hws := H3.out.u.size
  show wpList _ _ _ [_] _ _
  refine wpList_appM (base := W0.heap.size) (b := b) (k := 512 * s + p) (M := R f) (v := v) ?_ ?_ O3 y3 hl hws ?_
  · rfl
  · rfl
  intro v' w4 O4 g4' hw4
  obtain ⟨a4, c4, rfl, _⟩ := O4.rd
  obtain ⟨n4, hn4⟩ : ∃ n, (R f ++ [512 * s + p]).length = n := ⟨_, rfl⟩
  have hS4 : SIn g3 g4 ba s vs w4 := ⟨hS3.1.grown g4' (hS3.1.not_own O3 (by decide)), hS3.2.1.grown g4' (hS3.2.1.not_own O3 (by decide)), hS3.2.2.grown g4' (hS3.2.2.not_own O3 (by decide))⟩
  have K4 : KeepT 145 w w4 := (KeepT.below u3).trans (KeepT.own O3 (by decide) g4')
  have H4 := Lib.hid (fun (W : World) (hB : Blk W ba 123 (vs.set f (.slice a4 (R f ++ [512 * s + p]).length c4))) (hg : w4.grownBy W (some ba)) => H3.out.put M3.out hD hf HV.out O4 g4' hw4 hB hg)
  have HS4 := Lib.hid hS4
  have HK4 := Lib.hid K4
  clear hS3 u3 O3 y3 hws g4' hw4 H3 M3 hS4 K4 O4
  rw [hn4] at H4 ⊢
  clear hn4
  simp only [Act.put, List.setIfInBounds_toArray, List.set_cons_succ, List.set_cons_zero]
  go_wp2
  refine ⟨hold_of HS4.out, ?_⟩
  show wpQuiet _ _ _ _ ([_]) _
  repeat (go_big_quiet_step (fail))
  refine wpQuiet_nil ?_
  have hb0 : w4.cell? ⟨ba, f, none⟩ = some v := by rw [HS4.out.2.2.cell]; exact HV.out
  have hfz := HS4.out.2.2.frozen f
  have hBset := HS4.out.2.2.set f (.slice a4 n4 c4)
  have hgs : w4.grownBy (w4.setCell ⟨ba, f, none⟩ (.slice a4 n4 c4)) (some ba) := ⟨rfl, rfl, rfl, by simp [World.setCell], fun k _ hk => Below.heap_setCell w4 ⟨ba, f, none⟩ _ k (fun e => hk (by rw [e]))⟩
  show wpList _ _ _ [_] _ _
  go_wp2_with fail
  refine ⟨trivial, ?_⟩
  refine NoPanic.normal ?_
  have H5 := H4.out _ hBset hgs
  have K5 := HK4.out.trans (KeepT.grown HS4.out.2.2 (by decide) hgs)
  obtain ⟨w5, hw5⟩ : ∃ V, V = w4.setCell ⟨ba, f, none⟩ (.slice a4 n4 c4) := ⟨_, rfl⟩
  rw [← hw5] at H5 K5 ⊢
  clear hb0 hfz hBset hgs hw5
  go_wp2
  refine bodyPost_end (results_none rfl _ _ _) rfl ?_
  exact ⟨rfl, H5, K5⟩
end Go.Proofs.YtdddkfpcbfgocaaGreat
namespace Go.Pt
/-- The mappings of one frame that come from the first pages of a space. -/
def invB (ent : Nat → En) (s i f : Nat) : List Nat := (((pgs ent 512).take i).filter fun p => decide ((ent p).n = (f : Int))).map (512 * s + ·)
def invA (ent : Nat → En) (s f : Nat) : List Nat := ((pgs ent 512).filter fun p => decide ((ent p).n = (f : Int))).map (512 * s + ·)
def invL (E : Nat → Nat → En) : Nat → Nat → List Nat
  | 0, _ => []
  | s + 1, f => invL E s f ++ invA (E s) s f
def invP (E : Nat → Nat → En) (s i f : Nat) : List Nat := invL E s f ++ invB (E s) s i f
section
variable {E : Nat → Nat → En} {s i f p k : Nat}
theorem invP_zero : invP E s 0 = invL E s := by
  funext f
  simp [invP, invB]
theorem invP_last : invP E s (pgs (E s) 512).length = invL E (s + 1) := by
  funext f
  have h : invB (E s) s (pgs (E s) 512).length f = invA (E s) s f := by
    unfold invB invA
    generalize pgs (E s) 512 = l
    rw [List.take_length]
  unfold invP
  rw [h, invL]
theorem invP_next (hp : (pgs (E s) 512)[i]? = some p) (hn : (E s p).n = (f : Int)) : invP E s (i + 1) = updR (invP E s i) f (invP E s i f ++ [512 * s + p]) := by
  funext g
  have h1 : invB (E s) s (i + 1) g = invB (E s) s i g ++ if g = f then [512 * s + p] else [] := by
    unfold invB
    generalize pgs (E s) 512 = l at hp ⊢
    rw [filter_next hp, List.map_append]
    refine congrArg _ ?_
    by_cases e : g = f
    · subst e
      simp [hn]
    · have : ¬ (f : Int) = (g : Int) := by omega
      simp [hn, this, e]
  unfold invP
  rw [h1]
  by_cases e : g = f
  · subst e
    rw [updR_at, if_pos rfl, List.append_assoc]
  · rw [updR_ne e, if_neg e, List.append_nil]
theorem mem_invA : k ∈ invA (E s) s f ↔ k / 512 = s ∧ (E s (k % 512)).k ≠ 0 ∧ (E s (k % 512)).n = f := by
  unfold invA pgs
  simp only [List.mem_map, List.mem_filter, List.mem_range, decide_eq_true_eq]
  constructor
  · rintro ⟨p, ⟨⟨h1, h2⟩, h3⟩, rfl⟩
    rw [show (512 * s + p) / 512 = s by omega, show (512 * s + p) % 512 = p by omega]
    exact ⟨rfl, h2, h3⟩
  · rintro ⟨rfl, h2, h3⟩
    exact ⟨k % 512, ⟨⟨Nat.mod_lt _ (by decide), h2⟩, h3⟩, by omega⟩
theorem mem_invL : ∀ {s : Nat}, k ∈ invL E s f ↔ k / 512 < s ∧ (E (k / 512) (k % 512)).k ≠ 0 ∧ (E (k / 512) (k % 512)).n = f
  | 0 => by simp [invL]
  | s + 1 => by
    show k ∈ invL E s f ++ invA (E s) s f ↔ _
    rw [List.mem_append, mem_invL (s := s), mem_invA]
    constructor
    · rintro (⟨h1, h2⟩ | ⟨h1, h2⟩)
      · exact ⟨by omega, h2⟩
      · rw [h1]; exact ⟨by omega, h2⟩
    · rintro ⟨h1, h2⟩
      by_cases e : k / 512 = s
      · rw [e] at h2; exact .inr ⟨e, h2⟩
      · exact .inl ⟨by omega, h2⟩
theorem invA_asc : List.Pairwise (· < ·) (invA (E s) s f) := by
  unfold invA pgs
  rw [List.pairwise_map]
  refine List.Pairwise.imp (R := (· < ·)) (fun h => by omega) ?_
  exact ((List.pairwise_lt_range (n := 512)).filter _).filter _
theorem invL_asc : ∀ {s : Nat}, List.Pairwise (· < ·) (invL E s f)
  | 0 => List.Pairwise.nil
  | s + 1 => by
    show List.Pairwise _ (invL E s f ++ invA (E s) s f)
    refine List.pairwise_append.2 ⟨invL_asc, invA_asc, fun a ha b hb => ?_⟩
    have h1 := mem_invL.1 ha
    have h2 := mem_invA.1 hb
    omega
theorem invL_ml (hs : s ≤ 8) : ML (invL E s f) := ⟨invL_asc, fun k hk => by have := mem_invL.1 hk; omega⟩
theorem invB_len : (invB (E s) s i f).length ≤ 512 := by
  unfold invB
  rw [List.length_map]
  refine Nat.le_trans (List.length_filter_le _ _) ?_
  rw [List.length_take]
  have := pgs_len (E s) 512
  omega
theorem invP_len (hs : s ≤ 8) : (invP E s i f).length ≤ 900000 := by
  unfold invP
  rw [List.length_append]
  have h1 := (invL_ml (E := E) (f := f) hs).len
  have h2 := invB_len (E := E) (s := s) (i := i) (f := f)
  omega
end
end Go.Pt
namespace Go.Proofs.YtdddkfpcbfgocaaGreat
open Go.RowKit Go.Over Go.Seg Go.Grow Go.Pt
/-- Page tables in a row. -/
structure TB (w : World) (bt nt : Nat) (zs : List Value) (E : Nat → Nat → En) (nx : Int) : Prop where
  x : Blk w bt 120 zs
  ln : nt * 3 ≤ zs.length
  row : ∀ s, s < nt → ∃ r b n c ns N mid low, (∀ j v, (ptC r b n c)[j]? = some v → zs[s * 3 + j]? = some v) ∧ TV w r b n c ns N mid low (E s) ∧ ∀ x ∈ N, x.f < nx
theorem TB.below {w w' : World} {bt nt : Nat} {zs : List Value} {E : Nat → Nat → En} {nx : Int} (h : TB w bt nt zs E nx) (hb : Below w.heap.size w w') : TB w' bt nt zs E nx :=
  ⟨h.x.later hb, h.ln, fun s hs => by obtain ⟨r, b, n, c, ns, N, mid, low, h1, h2, h3⟩ := h.row s hs; exact ⟨r, b, n, c, ns, N, mid, low, h1, h2.below hb, h3⟩⟩
theorem MV.congr {w : World} {g m B : Nat} {vs : List Value} {E E' : Nat → List Nat} (h : MV w g vs m B E) (he : ∀ f, f < m → E f = E' f) : MV w g vs m B E' := ⟨h.x, h.n, fun f hf => by rw [← he f hf]; exact h.row f hf⟩
/-- What Inverse keeps from space to space. -/
structure OV (W0 : World) (g1 g2 g3 bm ba : Nat) (R : Nat → List Nat) (W : World) : Prop where
  u : Below W0.heap.size W0 W
  mv : Blk W g1 74 [.slice (some ⟨bm, 0, none⟩) 32 32]
  gd : Blk W g2 4 [.bool true]
  al : Blk W g3 74 [.slice (some ⟨ba, 0, none⟩) 32 32]
  ex : ∃ vs, MV W ba vs 32 W0.heap.size R ∧ DJ vs
  hb : W0.heap.size ≤ ba
section
variable {W0 W W' : World} {g1 g2 g3 g4 bm ba s : Nat} {R : Nat → List Nat}
theorem OV.below (h : OV W0 g1 g2 g3 bm ba R W) (hb : Below W.heap.size W W') : OV W0 g1 g2 g3 bm ba R W' :=
  ⟨below_then h.u hb, h.mv.later hb, h.gd.later hb, h.al.later hb, by obtain ⟨vs, h1, h2⟩ := h.ex; exact ⟨vs, h1.below hb, h2⟩, h.hb⟩
theorem OV.iv (h : OV W0 g1 g2 g3 bm ba R W) (hs : Blk W g4 3 [.int .i64 s]) : IV W0 g1 g2 g3 g4 bm ba s R W := ⟨h.u, h.mv, h.gd, h.al, hs, h.ex, h.hb⟩
theorem IV.ov (h : IV W0 g1 g2 g3 g4 bm ba s R W) : OV W0 g1 g2 g3 bm ba R W := ⟨h.u, h.mv, h.gd, h.al, h.ex, h.hb⟩
end
/-- The lists agree with the tables. -/
structure Agr (nt : Nat) (E : Nat → Nat → En) (M : Nat → List Nat) : Prop where
  ml : ∀ f, f < 32 → ML (M f)
  mem : ∀ f k, f < 32 → (k ∈ M f ↔ k / 512 < nt ∧ (E (k / 512) (k % 512)).k ≠ 0 ∧ (E (k / 512) (k % 512)).n = f)
  fr : ∀ s p, s < nt → p < 512 → (E s p).k ≠ 0 → ∃ f, f < 32 ∧ (E s p).n = ((f : Nat) : Int)
theorem Agr.inv {nt : Nat} {E : Nat → Nat → En} {M : Nat → List Nat} (h : Agr nt E M) (hn : nt ≤ 8) : ∀ f, f < 32 → invL E nt f = M f := fun f hf =>
  ML.ext (invL_ml hn) (h.ml f hf) fun k => by rw [mem_invL, h.mem f k hf]
/-- What is done for the pages of one space. -/
theorem invS (W0 : World) (g1 g2 g3 g4 bm ba s nt : Nat) (E : Nat → Nat → En) (M : Nat → List Nat) (hA : Agr nt E M) (hs : s < nt) (hn : nt ≤ 8) (r : Int) (b n c : Nat) (ns : List Value) (N : List Nd) (mid low : Nat → Option Int) (w : World) (H : TV w r b n c ns N mid low (E s)) (h0 : IV W0 g1 g2 g3 g4 bm ba s (invL E s) w) :
    Calls Tryz.prog 74 #[.agg #[.int .i64 r, .slice (some ⟨b, 0, none⟩) n c, .slice none 0 0], .func (.func 75) #[] #[.pointer (some ⟨g1, 0, none⟩), .pointer (some ⟨g2, 0, none⟩), .pointer (some ⟨g3, 0, none⟩), .pointer (some ⟨g4, 0, none⟩)]] w fun e w' => e = .returned (.tuple #[]) ∧ OV W0 g1 g2 g3 bm ba (invL E (s + 1)) w' := by
  have h := namedI g1 g2 g3 g4 r b n c ns N mid low (E s) (fun i W => IV W0 g1 g2 g3 g4 bm ba s (invP E s i) W) w H (fun i W W' h hb => h.below hb) (fun i p W hp hI => ?_) (by rw [invP_zero]; exact h0)
  · refine h.mono ?_
    rintro e w' ⟨rfl, hI⟩
    rw [invP_last] at hI
    exact ⟨rfl, hI.ov⟩
  · obtain ⟨hp5, hk⟩ := pgs_in hp
    obtain ⟨f, hf, hfn⟩ := hA.fr s p hs hp5 hk
    have := inv1 W0 g1 g2 g3 g4 bm ba s p f (invP E s i) W hI hp5 hf (invP_len (by omega))
    rw [hfn]
    refine this.mono ?_
    rintro e w' ⟨rfl, h1, h2⟩
    rw [← invP_next hp hfn] at h1
    exact ⟨rfl, h1, h2⟩
end Go.Proofs.YtdddkfpcbfgocaaGreat
namespace Go.Proofs.YtdddkfpcbfgocaaGreat
open Go.RowKit Go.Over Go.Seg Go.Grow Go.Pt
theorem ptC_len (r : Int) (b n c : Nat) : (ptC r b n c).length = 3 := rfl
theorem infoMM : (Tryz.prog.info? 123).map (fun i => (i.zero, i.size, i.bytes)) = some (some (.slice none 0 0), 1, 24) := by kernel_rfl
theorem MV.zeros {w : World} {g m B : Nat} (h : Blk w g 123 (List.replicate m (.slice none 0 0))) : MV w g (List.replicate m (.slice none 0 0)) m B (fun _ => []) :=
  ⟨h, List.length_replicate, fun f hf => ⟨_, by rw [List.getElem?_replicate, if_pos hf], OwnM.nil _ _⟩⟩
theorem DJ.zeros (m : Nat) : DJ (List.replicate m (.slice none 0 0)) := fun f f' v v' q h1 _ h2 _ => by
  rw [List.getElem?_replicate] at h1
  split at h1
  · cases h1; cases h2
  · cases h1
set_option maxRecDepth 100000 in set_option maxHeartbeats 3200000 in
theorem inverse (bt nt ct bm B : Nat) (zs ms : List Value) (E : Nat → Nat → En) (nx : Int) (M : Nat → List Nat) (w : World) (H : TB w bt nt zs E nx) (HM : MV w bm ms 32 B M) (hA : Agr nt E M) (hn : nt ≤ 8) (hc : nt ≤ ct) :
    Calls Tryz.prog 29 #[.slice (some ⟨bt, 0, none⟩) nt ct, .slice (some ⟨bm, 0, none⟩) 32 32] w fun e w' => e = .returned (.bool true) ∧ Below w.heap.size w w' := by
  have HH := Lib.hid H; have HMV := Lib.hid HM; have HA := Lib.hid hA; have HL := Lib.hid (hA.inv hn)
  have b0 := below_box w (.cells #[.slice (some ⟨bm, 0, none⟩) 32 32] 74)
  have x0 := Blk.new w 74 #[.slice (some ⟨bm, 0, none⟩) 32 32] _ rfl
  clear H HM hA
  go_enter Tryz.func29, Tryz.ntmps29
  go_upto_region 1 with fail
  obtain ⟨w1, hw1⟩ : ∃ V, V = w.alloc (.cells #[.slice (some ⟨bm, 0, none⟩) 32 32] 74) := ⟨_, rfl⟩
  obtain ⟨g3, hg3⟩ : ∃ g, w.heap.size = g := ⟨_, rfl⟩
  rw [← hw1] at b0 x0 ⊢
  rw [hg3] at x0 ⊢
  have c0 : w1.cell? ⟨g3, 0, none⟩ = some (.slice (some ⟨bm, 0, none⟩) 32 32) := by rw [x0.cell]; rfl
  clear hw1 hg3
  go_upto_region 2 with ((with_reducible refine wpList_mkr (.slice none 0 0) Tryz.underlying74 infoMM rfl (n := 32) (c := 32) ?_ ?_ (Nat.le_refl 32) (by omega) (by omega) ?_); (focus rfl); (focus rfl); intro w2 hB2 b2 hs2; clear hs2)
  have u2 := below_then b0 b2
  have b3 := below_box w2 (.cells #[.slice (some ⟨w1.heap.size, 0, none⟩) 32 32] 74)
  have x3 := Blk.new w2 74 #[.slice (some ⟨w1.heap.size, 0, none⟩) 32 32] _ rfl
  have y3 := (x0.later b2).later b3
  have z3 := hB2.later b3
  have u3 := below_then u2 b3
  have hba := b0.size
  obtain ⟨w3, hw3⟩ : ∃ V, V = w2.alloc (.cells #[.slice (some ⟨w1.heap.size, 0, none⟩) 32 32] 74) := ⟨_, rfl⟩
  rw [← hw3] at x3 y3 z3 u3 ⊢
  obtain ⟨ba, hba'⟩ : ∃ g, w1.heap.size = g := ⟨_, rfl⟩
  obtain ⟨g5, hg5⟩ : ∃ g, w2.heap.size = g := ⟨_, rfl⟩
  rw [hg5] at x3 ⊢
  rw [hba'] at x3 z3 hba
  clear hw3 hg5 hba' b3 u2 hB2 b2 x0 b0 c0
  go_upto_region 3 with fail
  have b4 := below_box w3 (.cells #[.bool true] 4)
  have v4 := Blk.new w3 4 #[.bool true] _ rfl
  have V4 : OV w g3 w3.heap.size g5 bm ba (invL E 0) (w3.alloc (.cells #[.bool true] 4)) :=
    ⟨below_then u3 b4, y3.later b4, v4, x3.later b4, ⟨_, MV.zeros (z3.later b4), DJ.zeros 32⟩, hba⟩
  obtain ⟨w4, hw4⟩ : ∃ V, V = w3.alloc (.cells #[.bool true] 4) := ⟨_, rfl⟩
  obtain ⟨g6, hg6⟩ : ∃ g, w3.heap.size = g := ⟨_, rfl⟩
  rw [hg6] at V4 ⊢
  rw [← hw4] at V4 ⊢
  clear hw4 hg6 b4 v4 u3 x3 y3 z3 hba
  go_wp2
  have hm1 : min (nt : Int) 8 = (nt : Int) := by omega
  have hm2 : max (nt : Int) 0 = (nt : Int) := by omega
  simp only [hm1, hm2, Int.toNat_natCast]
  clear hm1 hm2
  go_loopg [18] nt (fun gg v18 wr => ∃ i : Nat, i + gg = nt ∧ v18 = .int .i64 i ∧ OV w g3 g6 g5 bm ba (invL E i) wr)
  case atStart => exact ⟨0, by omega, rfl, V4⟩
  case round =>
    clear V4
    obtain ⟨i, hi, rfl, V5⟩ := hrel
    cases gk with
    | zero =>
      obtain rfl : nt = i := by omega
      have hin : ¬ nt < nt := by omega
      clear hi
      obtain ⟨vs, hM, _⟩ := V5.ex
      have c3 : wr.cell? ⟨g3, 0, none⟩ = some (.slice (some ⟨bm, 0, none⟩) 32 32) := by rw [V5.mv.cell]; rfl
      have c5 : wr.cell? ⟨g5, 0, none⟩ = some (.slice (some ⟨ba, 0, none⟩) 32 32) := by rw [V5.al.cell]; rfl
      have c6 : wr.cell? ⟨g6, 0, none⟩ = some (.bool true) := by rw [V5.gd.cell]; rfl
      have U5 := V5.u
      have hM1 := hM.congr HL.out
      have HEQ := Lib.hid (equalFM ba bm 32 _ _ 32 32 vs ms M wr hM1 (HMV.out.below U5) (fun f hf => Nat.le_trans (HA.out.ml f hf).len (by decide)) (by decide))
      clear V5 hM hM1
      go_wp2_with fail
      refine HEQ.out.mono ?_
      rintro e w6 ⟨rfl, b6⟩
      have u6 := below_then U5 b6
      clear HEQ b6 U5 c3 c5 c6
      go_wp2
      go_ret
      exact ⟨rfl, u6⟩
    | succ gg =>
      have hin : i < nt := by omega
      have HI1 := Lib.hid hi
      have T5 := HH.out.below V5.u
      obtain ⟨r, b, n, c, ns, N, mid, low, hrow, hT, hN⟩ := T5.row i hin
      have hx := T5.x
      have HX := Lib.hid hrow; have HT := Lib.hid hT
      clear hi hrow hN T5 hT
      have b5 := below_box wr (.cells #[.int .i64 (i : Nat)] 3)
      have s5 := Blk.new wr 3 #[.int .i64 (i : Nat)] _ rfl
      have b6 := below_box (wr.alloc (.cells #[.int .i64 (i : Nat)] 3)) (.cells #[.int .i64 0, .slice none 0 0, .slice none 0 0] 120)
      have hz : Blk ((wr.alloc (.cells #[.int .i64 (i : Nat)] 3)).alloc (.cells #[.int .i64 0, .slice none 0 0, .slice none 0 0] 120)) (wr.heap.size + 1) 120 [.int .i64 0, .slice none 0 0, .slice none 0 0] := by
        have := Blk.new (wr.alloc (.cells #[.int .i64 (i : Nat)] 3)) 120 #[.int .i64 0, .slice none 0 0, .slice none 0 0] _ rfl
        simpa using this
      go_upto_region 6 with first | ((with_reducible refine wpList_load_part (off := i * 3) (cs := ptC r b n c) Tryz.underlying120 rfl (by rw [infoPT]; exact congrArg some (ptC_len r b n c).symm) ?_ hx HX.out ?_); (focus rfl)) | ((with_reducible refine stPT (r := r) (b := b) (n := n) (c := c) ?_ ?_ hz rfl ?_); (focus rfl); (focus rfl); intro w6 hB6 hg6)
      have b7 := ((below_then b5 b6)).grown hg6 (below_then b5 b6).size (fun k hk => by cases hk; omega)
      have V6 := (V5.below b7).iv ((s5.later b6).grown hg6 (by simp))
      have T6 := HT.out.below b7
      have HNM := Lib.hid (invS w g3 g6 g5 wr.heap.size bm ba i nt E M HA.out hin hn r b n c ns N mid low w6 T6 V6)
      obtain ⟨g7, hg7⟩ : ∃ g, wr.heap.size = g := ⟨_, rfl⟩
      rw [hg7] at hB6 HNM ⊢
      clear b5 s5 b6 hz hg6 b7 V6 T6 hx V5 hg7
      go_wp2_with ((with_reducible refine ldPT ?_ hB6 ?_); (focus rfl))
      refine HNM.out.mono ?_
      rintro e w7 ⟨rfl, V7⟩
      clear HNM hB6
      go_wp2
      go_roundg gg
      case rel => exact ⟨i + 1, by have := HI1.out; omega, by go_num, V7⟩
      case measure => omega
end Go.Proofs.YtdddkfpcbfgocaaGreat
namespace Go.Pt
section
variable {r : Int} {N : List Nd} {mid low : Nat → Option Int} {ent : Nat → En} {p : Nat}
theorem Tr.endVE (h : Tr r N mid low ent) (hp : p < 512) : VE (Pt.endE mid low ent p) := by
  unfold Pt.endE
  split
  · exact ve0
  · split
    · exact ve0
    · exact h.ve p hp
/-- A page that is there: its walk ends at its entry. -/
theorem Tr.endOf (h : Tr r N mid low ent) (hp : p < 512) (hk : (ent p).k = 1) : endL mid low p = 0 ∧ Pt.endE mid low ent p = ent p := by
  have h2 := h.up2 p hp (by omega)
  have h1 := h.up1 (p / 8) (by omega) h2
  rw [show p / 8 / 8 = p / 64 by omega] at h1
  unfold endL Pt.endE
  rw [if_neg h1, if_neg h2, if_neg h1, if_neg h2]
  exact ⟨rfl, rfl⟩
/-- One that is not: its entry is none. -/
theorem Tr.endNo (h : Tr r N mid low ent) (hp : p < 512) (hk : (ent p).k = 0) : Pt.endE mid low ent p = e0 := by
  have hz := (h.endE hp).2 hk
  have hv := (h.endVE hp).h
  generalize Pt.endE mid low ent p = e at hz hv
  obtain ⟨k, n, b⟩ := e
  simp only at hz hv
  subst hz
  rcases hv with ⟨_, rfl, rfl⟩ | ⟨h1, _⟩ | ⟨h1, _⟩
  · rfl
  · omega
  · omega
end
/-- The frame of an entry, or -1. -/
def atV (e : En) : Int := if e.k = 1 then e.n else -1
end Go.Pt
namespace Go.Proofs.YtdddkfpcbfgocaaGreat
open Go.RowKit Go.Over Go.Seg Go.Grow Go.Pt
def btC (bt nt ct bm : Nat) (nx : Int) : List Value := [.slice (some ⟨bt, 0, none⟩) nt ct, .slice (some ⟨bm, 0, none⟩) 32 32, .int .i64 nx]
/-- Tables and lists. -/
structure BT (w : World) (g bt ct bm nt : Nat) (nx : Int) (E : Nat → Nat → En) (M : Nat → List Nat) : Prop where
  x : Blk w g 76 (btC bt nt ct bm nx)
  tb : ∃ zs, TB w bt nt zs E nx
  mv : ∃ ms, MV w bm ms 32 0 M
  ag : Agr nt E M
  n8 : nt ≤ 8
  nc : nt ≤ ct
  lo : 0 ≤ nx
theorem BT.below {w w' : World} {g bt ct bm nt : Nat} {nx : Int} {E : Nat → Nat → En} {M : Nat → List Nat} (h : BT w g bt ct bm nt nx E M) (hb : Below w.heap.size w w') : BT w' g bt ct bm nt nx E M :=
  ⟨h.x.later hb, by obtain ⟨zs, h1⟩ := h.tb; exact ⟨zs, h1.below hb⟩, by obtain ⟨ms, h1⟩ := h.mv; exact ⟨ms, h1.below hb⟩, h.ag, h.n8, h.nc, h.lo⟩
set_option maxRecDepth 100000 in set_option maxHeartbeats 3200000 in
theorem at_ (g bt ct bm nt : Nat) (nx : Int) (E : Nat → Nat → En) (M : Nat → List Nat) (s p : Nat) (w : World) (H : BT w g bt ct bm nt nx E M) (hs : s < nt) (hp : p < 512) :
    Calls Tryz.prog 25 #[.pointer (some ⟨g, 0, none⟩), .int .i64 (s : Nat), .int .i64 (p : Nat)] w fun e w' => e = .returned (.int .i64 (atV (E s p))) ∧ Below w.heap.size w w' := by
  obtain ⟨zs, hT⟩ := H.tb
  obtain ⟨r, b, n, c, ns, N, mid, low, hrow, hT1, _⟩ := hT.row s hs
  have hx := hT.x
  have c0 : w.cell? ⟨g, 0, none⟩ = some (.slice (some ⟨bt, 0, none⟩) nt ct) := by rw [H.x.cell]; rfl
  have hk := hT1.tr.pg p hp
  have HROW := Lib.hid hrow
  have HW := Lib.hid (walk r b n c ns N mid low (E s) p w hT1 hp)
  have HT := Lib.hid hT1.tr
  have HDE := Lib.hid (fun u => decE (hT1.tr.endVE hp) u)
  have HN8 := H.n8
  have HNC := H.nc
  clear H hT hT1 hrow
  go_enter Tryz.func25, Tryz.ntmps25
  go_wp2_with ((with_reducible refine wpList_load_part (off := s * 3) (cs := ptC r b n c) Tryz.underlying120 rfl (by rw [infoPT]; exact congrArg some (ptC_len r b n c).symm) ?_ hx HROW.out ?_); (focus rfl))
  refine HW.out.mono ?_
  rintro e w2 ⟨rfl, b2⟩
  clear HW hx c0
  obtain ⟨L, hL⟩ : ∃ q, endL mid low p = q := ⟨_, rfl⟩
  obtain ⟨F, hF⟩ : ∃ q, endE mid low (E s) p = q := ⟨_, rfl⟩
  obtain ⟨W0, hW0⟩ : ∃ q, wd F = q := ⟨_, rfl⟩
  have HL := Lib.hid hL; have HF := Lib.hid hF; have HK := Lib.hid hk
  rw [hL, hF]
  rw [hF] at HDE
  rw [hW0] at HDE ⊢
  clear hL hF hk hW0
  go_wp2_with fail
  refine (HDE.out w2).mono ?_
  rintro e w3 ⟨rfl, b3⟩
  have u3 := below_then b2 b3
  have hz := Blk.new w3 131 #[.int .i64 0, .int .i64 0, .bool false, .bool false, .bool false, .bool false] _ rfl
  have bz := below_box w3 (.cells #[.int .i64 0, .int .i64 0, .bool false, .bool false, .bool false, .bool false] 131)
  clear HDE b2 b3
  go_upto_region 3 with ((with_reducible refine stE (k := F.k) (n := F.n) (b := F.b) ?_ ?_ hz rfl ?_); (focus rfl); (focus rfl); intro w4 hB4 hg4)
  have u4 := below_then u3 (bz.grown hg4 bz.size (fun q hq => by cases hq; exact Nat.le_refl _))
  have d0 : w4.cell? ⟨w3.heap.size, 0, none⟩ = some (.int .i64 F.k) := by rw [hB4.cell]; rfl
  have d1 : w4.cell? ⟨w3.heap.size, 1, none⟩ = some (.int .i64 F.n) := by rw [hB4.cell]; rfl
  obtain ⟨g4, hg4'⟩ : ∃ q, w3.heap.size = q := ⟨_, rfl⟩
  rw [hg4'] at d0 d1 ⊢
  clear hz bz hg4 u3 hB4 hg4'
  obtain ⟨k1, hk1⟩ : ∃ q, F.k = q := ⟨_, rfl⟩
  obtain ⟨n1, hn1⟩ : ∃ q, F.n = q := ⟨_, rfl⟩
  have HK1 := Lib.hid hk1; have HN1 := Lib.hid hn1
  rw [hk1] at d0
  rw [hn1] at d1
  clear hk1 hn1
  rcases HK.out with hk | hk
  · have h0 := HT.out.endNo hp hk
    rw [HF.out] at h0
    have hk0 : k1 = 0 := by rw [← HK1.out, h0]; rfl
    have HA := Lib.hid (show atV (E s p) = -1 by unfold atV; rw [hk]; rfl)
    subst hk0
    clear hk h0
    by_cases hL0 : L = 0
    · subst hL0
      go_wp2
      go_ret
      exact ⟨by rw [HA.out]; rfl, u4⟩
    · have t1 : ((L : Int) != 0) = true := by simp; omega
      have t2 : ((L : Int) == 0) = false := by simp; omega
      clear hL0
      go_wp2
      go_ret
      exact ⟨by rw [HA.out]; rfl, u4⟩
  · obtain ⟨h1, h2⟩ := HT.out.endOf hp hk
    rw [HL.out] at h1
    rw [HF.out] at h2
    have hk0 : k1 = 1 := by rw [← HK1.out, h2]; exact hk
    have HA := Lib.hid (show atV (E s p) = n1 by unfold atV; rw [hk, ← HN1.out, h2]; rfl)
    subst hk0 h1
    clear hk h2
    go_wp2
    go_ret
    exact ⟨by rw [HA.out]; rfl, u4⟩
end Go.Proofs.YtdddkfpcbfgocaaGreat
