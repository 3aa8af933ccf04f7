/- Walks: a copy of page blocks, of the program. -/
import Derived.Test.YtkiiifmofmbniaaDoorM5
namespace Go.Proofs.YtkiiifmofmbniaaDoor
open Go.RowKit Go.Over Go.Mob Go.Can Go.Seg Go.Grow
def zP : List Value := [.int .i64 0, .slice none 0 0, .slice none 0 0, .slice none 0 0, .slice none 0 0, .slice none 0 0, .slice none 0 0, .slice none 0 0, .slice none 0 0, .slice none 0 0, .slice none 0 0, .slice none 0 0, .slice none 0 0, .slice none 0 0, .slice none 0 0, .slice none 0 0, .slice none 0 0]
theorem zP_len : zP.length = 17 := rfl
theorem PV.one {W : World} {cs : List Value} {p : P} (h : PV W cs p) : ∀ v ∈ cs, v.oneCell' = true := by
  intro v hv
  obtain ⟨i, hi⟩ := List.getElem?_of_mem hv
  have hlt : i < 17 := by
    have := h.len
    rw [List.getElem?_eq_some_iff] at hi
    obtain ⟨h1, _⟩ := hi
    omega
  rcases (show i = 0 ∨ i = 1 ∨ 2 ≤ i by omega) with rfl | rfl | h2
  · rw [h.st] at hi; cases hi; rfl
  · obtain ⟨u, h1, a, c, rfl, _⟩ := h.ty
    rw [h1] at hi; cases hi; rfl
  · obtain ⟨u, h1, a, c, rfl, _⟩ := h.fr (i - 2) (by omega)
    rw [show 2 + (i - 2) = i by omega, hi] at h1; cases h1; rfl
section
variable {ops : Array Oper} {rest : List Oper} {i j : Nat} {ty : TypeId} {pos : String} {af : Array Edge} {a : Act} {w : World} {Q : Exit → Act → World → Prop} {g : Nat} {cs zs : List Value}
/-- Page blocks are stored whole. -/
theorem st26 (hx : a.eval (.tmp i) = .pointer (some ⟨g, 0, none⟩)) (hy : a.eval (.tmp j) = .agg cs.toArray) (hB : Blk w g 26 zs) (hz : zs.length = 17) (hl : cs.length = 17) (h1 : ∀ v ∈ cs, v.oneCell' = true)
    (h : ∀ W, Blk W g 26 cs → w.grownBy W (some g) → wpList Tryd.prog ops Q rest (a.put none undef) W) :
    wpList Tryd.prog ops Q ({ dst := none, op := .store 26 (.tmp i) (.tmp j), type := ty, pos := pos, after := af, guard := none } :: rest) a w := by
  obtain ⟨q1, q2⟩ := blk_setRow (new := cs) hB
  exact wpList_store_row rfl 26 (.tmp i) (.tmp j) rfl g cs.toArray hx hy 26 zs.toArray hB (by rw [info26]; simp [hl]) (by simp [hz, hl]) (Array.all_eq_true_iff_forall_mem.2 fun v hv => h1 v (by simpa using hv)) (h _ q1 q2)
theorem results_p {fn : Func} {p : Tmp} (h : fn.results = #[.cell p 26]) (tmps : Array Value) (w : World) (g : Nat) (cs : List Value) (hp : tmps.getD p undef = .pointer (some ⟨g, 0, none⟩)) (hg : Blk w g 26 cs) (hl : cs.length = 17) :
    (results fn tmps).run Tryd.prog w = .ok (.agg cs.toArray) w :=
  results_cell_row h tmps w g 26 cs.toArray (0, 0) _ hp hg Tryd.underlying26 rfl (by rw [info26]; simp [hl])
theorem results_p1 {fn : Func} {p q : Tmp} (h : fn.results = #[.cell p 26, .tmp q]) (tmps : Array Value) (w : World) (g : Nat) (cs : List Value) (v : Value) (hp : tmps.getD p undef = .pointer (some ⟨g, 0, none⟩)) (hg : Blk w g 26 cs) (hl : cs.length = 17) (hv : tmps.getD q undef = v) :
    (results fn tmps).run Tryd.prog w = .ok (.tuple #[.agg cs.toArray, v]) w := by
  have hp' : tmps[p]?.getD undef = .pointer (some ⟨g, 0, none⟩) := by simpa using hp
  have hv' : tmps[q]?.getD undef = v := by simpa using hv
  have hl := run_loadVar_row (P := Tryd.prog) w g 26 26 cs.toArray (0, 0) _ hg Tryd.underlying26 rfl (by rw [info26]; simp [hl])
  simp [results, h, hp', hv', asAddr, hl]
theorem results_p2 {fn : Func} {p q r : Tmp} (h : fn.results = #[.cell p 26, .tmp q, .tmp r]) (tmps : Array Value) (w : World) (g : Nat) (cs : List Value) (v z : Value) (hp : tmps.getD p undef = .pointer (some ⟨g, 0, none⟩)) (hg : Blk w g 26 cs) (hl : cs.length = 17) (hv : tmps.getD q undef = v) (hz : tmps.getD r undef = z) :
    (results fn tmps).run Tryd.prog w = .ok (.tuple #[.agg cs.toArray, v, z]) w := by
  have hp' : tmps[p]?.getD undef = .pointer (some ⟨g, 0, none⟩) := by simpa using hp
  have hv' : tmps[q]?.getD undef = v := by simpa using hv
  have hz' : tmps[r]?.getD undef = z := by simpa using hz
  have hl := run_loadVar_row (P := Tryd.prog) w g 26 26 cs.toArray (0, 0) _ hg Tryd.underlying26 rfl (by rw [info26]; simp [hl])
  simp [results, h, hp', hv', hz', asAddr, hl]
end
/-- What a call that makes page blocks gives. -/
def AnsP (w : World) (p : P) (e : Ending) (w' : World) : Prop := ∃ cs, e = .returned (.agg cs.toArray) ∧ OwnP w' w.heap.size cs p ∧ Below w.heap.size w w'
theorem OwnP.grown {W W' : World} {B g : Nat} {cs bs : List Value} {p : P} (h : OwnP W B cs p) (hB : Blk W g 26 bs) (hg : W.grownBy W' (some g)) : OwnP W' B cs p :=
  ⟨h.len, h.st, fun r hr => by obtain ⟨v, h1, h2⟩ := OwnP.own h hr; exact ⟨v, h1, (h2.kept hg (.inr (hB.not_own h2 (by decide)))).sl, fun _ => h2.kept hg (.inr (hB.not_own h2 (by decide)))⟩, h.ap⟩
/-- A copy under way: m rows are copied. -/
structure Cl (w : World) (g gr : Nat) (cs0 : List Value) (p : P) (m : Nat) (W : World) (cs : List Value) : Prop where
  b : Below w.heap.size w W
  l : w.heap.size ≤ g
  x : Blk W g 26 cs
  z : Blk W gr 26 zP
  n : g ≠ gr
  lr : w.heap.size ≤ gr
  len : cs.length = 17
  st : cs[0]? = some (.int .i64 p.st)
  own : ∀ r, r < m → ∃ v, cs[1 + r]? = some v ∧ Own W w.heap.size v (rowL p r)
  rest : ∀ r, m ≤ r → r < 16 → cs[1 + r]? = cs0[1 + r]?
  ap : ∀ r s u v, r < s → s < m → cs[1 + r]? = some u → cs[1 + s]? = some v → u.ownBlock = none ∨ u.ownBlock ≠ v.ownBlock
section
variable {w W W' : World} {g gr m : Nat} {cs0 cs : List Value} {p : P}
theorem Cl.next (h : Cl w g gr cs0 p m W cs) (hm : m < 16) (hb : Below W.heap.size W W') {v : Value} (hv : Own W' W.heap.size v (rowL p m)) : Cl w g gr cs0 p (m + 1) (W'.setCell ⟨g, 1 + m, none⟩ v) (cs.set (1 + m) v) := by
  have hl := h.len
  have hx := h.x.later hb
  have hB := below_then h.b hb
  refine ⟨hB.setCell (p := ⟨g, 1 + m, none⟩) h.l _, h.l, hx.set _ _, (h.z.later hb).far (p := ⟨g, 1 + m, none⟩) (Ne.symm h.n) _, h.n, h.lr, by rw [List.length_set]; exact hl, by rw [List.getElem?_set_ne (by omega)]; exact h.st, fun r hr => ?_, fun r h1 h2 => ?_, fun r s u u' h1 h2 g1 g2 => ?_⟩
  · by_cases e : r = m
    · subst e
      exact ⟨v, List.getElem?_set_self (by omega), (show Own W' w.heap.size v (rowL p r) from own_weaken hv h.b.size).far hx (by decide) _ _⟩
    · obtain ⟨u, q1, q2⟩ := h.own r (by omega)
      exact ⟨u, by rw [List.getElem?_set_ne (by omega)]; exact q1, (q2.later hb).far hx (by decide) _ _⟩
  · rw [List.getElem?_set_ne (by omega)]
    exact h.rest r (by omega) h2
  · rw [List.getElem?_set_ne (by omega)] at g1
    by_cases e : s = m
    · subst e
      rw [List.getElem?_set_self (by omega)] at g2
      cases g2
      obtain ⟨u2, q1, q2⟩ := h.own r h1
      rw [g1] at q1
      cases q1
      rcases hbk : u.ownBlock with _ | b
      · exact .inl rfl
      · refine .inr fun e => ?_
        have h3 := (World.ownsRow.lt q2 b hbk).2
        have h4 := (World.ownsRow.lt hv b e.symm).1
        omega
    · rw [List.getElem?_set_ne (by omega)] at g2
      exact h.ap r s u u' h1 (by omega) g1 g2
theorem Cl.done (h : Cl w g gr cs0 p 16 W cs) : OwnP W w.heap.size cs p :=
  ⟨h.len, h.st, fun r hr => by obtain ⟨v, h1, h2⟩ := h.own r hr; exact ⟨v, h1, h2.sl, fun _ => h2⟩, fun r s u v h1 h2 => h.ap r s u v h1 h2⟩
/-- The next row to copy. -/
theorem Cl.at (h : Cl w g gr cs0 p m W cs) (hV : PV w cs0 p) (hm : m < 16) : ∃ v, W.cell? ⟨g, 1 + m, none⟩ = some v ∧ Sl W v (rowL p m) := by
  obtain ⟨v, h1, h2, _⟩ := (MixP.of_pv hV 0).row m hm
  refine ⟨v, ?_, h2.below h.b⟩
  rw [h.x.cell, h.rest m (Nat.le_refl _) hm]
  exact h1
end
def lenB (p : P) : Prop := p.ty.length ≤ 100000 ∧ ∀ i, i < 15 → (p.fr i).length ≤ 100000
theorem lenB.row {p : P} (h : lenB p) {r : Nat} (hr : r < 16) : (rowL p r).length ≤ 100000 := by
  unfold rowL
  split
  · exact h.1
  · exact h.2 _ (by omega)
set_option maxRecDepth 100000 in set_option maxHeartbeats 3200000 in
theorem clone_45 (v : Value) (p : P) (w : World) (H : Rpv w v p) (hm : lenB p) : Calls Tryd.prog 45 #[v] w (AnsP w p) := by
  obtain ⟨cs0, rfl, hV⟩ := H
  have hB0 := below_box w (.cells cs0.toArray 26)
  have hB1 := below_box (w.alloc (.cells cs0.toArray 26)) (.cells #[.int .i64 0, .slice none 0 0, .slice none 0 0, .slice none 0 0, .slice none 0 0, .slice none 0 0, .slice none 0 0, .slice none 0 0, .slice none 0 0, .slice none 0 0, .slice none 0 0, .slice none 0 0, .slice none 0 0, .slice none 0 0, .slice none 0 0, .slice none 0 0, .slice none 0 0] 26)
  have hs : (w.alloc (.cells cs0.toArray 26)).heap.size = w.heap.size + 1 := by simp
  have C0 : Cl w w.heap.size (w.heap.size + 1) cs0 p 0 ((w.alloc (.cells cs0.toArray 26)).alloc (.cells #[.int .i64 0, .slice none 0 0, .slice none 0 0, .slice none 0 0, .slice none 0 0, .slice none 0 0, .slice none 0 0, .slice none 0 0, .slice none 0 0, .slice none 0 0, .slice none 0 0, .slice none 0 0, .slice none 0 0, .slice none 0 0, .slice none 0 0, .slice none 0 0, .slice none 0 0] 26)) cs0 := by
    have hz := Blk.new (w.alloc (.cells cs0.toArray 26)) 26 #[.int .i64 0, .slice none 0 0, .slice none 0 0, .slice none 0 0, .slice none 0 0, .slice none 0 0, .slice none 0 0, .slice none 0 0, .slice none 0 0, .slice none 0 0, .slice none 0 0, .slice none 0 0, .slice none 0 0, .slice none 0 0, .slice none 0 0, .slice none 0 0, .slice none 0 0] zP rfl
    rw [hs] at hz
    exact ⟨below_then hB0 hB1, Nat.le_refl _, (Blk.new w 26 cs0.toArray cs0 rfl).later hB1, hz, by omega, by omega, hV.len, hV.st, fun r hr => by omega, fun r _ _ => rfl, fun r s u v h1 h2 => by omega⟩
  clear hB0 hB1 hs
  go_enter Tryd.func45, Tryd.ntmps45
  go_upto_region 1 with fail
  obtain ⟨w1, hw1⟩ : ∃ W, W = (w.alloc (.cells cs0.toArray 26)).alloc (.cells #[.int .i64 0, .slice none 0 0, .slice none 0 0, .slice none 0 0, .slice none 0 0, .slice none 0 0, .slice none 0 0, .slice none 0 0, .slice none 0 0, .slice none 0 0, .slice none 0 0, .slice none 0 0, .slice none 0 0, .slice none 0 0, .slice none 0 0, .slice none 0 0, .slice none 0 0] 26) := ⟨_, rfl⟩
  rw [← hw1] at C0 ⊢
  clear hw1
  obtain ⟨g, hg⟩ : ∃ g, w.heap.size = g := ⟨_, rfl⟩
  obtain ⟨gr, hgr⟩ : ∃ g, w.heap.size + 1 = g := ⟨_, rfl⟩
  rw [hgr] at C0 ⊢
  rw [show Cl w w.heap.size gr cs0 p 0 w1 cs0 = Cl w g gr cs0 p 0 w1 cs0 by rw [← hg]] at C0
  rw [hg]
  clear hg hgr
  obtain ⟨v, d1, hs⟩ := C0.at hV (show 0 < 16 by decide)
  rw [show 1 + 0 = 1 from rfl] at d1
  go_wp2_with fail
  refine (clone_39 v (rowL p 0) w1 hs (hm.row (by decide))).mono ?_
  rintro e w2 ⟨v', rfl, hO, b2⟩
  have C1 := C0.next (by decide) b2 hO
  have d1' := cell_later b2 d1
  have f1 := (C0.x.later b2).frozen 1
  obtain ⟨a', c', rfl, _⟩ := own_form hO
  rw [show 1 + 0 = 1 from rfl] at C1
  clear C0 d1 hs hO b2
  go_upto_region 2 with fail
  clear d1' f1
  obtain ⟨w3, hw3⟩ : ∃ W, W = w2.setCell ⟨g, 1, none⟩ (.slice a' (rowL p 0).length c') := ⟨_, rfl⟩
  rw [← hw3] at C1 ⊢
  clear hw3
  go_wp2
  go_loopg [9] 3 (fun gg v9 wr => ∃ (t : Nat) (cs : List Value), t + gg = 3 ∧ v9 = .int .i64 t ∧ Cl w g gr cs0 p (1 + 5 * t) wr cs)
  case atStart => exact ⟨0, _, by omega, rfl, C1⟩
  case round =>
    clear C1
    obtain ⟨t, cs, hg, rfl, C2⟩ := hrel
    cases gk with
    | zero =>
      have ht3 : ¬ t < 3 := by omega
      have C3 : Cl w g gr cs0 p 16 wr cs := by rw [show 1 + 5 * t = 16 by omega] at C2; exact C2
      have hO := C3.done
      have h1c := (MixP.pv hO).one
      clear C2 hg
      go_wp2_with first | ((with_reducible refine ld ?_ C3.x C3.len ?_); (focus rfl)) | ((with_reducible refine st26 ?_ ?_ C3.z zP_len C3.len h1c ?_); (focus rfl); (focus rfl); intro w5 hB5 hg5)
      refine bodyPost_ret (results_p rfl _ _ gr cs rfl hB5 C3.len) rfl ⟨cs, rfl, hO.grown C3.z hg5, C3.b.grown hg5 C3.b.size (fun k hk => by cases hk; exact C3.lr)⟩
    | succ gg =>
      have ht : t < 3 := by omega
      have tt : decide ((t : Int) < 3) = true := by simp; omega
      have HG := Lib.hid hg
      clear hg
      go_wp2
      go_loopg [12] 5 (fun g2 v12 wr => ∃ (k : Nat) (cs : List Value), k + g2 = 5 ∧ v12 = .int .i64 k ∧ Cl w g gr cs0 p (1 + 5 * t + k) wr cs)
      case atStart => exact ⟨0, _, by omega, rfl, C2⟩
      case round =>
        clear C2
        obtain ⟨k, cs, hk, rfl, C3⟩ := hrel
        cases gk with
        | zero =>
          have hk5 : ¬ k < 5 := by omega
          have C4 : Cl w g gr cs0 p (1 + 5 * (t + 1)) wr cs := by rw [show 1 + 5 * t + k = 1 + 5 * (t + 1) by omega] at C3; exact C3
          clear hk C3
          go_wp2
          go_roundg gg
          case rel => exact ⟨t + 1, cs, by have := HG.out; omega, by go_num, C4⟩
          case measure => omega
        | succ g2 =>
          have hk5 : k < 5 := by omega
          have tk : decide ((k : Int) < 5) = true := by simp; omega
          have HK := Lib.hid hk
          clear hk
          obtain ⟨v, d1, hs⟩ := C3.at hV (show 1 + 5 * t + k < 16 by omega)
          rw [show 1 + (1 + 5 * t + k) = 2 + t * 5 + k by omega] at d1
          go_wp2_with fail
          refine wp_region_plan (fun _ => True) (.quiet [0, 1, 2, 3, 4, 5, 6, 9, 10] (.only 7 (.only 8 (.quiet [11] (.only 12 .done))))) 99 (by kernel_rfl) (by kernel_rfl) trivial ?_
          intro W _ hWe
          have bW : Below wr.heap.size wr W := by rw [hWe]; exact (Below.refl _ _).drew
          have C4 : Cl w g gr cs0 p (1 + 5 * t + k) W cs := by rw [hWe]; exact ⟨below_then C3.b (Below.refl _ _).drew, C3.l, C3.x.later (Below.refl _ _).drew, C3.z.later (Below.refl _ _).drew, C3.n, C3.lr, C3.len, C3.st, fun r hr => by obtain ⟨u, q1, q2⟩ := C3.own r hr; exact ⟨u, q1, q2.later (Below.refl _ _).drew⟩, C3.rest, C3.ap⟩
          have hs4 := hs.below bW
          have d4 := cell_later bW d1
          clear hWe C3 hs bW d1
          simp only [wpPlan, inOrder, List.filterMap_cons, List.filterMap_nil, List.getElem?_cons_zero, List.getElem?_cons_succ]
          show wpQuiet _ _ _ _ (_ :: _ :: _ :: _ :: _ :: _ :: _ :: _ :: [_]) _
          repeat (go_big_quiet_step (fail))
          refine wpQuiet_nil ?_
          show wpList _ _ _ [_] _ _
          go_wp2
          refine ⟨hold_of (S0 := fun _ => True) trivial, ?_⟩
          show wpList _ _ _ [_] _ _
          go_wp2_with fail
          refine (clone_39 v _ W hs4 (hm.row (by omega))).mono ?_
          rintro e w5 ⟨v', rfl, hO, b5⟩
          have C5 := C4.next (by omega) b5 hO
          have d5 := cell_later b5 d4
          have f5 := (C4.x.later b5).frozen (2 + t * 5 + k)
          obtain ⟨a', c', rfl, _⟩ := own_form hO
          rw [show 1 + (1 + 5 * t + k) = 2 + t * 5 + k by omega] at C5
          clear C4 hs4 hO b5 d4
          go_wp2
          refine ⟨hold_of (S0 := fun _ => True) trivial, ?_⟩
          show wpQuiet _ _ _ _ [_] _
          repeat (go_big_quiet_step (fail))
          refine wpQuiet_nil ?_
          show wpList _ _ _ [_] _ _
          go_wp2
          refine ⟨hold_of (S0 := fun _ => True) trivial, NoPanic.normal ?_⟩
          clear d5 f5
          obtain ⟨w6, hw6⟩ : ∃ W, W = w5.setCell ⟨g, 2 + t * 5 + k, none⟩ (.slice a' (rowL p (1 + 5 * t + k)).length c') := ⟨_, rfl⟩
          rw [← hw6] at C5 ⊢
          clear hw6
          go_wp2
          go_roundg g2
          case rel => exact ⟨k + 1, _, by have := HK.out; omega, by go_num, C5⟩
          case measure => omega
end Go.Proofs.YtkiiifmofmbniaaDoor
