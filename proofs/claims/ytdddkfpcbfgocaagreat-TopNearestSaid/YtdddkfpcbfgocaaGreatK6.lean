/- Walks: a frame is allocated: the zones in their order; a cache is refilled, the others drained. A region that draws its order, walked along a plan with forks of three. Walks: a new allocator. Walks: a new allocator. Walks: what the package tells of a valid allocator: numbers of free frames, whose frame it is, what may be taken. -/
import Derived.Test.YtdddkfpcbfgocaaGreatK5
import Derived.Test.YtdddkfpcbfgocaaGreatK2
namespace Go.Zn
open Go.Can
/-- A zone that a frame may come from. -/
def elg (a : A) (rsv : Bool) (z : Nat) : Bool := if rsv then decide (cntA a z ≠ 0) else decide ((zn a z).mn < (cntA a z : Int))
/-- The zone a frame comes from. -/
def pickZ (a : A) (c : Nat) (kernel rsv : Bool) : Option Int := (ordP a.zs (a.nodes.getD c 0) kernel).find? fun q => elg a rsv q.toNat
/-- One frame less is free. -/
structure Less (a : A) (z : Nat) (x : Int) (b : A) : Prop where
  v : VA b
  s : Sa a b
  f : ∀ y q, Fr b y q ↔ Fr a y q ∧ ¬ (y = z ∧ q = x)
  m : Fr a z x
theorem take_plain {a : A} {c z : Nat} {l : List Int} {x : Int} (h : VA a) (hc : c < a.cs.length) (hz : z < a.zs.length) (hl : lst a c z = l ++ [x]) : Less a z x (setC a c z l) := by
  have hnd := h.nd c z hc hz
  rw [hl] at hnd
  obtain ⟨n1, _, n3⟩ := List.nodup_append.1 hnd
  have hx : x ∈ lst a c z := by rw [hl]; simp
  obtain ⟨v1, f1⟩ := uncache h hc hz hx (l := l) n1 (fun q => by
    rw [hl, List.mem_append, List.mem_singleton]
    constructor
    · exact fun hq => ⟨.inl hq, fun e => n3 q hq x (List.mem_singleton.2 rfl) e⟩
    · rintro ⟨hq | hq, h2⟩
      · exact hq
      · exact absurd hq h2)
  exact ⟨v1, Sa.setC, f1, .inr ⟨c, hc, hx⟩⟩
theorem Less.of {a b d : A} {z : Nat} {x : Int} (h : Less b z x d) (hs : Sa a b) (hf : ∀ y q, Fr b y q ↔ Fr a y q) : Less a z x d :=
  ⟨h.v, hs.trans h.s, fun y q => by rw [h.f, hf], (hf z x).1 h.m⟩
theorem elg_cnt {a : A} {rsv : Bool} {z : Nat} (h : VA a) (hz : z < a.zs.length) (he : elg a rsv z = true) : 0 < cntA a z := by
  have := (h.vz z hz).r.mn0
  unfold elg at he
  cases rsv with
  | true => have := of_decide_eq_true he; omega
  | false => have := of_decide_eq_true he; omega
/-- Where frames are free and all caches are empty, the zone has a free block. -/
theorem cov_of_cnt {a b : A} {z : Nat} (h : VA a) (hz : z < a.zs.length) (hc : 0 < cntA a z) (hf : ∀ y q, Fr b y q ↔ Fr a y q) (he : ∀ d, d < b.cs.length → lst b d z = []) (hn : ∀ x, ¬ Cov (F (zn b z).fr) x) : False := by
  rw [cnt_fr h hz] at hc
  obtain ⟨x, _, hx⟩ := nS_pos.1 hc
  rcases (hf z x).2 hx with h1 | ⟨d, hd, hm⟩
  · exact hn x h1
  · rw [he d hd] at hm; cases hm
/-- The other caches of a zone are empty up to a place. -/
structure DrX (a b : A) (c z d : Nat) : Prop where
  v : VA b
  s : Sa a b
  f : ∀ y q, Fr b y q ↔ Fr a y q
  o : lst b c z = []
  e : ∀ i, i < d → i < a.cs.length → lst b i z = []
theorem DrX.same {a b : A} {c z d : Nat} (h : DrX a b c z d) (hd : d = c) : DrX a b c z (d + 1) :=
  ⟨h.v, h.s, h.f, h.o, fun i h1 h2 => by
    by_cases e : i = c
    · subst e; exact h.o
    · exact h.e i (by omega) h2⟩
theorem DrX.next {a b b' : A} {c z d : Nat} (h : DrX a b c z d) (hd : d < b.cs.length) (hz : z < b.zs.length) (hv : VA b') (hs : Sa b b') (he : b'.cs = (setC b d z []).cs) (hf : ∀ y q, Fr b' y q ↔ Fr b y q) : DrX a b' c z (d + 1) := by
  have key : ∀ i, lst b' i z = if i = d ∧ z = z then [] else lst b i z := fun i => by
    have : lst b' i z = lst (setC b d z []) i z := by unfold lst; rw [he]
    rw [this, lst_setC hd (h.v.lz hd hz)]
  refine ⟨hv, h.s.trans hs, fun y q => (hf y q).trans (h.f y q), ?_, fun i h1 h2 => ?_⟩
  · rw [key]; split
    · rfl
    · exact h.o
  · rw [key]
    by_cases e : i = d
    · rw [if_pos ⟨e, rfl⟩]
    · rw [if_neg (fun h => e h.1)]; exact h.e i (by omega) h2
end Go.Zn
namespace Go.Proofs.YtdddkfpcbfgocaaGreat
open Go.RowKit Go.Over Go.Zn Go.Can Go.Seg Go.Grow
section
variable {ops : Array Oper} {rest : List Oper} {i j : Nat} {ty : TypeId} {pos : String} {af : Array Edge} {a : Act} {w : World} {Q : Exit → Act → World → Prop} {g : Nat}
/-- An allocator is loaded, where a guard says so. -/
theorem ldaW {d bt hi : Nat} {s : Sh} {gd : Nat × Bool} (hw : Region.wanted { dst := some d, op := .load 28 (.tmp i), type := ty, pos := pos, after := af, guard := some gd } (yielded ops a.tmps) = true) (hx : a.eval (.tmp i) = .pointer (some ⟨g, 0, none⟩)) (hB : Blk w g 28 (s.cells bt hi)) (h : wpList Tryz.prog ops Q rest (a.put (some d) (.agg (s.cells bt hi).toArray)) w) :
    wpList Tryz.prog ops Q ({ dst := some d, op := .load 28 (.tmp i), type := ty, pos := pos, after := af, guard := some gd } :: rest) a w :=
  BigFrame.wpList_want hw fun _ hK => wp_load_row 28 (.tmp i) rfl g hx 28 (s.cells bt hi).toArray (0, 0) _ hB Tryz.underlying28 rfl (by rw [infoA]; rfl) (hK _ _ h)
/-- The allocator of nothing is stored. -/
theorem stN {zs : List Value} (hx : a.eval (.tmp i) = .pointer (some ⟨g, 0, none⟩)) (hy : a.eval (.tmp j) = .agg nilA.toArray) (hB : Blk w g 28 zs) (hz : zs.length = 5)
    (h : ∀ W, Blk W g 28 nilA → w.grownBy W (some g) → wpList Tryz.prog ops Q rest (a.put none undef) W) :
    wpList Tryz.prog ops Q ({ dst := none, op := .store 28 (.tmp i) (.tmp j), type := ty, pos := pos, after := af, guard := none } :: rest) a w := by
  have e : lay zs 0 nilA = nilA := by
    have hl : nilA.length = 5 := rfl
    unfold lay
    rw [hl, List.take_zero, List.nil_append, List.drop_eq_nil_of_le (by omega), List.append_nil]
  refine wpList_store_part (cs := nilA) infoA hx hy hB (by rw [hz]; exact Nat.le_refl _) (by intro u hu; simp [nilA] at hu; rcases hu with rfl | rfl | rfl <;> rfl) fun W q1 q2 => h W (by rw [← e]; exact q1) q2
end
theorem AX.node {w W : World} {g : Nat} {s : Sh} {zc ccs : List Value} {a : A} {c : Nat} (h : AX w g s zc ccs a W) (hc : c < a.nodes.length) : ∃ b off, s.an = some ⟨b, off, none⟩ ∧ W.cell? ⟨b, off + c, none⟩ = some (.int .i64 (a.nodes.getD c 0)) := by
  obtain ⟨an, cn, h1, _, _, _, h5⟩ := h.v.nd
  obtain ⟨b, off, ha, _, h6⟩ := h5 (by omega)
  injection h1 with h1 _ _
  exact ⟨b, off, by rw [h1, ha], h6 c hc⟩
/-- What the call of Order reads. -/
def CN (g : Nat) (s : Sh) (b off c : Nat) (x : Int) (U : World) : Prop := U.cell? ⟨g, 0, none⟩ = some (.slice (some ⟨b, off, none⟩) s.nn s.cn) ∧ U.cell? ⟨g, 3, none⟩ = some (.slice (some ⟨s.bz, 0, none⟩) s.nz s.cz) ∧ U.cell? ⟨b, off + c, none⟩ = some (.int .i64 x)
/-- An allocator whose rows lie in blocks from B on. -/
def RaF (B : Nat) (w : World) (v : Value) (a : A) : Prop := ∃ s zc ccs, v = .agg (s.cells a.bt a.hi).toArray ∧ AW w s zc ccs a ∧ AF B w s zc ccs
theorem RaF.ra {B : Nat} {w : World} {v : Value} {a : A} (h : RaF B w v a) : Ra w v a := by
  obtain ⟨s, zc, ccs, h1, h2, _⟩ := h
  exact ⟨s, zc, ccs, h1, h2⟩
/-- Blocks of numbers below B may change. -/
theorem AW.late {B : Nat} {W W' : World} {s : Sh} {zc ccs : List Value} {a : A} (h : AW W s zc ccs a) (hf : AF B W s zc ccs) (hk : ∀ b t bs, (t ≠ 3 ∨ B ≤ b) → Blk W b t bs → Blk W' b t bs) : AW W' s zc ccs a := by
  have sl : ∀ {v : Value} {l : List Int}, Sl W v l → LoV B v → Sl W' v l := fun ⟨a, c, h1, h2, h3, h4, h5⟩ hl => ⟨a, c, h1, h2, h3, h4, fun h0 => by
    obtain ⟨b, off, ha, ⟨cs, hcs⟩, hc⟩ := h5 h0
    subst ha
    have h6 := hk b 3 cs (.inr (hl _ _ _ h1)) hcs
    exact ⟨b, off, rfl, ⟨cs, h6⟩, fun i hi => by rw [h6.cell, ← hcs.cell]; exact hc i hi⟩⟩
  refine ⟨h.en, h.ez, h.ec, sl h.nd hf.n, ⟨hk _ _ _ (.inl (by decide)) h.q.x, h.q.n, fun i z hz => (h.q.row i z hz).late (hf.z i (by have := lt_of hz; rw [h.ez] at this; exact this)) fun b bs hb => hk b 3 bs (.inr hb)⟩, h.zl, h.zm, ⟨hk _ _ _ (.inl (by decide)) h.c.x, h.c.n, fun c L hL => ?_⟩, h.cl, h.cm⟩
  obtain ⟨v, h1, h2⟩ := h.c.row c L hL
  obtain ⟨b', n', k', bs', p1, p2, p3⟩ := hf.c c v (by have := lt_of hL; rw [h.ec] at this; exact this) h1
  obtain ⟨b, cc, bs, q1, q2, q3, q4⟩ := h2
  rw [q1] at p1
  cases p1
  have e : bs' = bs := by
    have h1 := p2
    have h2 := q4.x
    unfold Blk at h1 h2
    rw [h1] at h2
    simpa using h2
  subst e
  refine ⟨_, h1, _, _, _, q1, q2, q3, hk _ _ _ (.inl (by decide)) q4.x, q4.n, fun i l hl => ?_⟩
  obtain ⟨u, r1, r2⟩ := q4.row i l hl
  exact ⟨u, r1, sl r2 (p3 i u (lt_of hl) r1)⟩
/-- What Alloc gives. -/
def AllocQ (w : World) (a : A) (c : Nat) (kernel rsv : Bool) (e : Ending) (w' : World) : Prop :=
  (∃ (z : Nat) (v : Value) (x : Int) (b : A), pickZ a c kernel rsv = some (z : Int) ∧ z < a.zs.length ∧ e = .returned (.tuple #[v, .int .i64 x, .int .i64 0]) ∧ RaF w.heap.size w' v b ∧ Less a z x b ∧ Below w.heap.size w w' ∧ (lst a c z = [] → (∃ q, Cov (F (zn a z).fr) q) → First (zn a z).fr 0 x)) ∨
  (pickZ a c kernel rsv = none ∧ e = .returned (.tuple #[.agg nilA.toArray, .int .i64 0, .int .i64 16]) ∧ Below w.heap.size w w')
set_option maxRecDepth 100000 in set_option maxHeartbeats 3200000 in
theorem allocA (v : Value) (a : A) (c : Nat) (kernel rsv : Bool) (w : World) (H : Ra w v a) (hV : VA a) (hc : c < a.cs.length) : Calls Tryz.prog 22 #[v, .int .i64 c, .bool kernel, .bool rsv] w (AllocQ w a c kernel rsv) := by
  have HV := Lib.hid hV; have HC := Lib.hid hc
  have hnc := hV.nc
  clear hV
  obtain ⟨s, zc, ccs, rfl, hW⟩ := H
  have X0 := AZ.new hW
  clear hW
  go_enter Tryz.func22, Tryz.ntmps22
  go_upto_region 1 with fail
  obtain ⟨w1, hw1⟩ : ∃ W, W = (w.alloc (.cells (s.cells a.bt a.hi).toArray 28)).alloc (.cells #[.slice none 0 0, .int .i64 0, .int .i64 0, .slice none 0 0, .slice none 0 0] 28) := ⟨_, rfl⟩
  rw [← hw1] at X0 ⊢
  obtain ⟨gr, hgr⟩ : ∃ g, w.heap.size + 1 = g := ⟨_, rfl⟩
  obtain ⟨g, hg0⟩ : ∃ g, w.heap.size = g := ⟨_, rfl⟩
  have X1 : AZ w g gr s zc ccs a w1 := by rw [← hgr, ← hg0]; exact X0
  rw [hgr, hg0]
  clear hw1 X0 hg0 hgr
  go_wp2_with ((with_reducible refine lda ?_ X1.x.x ?_); (focus rfl))
  refine (acheck _ a w1 X1.x.ra HV.out).mono ?_
  rintro e w2 ⟨rfl, b2⟩
  have X2 := X1.below b2
  have hcn : c < s.nn := by rw [← X2.x.v.en, ← hnc]; exact HC.out
  have c0 := X2.x.c0
  have t1 : decide ((s.nn : Int) ≤ (c : Int)) = false := by simp; omega
  clear X1 b2 hc
  go_upto_region 6 with fail
  have hnl : c < a.nodes.length := by rw [← hnc]; exact HC.out
  obtain ⟨nb, no, han, dn⟩ := X2.x.node hnl
  have hr := HV.out.nr _ (List.getElem_mem hnl)
  rw [show a.nodes[c] = a.nodes.getD c 0 by rw [List.getD_eq_getElem?_getD, List.getElem?_eq_getElem hnl]; rfl] at hr
  obtain ⟨x, hx⟩ : ∃ x, a.nodes.getD c 0 = x := ⟨_, rfl⟩
  rw [hx] at dn hr
  rw [han] at c0
  have c3 := X2.x.c3
  have HXN := Lib.hid hx
  have HZ6 := Lib.hid HV.out.z6
  have HG := Lib.hid (show ZG a.zs from ⟨HV.out.z1, HV.out.z6, fun y hy => by
    obtain ⟨i', hi'⟩ := List.getElem?_of_mem hy
    have := HV.out.vz i' (lt_of hi'); rw [zn_of hi'] at this; exact this.r⟩)
  have HZO := Lib.hid (fun W (q : QV W s.bz zc a.zs) => zorder s.bz s.nz s.cz zc a.zs x kernel W q X2.x.v.ez X2.x.v.zl HG.out hr.1 hr.2)
  clear hnl hx hr hnc t1
  refine wp_region_plan (CN g s nb no c x) (.quiet [0, 1, 2, 3, 4, 5, 6, 7] (.only 8 (.quiet [9, 10, 11, 12, 13] .done))) 99 (by kernel_rfl) (by kernel_rfl) ⟨c0, c3, dn⟩ ?_
  intro W hWW hWe
  have bW : Below w2.heap.size w2 W := by rw [hWe]; exact (Below.refl _ _).drew
  clear hWe
  have X3 := X2.below bW
  clear X2 bW c0 c3 dn
  simp only [wpPlan, inOrder, List.filterMap_cons, List.filterMap_nil, List.getElem?_cons_zero, List.getElem?_cons_succ]
  have q1 := fun z => (hold_ok (S0 := CN g s nb no c x) hWW z).1
  have q2 := fun z => (hold_ok (S0 := CN g s nb no c x) hWW z).2.1
  have q3 := fun z => (hold_ok (S0 := CN g s nb no c x) hWW z).2.2
  show wpQuiet _ _ _ _ (_ :: _ :: _ :: _ :: _ :: _ :: _ :: [_]) _
  repeat (go_big_quiet_step (fail))
  refine wpQuiet_nil ?_
  have HWW := Lib.hid hWW
  clear q1 q2 q3 hWW
  show wpList _ _ _ [_] _ _
  go_wp2_with fail
  refine (HZO.out W X3.x.v.q).mono ?_
  rintro e w3 ⟨vo, rfl, hO, b3⟩
  have X4 := X3.below b3
  go_wp2
  refine ⟨hold_of ⟨cell_later b3 HWW.out.1, cell_later b3 HWW.out.2.1, cell_later b3 HWW.out.2.2⟩, ?_⟩
  show wpQuiet _ _ _ _ (_ :: _ :: _ :: _ :: [_]) _
  repeat (go_big_quiet_step (fail))
  refine wpQuiet_nil ?_
  refine NoPanic.normal ?_
  rw [← HXN.out] at hO
  clear X3 b3 HZO HWW HXN HG han
  obtain ⟨P, hP⟩ : ∃ P, ordP a.zs (a.nodes.getD c 0) kernel = P := ⟨_, rfl⟩
  have hP6 : P.length ≤ 6 := by rw [← hP]; exact Nat.le_trans ordP_len HZ6.out
  have HM := Lib.hid (show ∀ q, q ∈ P → ∃ i : Nat, i < a.zs.length ∧ q = i from fun q hq => by
    rw [← hP] at hq
    obtain ⟨i, h1, h2, _⟩ := mem_ordP.1 hq
    exact ⟨i, h1, h2⟩)
  have HPK := Lib.hid (show pickZ a c kernel rsv = P.find? fun q => elg a rsv q.toNat from by unfold pickZ; rw [hP])
  rw [hP] at hO
  obtain ⟨al, cl, rfl, hl1, hl2, hl3, hl4⟩ := hO
  obtain ⟨n, hn⟩ : ∃ n, P.length = n := ⟨_, rfl⟩
  rw [hn] at hl1 hP6 ⊢
  have HN := Lib.hid hn
  have HI := Lib.hid hl4
  clear hP hn hl4
  go_wp2
  go_loopg [51] n (fun gg v51 wr => ∃ (i : Nat), i + gg = n ∧ v51 = .int .i64 i ∧ AZ w g gr s zc ccs a wr ∧ Ints wr al P ∧ P.find? (fun q => elg a rsv q.toNat) = (P.drop i).find? fun q => elg a rsv q.toNat)
  case atStart => exact ⟨0, by omega, rfl, X4, HI.out, rfl⟩
  case round =>
    clear X4 HI
    obtain ⟨i, hi, rfl, X5, hI, hF⟩ := hrel
    cases gk with
    | zero =>
      have hil : ¬ i < n := by omega
      rw [List.drop_eq_nil_of_le (by rw [HN.out]; omega)] at hF
      have HF := Lib.hid hF
      clear hF hi hI
      go_wp2_with ((with_reducible refine stN ?_ ?_ X5.z ?_ ?_); (focus rfl); (focus rfl); (focus rfl); intro w9 hB9 hg9)
      refine bodyPost_ret (resA2 rfl _ _ gr _ _ _ rfl hB9 rfl rfl rfl) rfl ?_
      exact .inr ⟨by rw [HPK.out, HF.out]; rfl, rfl, X5.x.b.grown hg9 X5.x.b.size (fun q hq => by cases hq; exact X5.l)⟩
    | succ gg =>
      have hil : i < n := by omega
      obtain ⟨q, hq⟩ := get_some HN.out hil
      obtain ⟨z, hz, rfl⟩ := HM.out q (List.mem_of_getElem? hq)
      obtain ⟨bo, oo, hal, hBo, dO⟩ := id (hI (by rw [HN.out]; omega))
      have dq : wr.cell? ⟨bo, oo + i, none⟩ = some (.int .i64 (z : Int)) := by rw [dO i (by rw [HN.out]; exact hil), getD_of hq]
      subst hal
      have hF2 : P.find? (fun q => elg a rsv q.toNat) = if elg a rsv z then some (z : Int) else (P.drop (i + 1)).find? fun q => elg a rsv q.toNat := by
        have hd : P.drop i = (z : Int) :: P.drop (i + 1) := by
          rw [List.drop_eq_getElem_cons (by rw [HN.out]; exact hil)]
          congr 1
          rw [List.getElem?_eq_some_iff] at hq
          exact hq.2
        rw [hF, hd, List.find?_cons]
        show (match elg a rsv z with | true => _ | false => _) = _
        cases elg a rsv z <;> rfl
      have HQ := Lib.hid hI; have HF := Lib.hid hF2; have HZ := Lib.hid hz; have HI := Lib.hid hi
      obtain ⟨N, hNc⟩ : ∃ N, cntA a z = N := ⟨_, rfl⟩
      obtain ⟨M, hMn⟩ : ∃ M, (zn a z).mn = M := ⟨_, rfl⟩
      have HNC := Lib.hid hNc; have HMN := Lib.hid hMn
      have HCT := Lib.hid (fun W (x : AZ w g gr s zc ccs a W) => acount _ a z W x.x.ra HV.out hz)
      have HRM := Lib.hid (fun W (x : AZ w g gr s zc ccs a W) => aroom _ a z W x.x.ra HV.out hz)
      rw [hNc] at HCT HRM
      rw [hMn] at HRM
      clear hq hF hF2 hI hBo dO hNc hMn hi
      cases rsv with
      | true =>
        by_cases hN0 : N = 0
        · have t0 : ((N : Int) == 0) = true := by simp; omega
          have HE := Lib.hid (show elg a true z = false from by unfold elg; rw [if_pos rfl, HNC.out]; simp [hN0])
          clear hN0 hz
          go_wp2_with ((with_reducible refine ldaW ?_ ?_ X5.x.x ?_); (focus rfl); (focus rfl))
          refine (HCT.out wr X5).mono ?_
          rintro e w6 ⟨rfl, b6⟩
          have X6 := X5.below b6
          have HQ6 := Lib.hid (HQ.out.below b6)
          clear X5 b6 HCT HRM dq
          have HF2 := Lib.hid HF.out
          rw [HE.out, if_neg (by decide)] at HF2
          go_wp2
          go_roundg gg
          case rel => exact ⟨i + 1, by have := HI.out; omega, by go_num, X6, HQ6.out, HF2.out⟩
          case measure => omega
        · have t0 : ((N : Int) == 0) = false := by simp; omega
          have HE := Lib.hid (show elg a true z = true from by unfold elg; rw [if_pos rfl, HNC.out]; simp [hN0])
          clear hN0 hz
          go_wp2_with ((with_reducible refine ldaW ?_ ?_ X5.x.x ?_); (focus rfl); (focus rfl))
          refine (HCT.out wr X5).mono ?_
          rintro e w6 ⟨rfl, b6⟩
          have X6 := X5.below b6
          have HF2 := Lib.hid HF.out
          rw [HE.out, if_pos rfl] at HF2
          clear X5 b6 HCT HRM dq HQ
          have hr6 := HC.out; have hz6 := HZ.out
          go_wp2_with ((with_reducible refine lda ?_ X6.x.x ?_); (focus rfl))
          refine (aclone _ a w6 X6.x.ra HV.out).mono ?_
          rintro e w7 ⟨t, zc7, ccs7, W7, rfl, hW7, hlz, hlc, b7, _, _, hf7⟩
          have X7 := X6.below b7
          have hz7 := Blk.new w7 28 #[.slice none 0 0, .int .i64 0, .int .i64 0, .slice none 0 0, .slice none 0 0] nilA rfl
          have hlz := Nat.le_trans X6.x.b.size hlz
          have hlc := Nat.le_trans X6.x.b.size hlc
          have hf7 := hf7.weaken X6.x.b.size
          clear X6 b7
          go_upto_region 12 with ((with_reducible refine stA (s := t) (bt := a.bt) (hi := a.hi) ?_ ?_ hz7 ?_ ?_); (focus rfl); (focus rfl); (focus rfl); intro w8 hB8 hg8)
          obtain ⟨P8, b8⟩ := AP.start X7.x.b hW7 hlz hlc hf7 hB8 hg8
          have Z8 := X7.z.later b8
          have hlr := X7.l
          obtain ⟨gp, hgp⟩ : ∃ z, w7.heap.size = z := ⟨_, rfl⟩
          rw [hgp] at P8 ⊢
          clear hgp X7 hz7 hW7 hlz hlc hf7 hB8 hg8 b8
          rw [P8.v.ec] at hr6
          rw [P8.v.ez] at hz6
          obtain ⟨L, hL⟩ := get_some P8.v.ec hr6
          have hLn := HV.out.cl hL
          obtain ⟨l, hl⟩ := get_some hLn HZ.out
          have hle := lst_of hL hl
          obtain ⟨v6, hv6, hLc⟩ := P8.v.c.row c L hL
          have dv : w8.cell? ⟨t.bc, c, none⟩ = some v6 := by rw [P8.v.c.x.cell]; exact hv6
          obtain ⟨lb, lc, rfl, hlc1, hlc2⟩ := hLc.form
          obtain ⟨la, lm, lk, dl, hlm, hsl⟩ := hLc.at hl
          rw [hLn, P8.v.ez] at dv hlc1
          have c4 := P8.c4
          have HLE := Lib.hid hle; have HLM := Lib.hid hlm
          clear hL hLn hl hle hv6 hLc hlm hsl
          by_cases hlm0 : lm = 0
          · have hnil := Lib.hid (show lst a c z = [] by rw [HLE.out]; exact List.eq_nil_of_length_eq_zero (by rw [HLM.out]; exact hlm0))
            subst hlm0
            have HRF := Lib.hid (refill w gp t zc7 ccs7 a c z w8 P8 HV.out HC.out HZ.out hnil.out)
            have n1 := Z8.ne_type P8.v.q.x (by decide)
            have n2 := Z8.ne_type P8.v.c.x (by decide)
            go_wp2_with fail
            refine HRF.out.mono ?_
            rintro e w9 ⟨b, rfl, ⟨zc9, ccs9, a9, P9, V9, S9, L9, F9, T9, N9, H9⟩, K9⟩
            have Z9 := K9 gr 28 nilA n1 n2 Z8
            clear P8 Z8 HRF K9 L9 dv dl c4
            cases b with
            | true =>
              have HB := Lib.hid (And.intro V9 (And.intro S9 (And.intro F9 (T9 rfl))))
              have HX := Lib.hid (show ∀ l0 x, lst a9 c z = l0 ++ [x] → lst a c z = [] → (∃ q, Cov (F (zn a z).fr) q) → First (zn a z).fr 0 x from fun l0 x h1 _ _ => by
                obtain ⟨l1, f1, h2, h3⟩ := H9 rfl
                rw [h1] at h2
                have := (List.append_inj' h2 rfl).2
                cases this
                exact h3)
              clear V9 S9 F9 T9 N9 n1 n2 H9
              go_upto_region 20 with fail
              obtain ⟨vb, sb, fb, nb⟩ := HB.out
              have hcb : c < a9.cs.length := by rw [sb.nc]; exact HC.out
              have hct : c < t.nc := by rw [← P9.v.ec]; exact hcb
              have hzb : z < a9.zs.length := by rw [sb.nz]; exact HZ.out
              obtain ⟨L, hL⟩ := get_some (l := a9.cs) rfl hcb
              obtain ⟨l, hl⟩ := get_some (vb.cl hL) hzb
              have hle := lst_of hL hl
              obtain ⟨l0, x, hlx⟩ : ∃ l0 x, l = l0 ++ [x] := by
                rw [hle] at nb
                exact ⟨l.dropLast, l.getLast nb, (List.dropLast_concat_getLast nb).symm⟩
              subst hlx
              obtain ⟨v7, hv7, hLc⟩ := P9.v.c.row c L hL
              have dv : w9.cell? ⟨t.bc, c, none⟩ = some v7 := by rw [P9.v.c.x.cell]; exact hv7
              have c4 := P9.c4
              have HPT := Lib.hid (pctake (.agg #[v7]) L z l0 x w9 ⟨_, rfl, hLc⟩ (vb.vc hL) hl)
              have HLV := Lib.hid (lt_of hv7); have HLL := Lib.hid hL
              have HLS := Lib.hid ((take_plain vb hcb hzb hle).of sb fb); have HFX := Lib.hid (HX.out _ _ hle)
              clear vb sb fb nb hcb hzb hL hl hle hv7 hLc HB HX
              go_wp2_with fail
              refine HPT.out.mono ?_
              rintro e w12 ⟨_, rfl, ⟨v', rfl, hv'⟩, b12⟩
              have P12 := P9.below b12
              have Z12 := Z9.later b12
              have hv' := hv'.weaken P9.b.size
              obtain ⟨_, _, hvf, _⟩ := hv'.c.form
              have h1v : v'.oneCell' = true := by rw [hvf]; rfl
              have HVC := Lib.hid hv'
              have hz13 := Blk.new w12 93 #[.slice none 0 0] [.slice none 0 0] rfl
              clear P9 Z9 b12 dv c4 HPT hvf hv'
              go_upto_region 21 with ((with_reducible refine stC (u := .slice none 0 0) (v := v') ?_ ?_ hz13 h1v ?_); (focus rfl); (focus rfl); intro w14 hB14 hg14)
              have b14 : Below w12.heap.size w12 w14 := (below_box w12 (.cells #[.slice none 0 0] 93)).grown hg14 (below_box w12 _).size (fun k hk => by cases hk; exact Nat.le_refl _)
              have P14 := P12.below b14
              have Z14 := Z12.later b14
              have HVC14 := Lib.hid (HVC.out.below b14)
              have c4 := P14.c4
              obtain ⟨g6, hg6e⟩ : ∃ z, w12.heap.size = z := ⟨_, rfl⟩
              rw [hg6e] at hB14 ⊢
              have d6 : w14.cell? ⟨g6, 0, none⟩ = some v' := by rw [hB14.cell]; rfl
              clear hg6e P12 Z12 HVC b14 hg14 hz13 hB14
              have hiz : (Tryz.prog.info? 93).map (·.size) = some [v'].length := infoC
              have hxz := P14.v.c.x
              have hfit : c + [v'].length ≤ ccs9.length := by have := HLV.out; simp; omega
              have h1c : ∀ u ∈ [v'], u.oneCell' = true := fun u hu => by simp at hu; subst hu; exact h1v
              go_upto_region 24 with ((with_reducible refine wpList_store_part (off := c) (cs := [v']) hiz ?_ ?_ hxz hfit h1c ?_); (focus rfl); (focus rfl); intro w15 hB15 hg15)
              rw [lay_one HLV.out] at hB15
              have P15 := P14.cset hg15 hB15 hct HVC14.out
              rw [setC_of HLL.out] at P15
              have Z15 : Blk w15 gr 28 nilA := Z14.grown hg15 (by simpa using Ne.symm (Z14.ne_type hxz (by decide)))
              clear P14 Z14 hiz hxz hfit h1c hB15 hg15 HVC14 d6 c4
              go_wp2_with first | ((with_reducible refine lda ?_ P15.x ?_); (focus rfl)) | ((with_reducible refine stA (s := t) (bt := a9.bt) (hi := a9.hi) ?_ ?_ Z15 ?_ ?_); (focus rfl); (focus rfl); (focus rfl); intro w16 hB16 hg16)
              refine bodyPost_ret (resA2 rfl _ _ gr _ _ _ rfl hB16 rfl rfl rfl) rfl ?_
              have kp : ∀ {q t : Nat} {bs : List Value}, t ≠ 28 → Blk w15 q t bs → Blk w16 q t bs := fun ht hq => hq.grown hg16 (by simpa using Z15.ne_type hq (Ne.symm ht))
              exact .inl ⟨z, _, x, setC a9 c z l0, by rw [HPK.out]; exact HF2.out, HZ.out, rfl, ⟨t, _, _, rfl, P15.v.past (kp (by decide) P15.v.q.x) (kp (by decide) P15.v.c.x) (fun _ _ => kp (by decide)) (fun _ _ => kp (by decide)), P15.f.past fun _ _ => kp (by decide)⟩, HLS.out, P15.b.grown hg16 P15.b.size (fun q hq => by cases hq; exact hlr), HFX.out⟩
            | false =>
              have D9 := Lib.hid (show DrX a a9 c z 0 from ⟨V9, S9, F9, (N9 rfl).2, fun i h _ => by omega⟩)
              have c4 := P9.c4
              have htc := Lib.hid P9.v.ec
              have hsc := Lib.hid S9.nc
              have hnc4 : t.nc ≤ 4 := by rw [← P9.v.ec, S9.nc, HV.out.nc]; exact HV.out.n4
              have HNC0 := Lib.hid (N9 rfl).1
              clear V9 S9 F9 T9 N9 H9
              go_wp2
              go_loopg [94] t.nc (fun g2 v94 wj => ∃ (d : Nat) (zc ccs : List Value) (b : A), d + g2 = t.nc ∧ v94 = .int .i64 d ∧ AP w gp t zc ccs b wj ∧ Blk wj gr 28 nilA ∧ DrX a b c z d)
              case atStart => exact ⟨0, _, _, a9, by omega, rfl, P9, Z9, D9.out⟩
              case round =>
                clear P9 Z9 D9 c4
                obtain ⟨d, zcd, ccsd, b, hd, rfl, P10, Z10, D10⟩ := hrel
                cases gk with
                | zero =>
                  have hdl : ¬ d < t.nc := by omega
                  have hcb : c < b.cs.length := by rw [D10.s.nc]; exact HC.out
                  have hzb : z < b.zs.length := by rw [D10.s.nz]; exact HZ.out
                  have HRF := Lib.hid (refill w gp t zcd ccsd b c z wr P10 D10.v hcb hzb D10.o)
                  have HNO := Lib.hid (show ¬ ∀ x, ¬ Cov (F (zn b z).fr) x from cov_of_cnt HV.out HZ.out (elg_cnt HV.out HZ.out HE.out) D10.f (fun i hi => D10.e i (by rw [D10.s.nc, ← hsc.out, htc.out] at hi; omega) (by rw [← D10.s.nc]; exact hi)))
                  have HD := Lib.hid D10
                  have n3 := Z10.ne_type P10.v.q.x (by decide)
                  have n4 := Z10.ne_type P10.v.c.x (by decide)
                  clear hcb hzb D10 hd
                  go_wp2_with fail
                  refine HRF.out.mono ?_
                  rintro e w11 ⟨r, rfl, ⟨zc11, ccs11, a11, P11, V11, S11, L11, F11, T11, N11, H11⟩, K11⟩
                  have Z11 := K11 gr 28 nilA n3 n4 Z10
                  have HB := Lib.hid (show VA a11 ∧ Sa a a11 ∧ (∀ y x, Fr a11 y x ↔ Fr a y x) ∧ lst a11 c z ≠ [] from ⟨V11, HD.out.s.trans S11, fun y x => (F11 y x).trans (HD.out.f y x), by
                    cases r with
                    | true => exact T11 rfl
                    | false => exact absurd (N11 rfl).1 HNO.out⟩)
                  have HX := Lib.hid (show ∀ l0 x, lst a11 c z = l0 ++ [x] → lst a c z = [] → (∃ q, Cov (F (zn a z).fr) q) → First (zn a z).fr 0 x from fun _ _ _ _ ⟨q, hq⟩ => absurd hq (HNC0.out q))
                  clear P10 Z10 HRF K11 L11 V11 S11 F11 T11 N11 H11 HNO HD n1 n2 n3 n4
                  go_upto_region 20 with fail
                  obtain ⟨vb, sb, fb, nb⟩ := HB.out
                  have hcb : c < a11.cs.length := by rw [sb.nc]; exact HC.out
                  have hct : c < t.nc := by rw [← P11.v.ec]; exact hcb
                  have hzb : z < a11.zs.length := by rw [sb.nz]; exact HZ.out
                  obtain ⟨L, hL⟩ := get_some (l := a11.cs) rfl hcb
                  obtain ⟨l, hl⟩ := get_some (vb.cl hL) hzb
                  have hle := lst_of hL hl
                  obtain ⟨l0, x, hlx⟩ : ∃ l0 x, l = l0 ++ [x] := by
                    rw [hle] at nb
                    exact ⟨l.dropLast, l.getLast nb, (List.dropLast_concat_getLast nb).symm⟩
                  subst hlx
                  obtain ⟨v7, hv7, hLc⟩ := P11.v.c.row c L hL
                  have dv : w11.cell? ⟨t.bc, c, none⟩ = some v7 := by rw [P11.v.c.x.cell]; exact hv7
                  have c4 := P11.c4
                  have HPT := Lib.hid (pctake (.agg #[v7]) L z l0 x w11 ⟨_, rfl, hLc⟩ (vb.vc hL) hl)
                  have HLV := Lib.hid (lt_of hv7); have HLL := Lib.hid hL
                  have HLS := Lib.hid ((take_plain vb hcb hzb hle).of sb fb); have HFX := Lib.hid (HX.out _ _ hle)
                  clear vb sb fb nb hcb hzb hL hl hle hv7 hLc HB HX
                  go_wp2_with fail
                  refine HPT.out.mono ?_
                  rintro e w12 ⟨_, rfl, ⟨v', rfl, hv'⟩, b12⟩
                  have P12 := P11.below b12
                  have Z12 := Z11.later b12
                  have hv' := hv'.weaken P11.b.size
                  obtain ⟨_, _, hvf, _⟩ := hv'.c.form
                  have h1v : v'.oneCell' = true := by rw [hvf]; rfl
                  have HVC := Lib.hid hv'
                  have hz13 := Blk.new w12 93 #[.slice none 0 0] [.slice none 0 0] rfl
                  clear P11 Z11 b12 dv c4 HPT hvf hv'
                  go_upto_region 21 with ((with_reducible refine stC (u := .slice none 0 0) (v := v') ?_ ?_ hz13 h1v ?_); (focus rfl); (focus rfl); intro w14 hB14 hg14)
                  have b14 : Below w12.heap.size w12 w14 := (below_box w12 (.cells #[.slice none 0 0] 93)).grown hg14 (below_box w12 _).size (fun k hk => by cases hk; exact Nat.le_refl _)
                  have P14 := P12.below b14
                  have Z14 := Z12.later b14
                  have HVC14 := Lib.hid (HVC.out.below b14)
                  have c4 := P14.c4
                  obtain ⟨g6, hg6e⟩ : ∃ z, w12.heap.size = z := ⟨_, rfl⟩
                  rw [hg6e] at hB14 ⊢
                  have d6 : w14.cell? ⟨g6, 0, none⟩ = some v' := by rw [hB14.cell]; rfl
                  clear hg6e P12 Z12 HVC b14 hg14 hz13 hB14
                  have hiz : (Tryz.prog.info? 93).map (·.size) = some [v'].length := infoC
                  have hxz := P14.v.c.x
                  have hfit : c + [v'].length ≤ ccs11.length := by have := HLV.out; simp; omega
                  have h1c : ∀ u ∈ [v'], u.oneCell' = true := fun u hu => by simp at hu; subst hu; exact h1v
                  go_upto_region 24 with ((with_reducible refine wpList_store_part (off := c) (cs := [v']) hiz ?_ ?_ hxz hfit h1c ?_); (focus rfl); (focus rfl); intro w15 hB15 hg15)
                  rw [lay_one HLV.out] at hB15
                  have P15 := P14.cset hg15 hB15 hct HVC14.out
                  rw [setC_of HLL.out] at P15
                  have Z15 : Blk w15 gr 28 nilA := Z14.grown hg15 (by simpa using Ne.symm (Z14.ne_type hxz (by decide)))
                  clear P14 Z14 hiz hxz hfit h1c hB15 hg15 HVC14 d6 c4
                  go_wp2_with first | ((with_reducible refine lda ?_ P15.x ?_); (focus rfl)) | ((with_reducible refine stA (s := t) (bt := a11.bt) (hi := a11.hi) ?_ ?_ Z15 ?_ ?_); (focus rfl); (focus rfl); (focus rfl); intro w16 hB16 hg16)
                  refine bodyPost_ret (resA2 rfl _ _ gr _ _ _ rfl hB16 rfl rfl rfl) rfl ?_
                  have kp : ∀ {q t : Nat} {bs : List Value}, t ≠ 28 → Blk w15 q t bs → Blk w16 q t bs := fun ht hq => hq.grown hg16 (by simpa using Z15.ne_type hq (Ne.symm ht))
                  exact .inl ⟨z, _, x, setC a11 c z l0, by rw [HPK.out]; exact HF2.out, HZ.out, rfl, ⟨t, _, _, rfl, P15.v.past (kp (by decide) P15.v.q.x) (kp (by decide) P15.v.c.x) (fun _ _ => kp (by decide)) (fun _ _ => kp (by decide)), P15.f.past fun _ _ => kp (by decide)⟩, HLS.out, P15.b.grown hg16 P15.b.size (fun q hq => by cases hq; exact hlr), HFX.out⟩
                | succ g2 =>
                  have hdl : d < t.nc := by omega
                  have HD := Lib.hid D10
                  have HI2 := Lib.hid hd
                  by_cases hdc : d = c
                  · have tc : ((d : Int) == (c : Int)) = true := by simp; omega
                    have HDN := Lib.hid (D10.same hdc)
                    clear D10 hd hdc HD
                    go_wp2
                    go_roundg g2
                    case rel => exact ⟨d + 1, zcd, ccsd, b, by have := HI2.out; omega, by go_num, P10, Z10, HDN.out⟩
                    case measure => omega
                  · have tc : ((d : Int) == (c : Int)) = false := by simp; omega
                    have hdb : d < b.cs.length := by rw [P10.v.ec]; exact hdl
                    have hzb : z < b.zs.length := by rw [D10.s.nz]; exact HZ.out
                    have HDR := Lib.hid (drain w gp t zcd ccsd b d z wr P10 D10.v hdb hzb)
                    have HNX := Lib.hid (fun b' => D10.next (b' := b') hdb hzb)
                    have n3 := Z10.ne_type P10.v.q.x (by decide)
                    have n4 := Z10.ne_type P10.v.c.x (by decide)
                    clear D10 hd hdc HD hdb hzb
                    go_wp2_with fail
                    refine HDR.out.mono ?_
                    rintro e w11 ⟨rfl, ⟨zc11, ccs11, b11, P11, V11, S11, E11, F11⟩, K11⟩
                    have Z11 := K11 gr 28 nilA n3 n4 Z10
                    have HDN := Lib.hid (HNX.out b11 V11 S11 E11 F11)
                    clear P10 Z10 HDR HNX V11 S11 E11 F11 K11 n3 n4
                    go_wp2
                    go_roundg g2
                    case rel => exact ⟨d + 1, zc11, ccs11, b11, by have := HI2.out; omega, by go_num, P11, Z11, HDN.out⟩
                    case measure => omega
          · have tm : ((lm : Int) == 0) = false := by simp; omega
            have HB := Lib.hid (show VA a ∧ Sa a a ∧ (∀ y x, Fr a y x ↔ Fr a y x) ∧ lst a c z ≠ [] from ⟨HV.out, Sa.refl a, fun _ _ => Iff.rfl, fun h => by
              rw [HLE.out] at h; rw [← HLM.out, h] at hlm0; exact hlm0 rfl⟩)
            have HX := Lib.hid (show ∀ l0 x, lst a c z = l0 ++ [x] → lst a c z = [] → (∃ q, Cov (F (zn a z).fr) q) → First (zn a z).fr 0 x from fun _ _ _ h => absurd h HB.out.2.2.2)
            clear hlm0
            go_upto_region 20 with fail
            clear dv dl c4
            obtain ⟨vb, sb, fb, nb⟩ := HB.out
            have hcb : c < a.cs.length := by rw [sb.nc]; exact HC.out
            have hct : c < t.nc := by rw [← P8.v.ec]; exact hcb
            have hzb : z < a.zs.length := by rw [sb.nz]; exact HZ.out
            obtain ⟨L, hL⟩ := get_some (l := a.cs) rfl hcb
            obtain ⟨l, hl⟩ := get_some (vb.cl hL) hzb
            have hle := lst_of hL hl
            obtain ⟨l0, x, hlx⟩ : ∃ l0 x, l = l0 ++ [x] := by
              rw [hle] at nb
              exact ⟨l.dropLast, l.getLast nb, (List.dropLast_concat_getLast nb).symm⟩
            subst hlx
            obtain ⟨v7, hv7, hLc⟩ := P8.v.c.row c L hL
            have dv : w8.cell? ⟨t.bc, c, none⟩ = some v7 := by rw [P8.v.c.x.cell]; exact hv7
            have c4 := P8.c4
            have HPT := Lib.hid (pctake (.agg #[v7]) L z l0 x w8 ⟨_, rfl, hLc⟩ (vb.vc hL) hl)
            have HLV := Lib.hid (lt_of hv7); have HLL := Lib.hid hL
            have HLS := Lib.hid ((take_plain vb hcb hzb hle).of sb fb); have HFX := Lib.hid (HX.out _ _ hle)
            clear vb sb fb nb hcb hzb hL hl hle hv7 hLc HB HX
            go_wp2_with fail
            refine HPT.out.mono ?_
            rintro e w12 ⟨_, rfl, ⟨v', rfl, hv'⟩, b12⟩
            have P12 := P8.below b12
            have Z12 := Z8.later b12
            have hv' := hv'.weaken P8.b.size
            obtain ⟨_, _, hvf, _⟩ := hv'.c.form
            have h1v : v'.oneCell' = true := by rw [hvf]; rfl
            have HVC := Lib.hid hv'
            have hz13 := Blk.new w12 93 #[.slice none 0 0] [.slice none 0 0] rfl
            clear P8 Z8 b12 dv c4 HPT hvf hv'
            go_upto_region 21 with ((with_reducible refine stC (u := .slice none 0 0) (v := v') ?_ ?_ hz13 h1v ?_); (focus rfl); (focus rfl); intro w14 hB14 hg14)
            have b14 : Below w12.heap.size w12 w14 := (below_box w12 (.cells #[.slice none 0 0] 93)).grown hg14 (below_box w12 _).size (fun k hk => by cases hk; exact Nat.le_refl _)
            have P14 := P12.below b14
            have Z14 := Z12.later b14
            have HVC14 := Lib.hid (HVC.out.below b14)
            have c4 := P14.c4
            obtain ⟨g6, hg6e⟩ : ∃ z, w12.heap.size = z := ⟨_, rfl⟩
            rw [hg6e] at hB14 ⊢
            have d6 : w14.cell? ⟨g6, 0, none⟩ = some v' := by rw [hB14.cell]; rfl
            clear hg6e P12 Z12 HVC b14 hg14 hz13 hB14
            have hiz : (Tryz.prog.info? 93).map (·.size) = some [v'].length := infoC
            have hxz := P14.v.c.x
            have hfit : c + [v'].length ≤ ccs7.length := by have := HLV.out; simp; omega
            have h1c : ∀ u ∈ [v'], u.oneCell' = true := fun u hu => by simp at hu; subst hu; exact h1v
            go_upto_region 24 with ((with_reducible refine wpList_store_part (off := c) (cs := [v']) hiz ?_ ?_ hxz hfit h1c ?_); (focus rfl); (focus rfl); intro w15 hB15 hg15)
            rw [lay_one HLV.out] at hB15
            have P15 := P14.cset hg15 hB15 hct HVC14.out
            rw [setC_of HLL.out] at P15
            have Z15 : Blk w15 gr 28 nilA := Z14.grown hg15 (by simpa using Ne.symm (Z14.ne_type hxz (by decide)))
            clear P14 Z14 hiz hxz hfit h1c hB15 hg15 HVC14 d6 c4
            go_wp2_with first | ((with_reducible refine lda ?_ P15.x ?_); (focus rfl)) | ((with_reducible refine stA (s := t) (bt := a.bt) (hi := a.hi) ?_ ?_ Z15 ?_ ?_); (focus rfl); (focus rfl); (focus rfl); intro w16 hB16 hg16)
            refine bodyPost_ret (resA2 rfl _ _ gr _ _ _ rfl hB16 rfl rfl rfl) rfl ?_
            have kp : ∀ {q t : Nat} {bs : List Value}, t ≠ 28 → Blk w15 q t bs → Blk w16 q t bs := fun ht hq => hq.grown hg16 (by simpa using Z15.ne_type hq (Ne.symm ht))
            exact .inl ⟨z, _, x, setC a c z l0, by rw [HPK.out]; exact HF2.out, HZ.out, rfl, ⟨t, _, _, rfl, P15.v.past (kp (by decide) P15.v.q.x) (kp (by decide) P15.v.c.x) (fun _ _ => kp (by decide)) (fun _ _ => kp (by decide)), P15.f.past fun _ _ => kp (by decide)⟩, HLS.out, P15.b.grown hg16 P15.b.size (fun q hq => by cases hq; exact hlr), HFX.out⟩
      | false =>
        by_cases hN0 : (N : Int) - M < 1
        · have t0 : decide ((N : Int) - M < 1) = true := decide_eq_true hN0
          have HE := Lib.hid (show elg a false z = false from by unfold elg; rw [if_neg (by decide), HNC.out, HMN.out]; simp; omega)
          clear hN0 hz
          go_wp2_with ((with_reducible refine ldaW ?_ ?_ X5.x.x ?_); (focus rfl); (focus rfl))
          refine (HRM.out wr X5).mono ?_
          rintro e w6 ⟨rfl, b6⟩
          have X6 := X5.below b6
          have HQ6 := Lib.hid (HQ.out.below b6)
          clear X5 b6 HCT HRM dq
          have HF2 := Lib.hid HF.out
          rw [HE.out, if_neg (by decide)] at HF2
          go_wp2
          go_roundg gg
          case rel => exact ⟨i + 1, by have := HI.out; omega, by go_num, X6, HQ6.out, HF2.out⟩
          case measure => omega
        · have t0 : decide ((N : Int) - M < 1) = false := decide_eq_false hN0
          have HE := Lib.hid (show elg a false z = true from by unfold elg; rw [if_neg (by decide), HNC.out, HMN.out]; simp; omega)
          clear hN0 hz
          go_wp2_with ((with_reducible refine ldaW ?_ ?_ X5.x.x ?_); (focus rfl); (focus rfl))
          refine (HRM.out wr X5).mono ?_
          rintro e w6 ⟨rfl, b6⟩
          have X6 := X5.below b6
          have HF2 := Lib.hid HF.out
          rw [HE.out, if_pos rfl] at HF2
          clear X5 b6 HCT HRM dq HQ
          have hr6 := HC.out; have hz6 := HZ.out
          go_wp2_with ((with_reducible refine lda ?_ X6.x.x ?_); (focus rfl))
          refine (aclone _ a w6 X6.x.ra HV.out).mono ?_
          rintro e w7 ⟨t, zc7, ccs7, W7, rfl, hW7, hlz, hlc, b7, _, _, hf7⟩
          have X7 := X6.below b7
          have hz7 := Blk.new w7 28 #[.slice none 0 0, .int .i64 0, .int .i64 0, .slice none 0 0, .slice none 0 0] nilA rfl
          have hlz := Nat.le_trans X6.x.b.size hlz
          have hlc := Nat.le_trans X6.x.b.size hlc
          have hf7 := hf7.weaken X6.x.b.size
          clear X6 b7
          go_upto_region 12 with ((with_reducible refine stA (s := t) (bt := a.bt) (hi := a.hi) ?_ ?_ hz7 ?_ ?_); (focus rfl); (focus rfl); (focus rfl); intro w8 hB8 hg8)
          obtain ⟨P8, b8⟩ := AP.start X7.x.b hW7 hlz hlc hf7 hB8 hg8
          have Z8 := X7.z.later b8
          have hlr := X7.l
          obtain ⟨gp, hgp⟩ : ∃ z, w7.heap.size = z := ⟨_, rfl⟩
          rw [hgp] at P8 ⊢
          clear hgp X7 hz7 hW7 hlz hlc hf7 hB8 hg8 b8
          rw [P8.v.ec] at hr6
          rw [P8.v.ez] at hz6
          obtain ⟨L, hL⟩ := get_some P8.v.ec hr6
          have hLn := HV.out.cl hL
          obtain ⟨l, hl⟩ := get_some hLn HZ.out
          have hle := lst_of hL hl
          obtain ⟨v6, hv6, hLc⟩ := P8.v.c.row c L hL
          have dv : w8.cell? ⟨t.bc, c, none⟩ = some v6 := by rw [P8.v.c.x.cell]; exact hv6
          obtain ⟨lb, lc, rfl, hlc1, hlc2⟩ := hLc.form
          obtain ⟨la, lm, lk, dl, hlm, hsl⟩ := hLc.at hl
          rw [hLn, P8.v.ez] at dv hlc1
          have c4 := P8.c4
          have HLE := Lib.hid hle; have HLM := Lib.hid hlm
          clear hL hLn hl hle hv6 hLc hlm hsl
          by_cases hlm0 : lm = 0
          · have hnil := Lib.hid (show lst a c z = [] by rw [HLE.out]; exact List.eq_nil_of_length_eq_zero (by rw [HLM.out]; exact hlm0))
            subst hlm0
            have HRF := Lib.hid (refill w gp t zc7 ccs7 a c z w8 P8 HV.out HC.out HZ.out hnil.out)
            have n1 := Z8.ne_type P8.v.q.x (by decide)
            have n2 := Z8.ne_type P8.v.c.x (by decide)
            go_wp2_with fail
            refine HRF.out.mono ?_
            rintro e w9 ⟨b, rfl, ⟨zc9, ccs9, a9, P9, V9, S9, L9, F9, T9, N9, H9⟩, K9⟩
            have Z9 := K9 gr 28 nilA n1 n2 Z8
            clear P8 Z8 HRF K9 L9 dv dl c4
            cases b with
            | true =>
              have HB := Lib.hid (And.intro V9 (And.intro S9 (And.intro F9 (T9 rfl))))
              have HX := Lib.hid (show ∀ l0 x, lst a9 c z = l0 ++ [x] → lst a c z = [] → (∃ q, Cov (F (zn a z).fr) q) → First (zn a z).fr 0 x from fun l0 x h1 _ _ => by
                obtain ⟨l1, f1, h2, h3⟩ := H9 rfl
                rw [h1] at h2
                have := (List.append_inj' h2 rfl).2
                cases this
                exact h3)
              clear V9 S9 F9 T9 N9 n1 n2 H9
              go_upto_region 20 with fail
              obtain ⟨vb, sb, fb, nb⟩ := HB.out
              have hcb : c < a9.cs.length := by rw [sb.nc]; exact HC.out
              have hct : c < t.nc := by rw [← P9.v.ec]; exact hcb
              have hzb : z < a9.zs.length := by rw [sb.nz]; exact HZ.out
              obtain ⟨L, hL⟩ := get_some (l := a9.cs) rfl hcb
              obtain ⟨l, hl⟩ := get_some (vb.cl hL) hzb
              have hle := lst_of hL hl
              obtain ⟨l0, x, hlx⟩ : ∃ l0 x, l = l0 ++ [x] := by
                rw [hle] at nb
                exact ⟨l.dropLast, l.getLast nb, (List.dropLast_concat_getLast nb).symm⟩
              subst hlx
              obtain ⟨v7, hv7, hLc⟩ := P9.v.c.row c L hL
              have dv : w9.cell? ⟨t.bc, c, none⟩ = some v7 := by rw [P9.v.c.x.cell]; exact hv7
              have c4 := P9.c4
              have HPT := Lib.hid (pctake (.agg #[v7]) L z l0 x w9 ⟨_, rfl, hLc⟩ (vb.vc hL) hl)
              have HLV := Lib.hid (lt_of hv7); have HLL := Lib.hid hL
              have HLS := Lib.hid ((take_plain vb hcb hzb hle).of sb fb); have HFX := Lib.hid (HX.out _ _ hle)
              clear vb sb fb nb hcb hzb hL hl hle hv7 hLc HB HX
              go_wp2_with fail
              refine HPT.out.mono ?_
              rintro e w12 ⟨_, rfl, ⟨v', rfl, hv'⟩, b12⟩
              have P12 := P9.below b12
              have Z12 := Z9.later b12
              have hv' := hv'.weaken P9.b.size
              obtain ⟨_, _, hvf, _⟩ := hv'.c.form
              have h1v : v'.oneCell' = true := by rw [hvf]; rfl
              have HVC := Lib.hid hv'
              have hz13 := Blk.new w12 93 #[.slice none 0 0] [.slice none 0 0] rfl
              clear P9 Z9 b12 dv c4 HPT hvf hv'
              go_upto_region 21 with ((with_reducible refine stC (u := .slice none 0 0) (v := v') ?_ ?_ hz13 h1v ?_); (focus rfl); (focus rfl); intro w14 hB14 hg14)
              have b14 : Below w12.heap.size w12 w14 := (below_box w12 (.cells #[.slice none 0 0] 93)).grown hg14 (below_box w12 _).size (fun k hk => by cases hk; exact Nat.le_refl _)
              have P14 := P12.below b14
              have Z14 := Z12.later b14
              have HVC14 := Lib.hid (HVC.out.below b14)
              have c4 := P14.c4
              obtain ⟨g6, hg6e⟩ : ∃ z, w12.heap.size = z := ⟨_, rfl⟩
              rw [hg6e] at hB14 ⊢
              have d6 : w14.cell? ⟨g6, 0, none⟩ = some v' := by rw [hB14.cell]; rfl
              clear hg6e P12 Z12 HVC b14 hg14 hz13 hB14
              have hiz : (Tryz.prog.info? 93).map (·.size) = some [v'].length := infoC
              have hxz := P14.v.c.x
              have hfit : c + [v'].length ≤ ccs9.length := by have := HLV.out; simp; omega
              have h1c : ∀ u ∈ [v'], u.oneCell' = true := fun u hu => by simp at hu; subst hu; exact h1v
              go_upto_region 24 with ((with_reducible refine wpList_store_part (off := c) (cs := [v']) hiz ?_ ?_ hxz hfit h1c ?_); (focus rfl); (focus rfl); intro w15 hB15 hg15)
              rw [lay_one HLV.out] at hB15
              have P15 := P14.cset hg15 hB15 hct HVC14.out
              rw [setC_of HLL.out] at P15
              have Z15 : Blk w15 gr 28 nilA := Z14.grown hg15 (by simpa using Ne.symm (Z14.ne_type hxz (by decide)))
              clear P14 Z14 hiz hxz hfit h1c hB15 hg15 HVC14 d6 c4
              go_wp2_with first | ((with_reducible refine lda ?_ P15.x ?_); (focus rfl)) | ((with_reducible refine stA (s := t) (bt := a9.bt) (hi := a9.hi) ?_ ?_ Z15 ?_ ?_); (focus rfl); (focus rfl); (focus rfl); intro w16 hB16 hg16)
              refine bodyPost_ret (resA2 rfl _ _ gr _ _ _ rfl hB16 rfl rfl rfl) rfl ?_
              have kp : ∀ {q t : Nat} {bs : List Value}, t ≠ 28 → Blk w15 q t bs → Blk w16 q t bs := fun ht hq => hq.grown hg16 (by simpa using Z15.ne_type hq (Ne.symm ht))
              exact .inl ⟨z, _, x, setC a9 c z l0, by rw [HPK.out]; exact HF2.out, HZ.out, rfl, ⟨t, _, _, rfl, P15.v.past (kp (by decide) P15.v.q.x) (kp (by decide) P15.v.c.x) (fun _ _ => kp (by decide)) (fun _ _ => kp (by decide)), P15.f.past fun _ _ => kp (by decide)⟩, HLS.out, P15.b.grown hg16 P15.b.size (fun q hq => by cases hq; exact hlr), HFX.out⟩
            | false =>
              have D9 := Lib.hid (show DrX a a9 c z 0 from ⟨V9, S9, F9, (N9 rfl).2, fun i h _ => by omega⟩)
              have c4 := P9.c4
              have htc := Lib.hid P9.v.ec
              have hsc := Lib.hid S9.nc
              have hnc4 : t.nc ≤ 4 := by rw [← P9.v.ec, S9.nc, HV.out.nc]; exact HV.out.n4
              have HNC0 := Lib.hid (N9 rfl).1
              clear V9 S9 F9 T9 N9 H9
              go_wp2
              go_loopg [94] t.nc (fun g2 v94 wj => ∃ (d : Nat) (zc ccs : List Value) (b : A), d + g2 = t.nc ∧ v94 = .int .i64 d ∧ AP w gp t zc ccs b wj ∧ Blk wj gr 28 nilA ∧ DrX a b c z d)
              case atStart => exact ⟨0, _, _, a9, by omega, rfl, P9, Z9, D9.out⟩
              case round =>
                clear P9 Z9 D9 c4
                obtain ⟨d, zcd, ccsd, b, hd, rfl, P10, Z10, D10⟩ := hrel
                cases gk with
                | zero =>
                  have hdl : ¬ d < t.nc := by omega
                  have hcb : c < b.cs.length := by rw [D10.s.nc]; exact HC.out
                  have hzb : z < b.zs.length := by rw [D10.s.nz]; exact HZ.out
                  have HRF := Lib.hid (refill w gp t zcd ccsd b c z wr P10 D10.v hcb hzb D10.o)
                  have HNO := Lib.hid (show ¬ ∀ x, ¬ Cov (F (zn b z).fr) x from cov_of_cnt HV.out HZ.out (elg_cnt HV.out HZ.out HE.out) D10.f (fun i hi => D10.e i (by rw [D10.s.nc, ← hsc.out, htc.out] at hi; omega) (by rw [← D10.s.nc]; exact hi)))
                  have HD := Lib.hid D10
                  have n3 := Z10.ne_type P10.v.q.x (by decide)
                  have n4 := Z10.ne_type P10.v.c.x (by decide)
                  clear hcb hzb D10 hd
                  go_wp2_with fail
                  refine HRF.out.mono ?_
                  rintro e w11 ⟨r, rfl, ⟨zc11, ccs11, a11, P11, V11, S11, L11, F11, T11, N11, H11⟩, K11⟩
                  have Z11 := K11 gr 28 nilA n3 n4 Z10
                  have HB := Lib.hid (show VA a11 ∧ Sa a a11 ∧ (∀ y x, Fr a11 y x ↔ Fr a y x) ∧ lst a11 c z ≠ [] from ⟨V11, HD.out.s.trans S11, fun y x => (F11 y x).trans (HD.out.f y x), by
                    cases r with
                    | true => exact T11 rfl
                    | false => exact absurd (N11 rfl).1 HNO.out⟩)
                  have HX := Lib.hid (show ∀ l0 x, lst a11 c z = l0 ++ [x] → lst a c z = [] → (∃ q, Cov (F (zn a z).fr) q) → First (zn a z).fr 0 x from fun _ _ _ _ ⟨q, hq⟩ => absurd hq (HNC0.out q))
                  clear P10 Z10 HRF K11 L11 V11 S11 F11 T11 N11 H11 HNO HD n1 n2 n3 n4
                  go_upto_region 20 with fail
                  obtain ⟨vb, sb, fb, nb⟩ := HB.out
                  have hcb : c < a11.cs.length := by rw [sb.nc]; exact HC.out
                  have hct : c < t.nc := by rw [← P11.v.ec]; exact hcb
                  have hzb : z < a11.zs.length := by rw [sb.nz]; exact HZ.out
                  obtain ⟨L, hL⟩ := get_some (l := a11.cs) rfl hcb
                  obtain ⟨l, hl⟩ := get_some (vb.cl hL) hzb
                  have hle := lst_of hL hl
                  obtain ⟨l0, x, hlx⟩ : ∃ l0 x, l = l0 ++ [x] := by
                    rw [hle] at nb
                    exact ⟨l.dropLast, l.getLast nb, (List.dropLast_concat_getLast nb).symm⟩
                  subst hlx
                  obtain ⟨v7, hv7, hLc⟩ := P11.v.c.row c L hL
                  have dv : w11.cell? ⟨t.bc, c, none⟩ = some v7 := by rw [P11.v.c.x.cell]; exact hv7
                  have c4 := P11.c4
                  have HPT := Lib.hid (pctake (.agg #[v7]) L z l0 x w11 ⟨_, rfl, hLc⟩ (vb.vc hL) hl)
                  have HLV := Lib.hid (lt_of hv7); have HLL := Lib.hid hL
                  have HLS := Lib.hid ((take_plain vb hcb hzb hle).of sb fb); have HFX := Lib.hid (HX.out _ _ hle)
                  clear vb sb fb nb hcb hzb hL hl hle hv7 hLc HB HX
                  go_wp2_with fail
                  refine HPT.out.mono ?_
                  rintro e w12 ⟨_, rfl, ⟨v', rfl, hv'⟩, b12⟩
                  have P12 := P11.below b12
                  have Z12 := Z11.later b12
                  have hv' := hv'.weaken P11.b.size
                  obtain ⟨_, _, hvf, _⟩ := hv'.c.form
                  have h1v : v'.oneCell' = true := by rw [hvf]; rfl
                  have HVC := Lib.hid hv'
                  have hz13 := Blk.new w12 93 #[.slice none 0 0] [.slice none 0 0] rfl
                  clear P11 Z11 b12 dv c4 HPT hvf hv'
                  go_upto_region 21 with ((with_reducible refine stC (u := .slice none 0 0) (v := v') ?_ ?_ hz13 h1v ?_); (focus rfl); (focus rfl); intro w14 hB14 hg14)
                  have b14 : Below w12.heap.size w12 w14 := (below_box w12 (.cells #[.slice none 0 0] 93)).grown hg14 (below_box w12 _).size (fun k hk => by cases hk; exact Nat.le_refl _)
                  have P14 := P12.below b14
                  have Z14 := Z12.later b14
                  have HVC14 := Lib.hid (HVC.out.below b14)
                  have c4 := P14.c4
                  obtain ⟨g6, hg6e⟩ : ∃ z, w12.heap.size = z := ⟨_, rfl⟩
                  rw [hg6e] at hB14 ⊢
                  have d6 : w14.cell? ⟨g6, 0, none⟩ = some v' := by rw [hB14.cell]; rfl
                  clear hg6e P12 Z12 HVC b14 hg14 hz13 hB14
                  have hiz : (Tryz.prog.info? 93).map (·.size) = some [v'].length := infoC
                  have hxz := P14.v.c.x
                  have hfit : c + [v'].length ≤ ccs11.length := by have := HLV.out; simp; omega
                  have h1c : ∀ u ∈ [v'], u.oneCell' = true := fun u hu => by simp at hu; subst hu; exact h1v
                  go_upto_region 24 with ((with_reducible refine wpList_store_part (off := c) (cs := [v']) hiz ?_ ?_ hxz hfit h1c ?_); (focus rfl); (focus rfl); intro w15 hB15 hg15)
                  rw [lay_one HLV.out] at hB15
                  have P15 := P14.cset hg15 hB15 hct HVC14.out
                  rw [setC_of HLL.out] at P15
                  have Z15 : Blk w15 gr 28 nilA := Z14.grown hg15 (by simpa using Ne.symm (Z14.ne_type hxz (by decide)))
                  clear P14 Z14 hiz hxz hfit h1c hB15 hg15 HVC14 d6 c4
                  go_wp2_with first | ((with_reducible refine lda ?_ P15.x ?_); (focus rfl)) | ((with_reducible refine stA (s := t) (bt := a11.bt) (hi := a11.hi) ?_ ?_ Z15 ?_ ?_); (focus rfl); (focus rfl); (focus rfl); intro w16 hB16 hg16)
                  refine bodyPost_ret (resA2 rfl _ _ gr _ _ _ rfl hB16 rfl rfl rfl) rfl ?_
                  have kp : ∀ {q t : Nat} {bs : List Value}, t ≠ 28 → Blk w15 q t bs → Blk w16 q t bs := fun ht hq => hq.grown hg16 (by simpa using Z15.ne_type hq (Ne.symm ht))
                  exact .inl ⟨z, _, x, setC a11 c z l0, by rw [HPK.out]; exact HF2.out, HZ.out, rfl, ⟨t, _, _, rfl, P15.v.past (kp (by decide) P15.v.q.x) (kp (by decide) P15.v.c.x) (fun _ _ => kp (by decide)) (fun _ _ => kp (by decide)), P15.f.past fun _ _ => kp (by decide)⟩, HLS.out, P15.b.grown hg16 P15.b.size (fun q hq => by cases hq; exact hlr), HFX.out⟩
                | succ g2 =>
                  have hdl : d < t.nc := by omega
                  have HD := Lib.hid D10
                  have HI2 := Lib.hid hd
                  by_cases hdc : d = c
                  · have tc : ((d : Int) == (c : Int)) = true := by simp; omega
                    have HDN := Lib.hid (D10.same hdc)
                    clear D10 hd hdc HD
                    go_wp2
                    go_roundg g2
                    case rel => exact ⟨d + 1, zcd, ccsd, b, by have := HI2.out; omega, by go_num, P10, Z10, HDN.out⟩
                    case measure => omega
                  · have tc : ((d : Int) == (c : Int)) = false := by simp; omega
                    have hdb : d < b.cs.length := by rw [P10.v.ec]; exact hdl
                    have hzb : z < b.zs.length := by rw [D10.s.nz]; exact HZ.out
                    have HDR := Lib.hid (drain w gp t zcd ccsd b d z wr P10 D10.v hdb hzb)
                    have HNX := Lib.hid (fun b' => D10.next (b' := b') hdb hzb)
                    have n3 := Z10.ne_type P10.v.q.x (by decide)
                    have n4 := Z10.ne_type P10.v.c.x (by decide)
                    clear D10 hd hdc HD hdb hzb
                    go_wp2_with fail
                    refine HDR.out.mono ?_
                    rintro e w11 ⟨rfl, ⟨zc11, ccs11, b11, P11, V11, S11, E11, F11⟩, K11⟩
                    have Z11 := K11 gr 28 nilA n3 n4 Z10
                    have HDN := Lib.hid (HNX.out b11 V11 S11 E11 F11)
                    clear P10 Z10 HDR HNX V11 S11 E11 F11 K11 n3 n4
                    go_wp2
                    go_roundg g2
                    case rel => exact ⟨d + 1, zc11, ccs11, b11, by have := HI2.out; omega, by go_num, P11, Z11, HDN.out⟩
                    case measure => omega
          · have tm : ((lm : Int) == 0) = false := by simp; omega
            have HB := Lib.hid (show VA a ∧ Sa a a ∧ (∀ y x, Fr a y x ↔ Fr a y x) ∧ lst a c z ≠ [] from ⟨HV.out, Sa.refl a, fun _ _ => Iff.rfl, fun h => by
              rw [HLE.out] at h; rw [← HLM.out, h] at hlm0; exact hlm0 rfl⟩)
            have HX := Lib.hid (show ∀ l0 x, lst a c z = l0 ++ [x] → lst a c z = [] → (∃ q, Cov (F (zn a z).fr) q) → First (zn a z).fr 0 x from fun _ _ _ h => absurd h HB.out.2.2.2)
            clear hlm0
            go_upto_region 20 with fail
            clear dv dl c4
            obtain ⟨vb, sb, fb, nb⟩ := HB.out
            have hcb : c < a.cs.length := by rw [sb.nc]; exact HC.out
            have hct : c < t.nc := by rw [← P8.v.ec]; exact hcb
            have hzb : z < a.zs.length := by rw [sb.nz]; exact HZ.out
            obtain ⟨L, hL⟩ := get_some (l := a.cs) rfl hcb
            obtain ⟨l, hl⟩ := get_some (vb.cl hL) hzb
            have hle := lst_of hL hl
            obtain ⟨l0, x, hlx⟩ : ∃ l0 x, l = l0 ++ [x] := by
              rw [hle] at nb
              exact ⟨l.dropLast, l.getLast nb, (List.dropLast_concat_getLast nb).symm⟩
            subst hlx
            obtain ⟨v7, hv7, hLc⟩ := P8.v.c.row c L hL
            have dv : w8.cell? ⟨t.bc, c, none⟩ = some v7 := by rw [P8.v.c.x.cell]; exact hv7
            have c4 := P8.c4
            have HPT := Lib.hid (pctake (.agg #[v7]) L z l0 x w8 ⟨_, rfl, hLc⟩ (vb.vc hL) hl)
            have HLV := Lib.hid (lt_of hv7); have HLL := Lib.hid hL
            have HLS := Lib.hid ((take_plain vb hcb hzb hle).of sb fb); have HFX := Lib.hid (HX.out _ _ hle)
            clear vb sb fb nb hcb hzb hL hl hle hv7 hLc HB HX
            go_wp2_with fail
            refine HPT.out.mono ?_
            rintro e w12 ⟨_, rfl, ⟨v', rfl, hv'⟩, b12⟩
            have P12 := P8.below b12
            have Z12 := Z8.later b12
            have hv' := hv'.weaken P8.b.size
            obtain ⟨_, _, hvf, _⟩ := hv'.c.form
            have h1v : v'.oneCell' = true := by rw [hvf]; rfl
            have HVC := Lib.hid hv'
            have hz13 := Blk.new w12 93 #[.slice none 0 0] [.slice none 0 0] rfl
            clear P8 Z8 b12 dv c4 HPT hvf hv'
            go_upto_region 21 with ((with_reducible refine stC (u := .slice none 0 0) (v := v') ?_ ?_ hz13 h1v ?_); (focus rfl); (focus rfl); intro w14 hB14 hg14)
            have b14 : Below w12.heap.size w12 w14 := (below_box w12 (.cells #[.slice none 0 0] 93)).grown hg14 (below_box w12 _).size (fun k hk => by cases hk; exact Nat.le_refl _)
            have P14 := P12.below b14
            have Z14 := Z12.later b14
            have HVC14 := Lib.hid (HVC.out.below b14)
            have c4 := P14.c4
            obtain ⟨g6, hg6e⟩ : ∃ z, w12.heap.size = z := ⟨_, rfl⟩
            rw [hg6e] at hB14 ⊢
            have d6 : w14.cell? ⟨g6, 0, none⟩ = some v' := by rw [hB14.cell]; rfl
            clear hg6e P12 Z12 HVC b14 hg14 hz13 hB14
            have hiz : (Tryz.prog.info? 93).map (·.size) = some [v'].length := infoC
            have hxz := P14.v.c.x
            have hfit : c + [v'].length ≤ ccs7.length := by have := HLV.out; simp; omega
            have h1c : ∀ u ∈ [v'], u.oneCell' = true := fun u hu => by simp at hu; subst hu; exact h1v
            go_upto_region 24 with ((with_reducible refine wpList_store_part (off := c) (cs := [v']) hiz ?_ ?_ hxz hfit h1c ?_); (focus rfl); (focus rfl); intro w15 hB15 hg15)
            rw [lay_one HLV.out] at hB15
            have P15 := P14.cset hg15 hB15 hct HVC14.out
            rw [setC_of HLL.out] at P15
            have Z15 : Blk w15 gr 28 nilA := Z14.grown hg15 (by simpa using Ne.symm (Z14.ne_type hxz (by decide)))
            clear P14 Z14 hiz hxz hfit h1c hB15 hg15 HVC14 d6 c4
            go_wp2_with first | ((with_reducible refine lda ?_ P15.x ?_); (focus rfl)) | ((with_reducible refine stA (s := t) (bt := a.bt) (hi := a.hi) ?_ ?_ Z15 ?_ ?_); (focus rfl); (focus rfl); (focus rfl); intro w16 hB16 hg16)
            refine bodyPost_ret (resA2 rfl _ _ gr _ _ _ rfl hB16 rfl rfl rfl) rfl ?_
            have kp : ∀ {q t : Nat} {bs : List Value}, t ≠ 28 → Blk w15 q t bs → Blk w16 q t bs := fun ht hq => hq.grown hg16 (by simpa using Z15.ne_type hq (Ne.symm ht))
            exact .inl ⟨z, _, x, setC a c z l0, by rw [HPK.out]; exact HF2.out, HZ.out, rfl, ⟨t, _, _, rfl, P15.v.past (kp (by decide) P15.v.q.x) (kp (by decide) P15.v.c.x) (fun _ _ => kp (by decide)) (fun _ _ => kp (by decide)), P15.f.past fun _ _ => kp (by decide)⟩, HLS.out, P15.b.grown hg16 P15.b.size (fun q hq => by cases hq; exact hlr), HFX.out⟩
end Go.Proofs.YtdddkfpcbfgocaaGreat
namespace Go.Seg
section
variable {P : Program} {md : Region.Mode} {S : World → Prop} {Q : Exit → Act → World → Prop}
inductive PlanT where
  | done
  | quiet (ks : List Nat) (p : PlanT)
  | only (k : Nat) (p : PlanT)
  | last (k : Nat)
  | fork (k1 : Nat) (p1 : PlanT) (k2 : Nat) (p2 : PlanT)
  | fork3 (k1 : Nat) (p1 : PlanT) (k2 : Nat) (p2 : PlanT) (k3 : Nat) (p3 : PlanT)
def PlanT.size : PlanT → Nat
  | .done => 0
  | .quiet ks p => p.size + ks.length
  | .only _ p => p.size + 1
  | .last _ => 1
  | .fork _ p1 _ p2 => max p1.size p2.size + 1
  | .fork3 _ p1 _ p2 _ p3 => max p1.size (max p2.size p3.size) + 1
def planTB (md : Region.Mode) (l : List Oper) (lst : Nat) : PlanT → Array Bool → Bool
  | .done, listed => (Region.ready md l.toArray listed).isEmpty
  | .quiet ks p, listed => quietB md l.toArray ks listed && (inOrder l ks).all (fun o => valueOp o.op) && ks.all (fun k => decide (k < l.length)) && decide (∀ k ∈ ks, k ≠ lst) && planTB md l lst p (setAll listed ks)
  | .only k p, listed => decide (Region.ready md l.toArray listed = [k]) && decide (k < l.length) && planTB md l lst p (listed.setIfInBounds k true)
  | .last k, listed => decide (k = lst) && decide (Region.ready md l.toArray listed = [k]) && decide (k < l.length) && (Region.ready md l.toArray (listed.setIfInBounds k true)).isEmpty
  | .fork k1 p1 k2 p2, listed => decide (Region.ready md l.toArray listed = [k1, k2]) && decide (k1 < l.length) && decide (k2 < l.length) && planTB md l lst p1 (listed.setIfInBounds k1 true) && planTB md l lst p2 (listed.setIfInBounds k2 true)
  | .fork3 k1 p1 k2 p2 k3 p3, listed => decide (Region.ready md l.toArray listed = [k1, k2, k3]) && (decide (k1 < l.length) && decide (k2 < l.length) && decide (k3 < l.length)) && planTB md l lst p1 (listed.setIfInBounds k1 true) && planTB md l lst p2 (listed.setIfInBounds k2 true) && planTB md l lst p3 (listed.setIfInBounds k3 true)
def wpPlanT (P : Program) (l : List Oper) (S : World → Prop) (Q : Exit → Act → World → Prop) : PlanT → Act → World → Prop
  | .done, a, w => Q .normal a w
  | .quiet ks p, a, w => wpQuiet P l.toArray S (fun a' => wpPlanT P l S Q p a' w) (inOrder l ks) a
  | .only k p, a, w => wpList P l.toArray (Kept S fun a' w' => wpPlanT P l S Q p a' w') (inOrder l [k]) a w
  | .last k, a, w => wpList P l.toArray (Kept (fun _ => True) fun a' w' => Q .normal a' w') (inOrder l [k]) a w
  | .fork k1 p1 k2 p2, a, w => wpList P l.toArray (Kept S fun a' w' => wpPlanT P l S Q p1 a' w') (inOrder l [k1]) a w ∧ wpList P l.toArray (Kept S fun a' w' => wpPlanT P l S Q p2 a' w') (inOrder l [k2]) a w
  | .fork3 k1 p1 k2 p2 k3 p3, a, w => wpList P l.toArray (Kept S fun a' w' => wpPlanT P l S Q p1 a' w') (inOrder l [k1]) a w ∧ wpList P l.toArray (Kept S fun a' w' => wpPlanT P l S Q p2 a' w') (inOrder l [k2]) a w ∧ wpList P l.toArray (Kept S fun a' w' => wpPlanT P l S Q p3 a' w') (inOrder l [k3]) a w
theorem anyL_planT {l : List Oper} {lst : Nat} (hlast : Lasts md l.toArray lst) (hs : Region.noSelect l.toArray = true) (hQ : ∀ c a d v w, Q (.panic c) (Act.put a d v) w → Q (.panic c) a w) :
    ∀ (p : PlanT) (x : Nat) (listed : Array Bool) (a : Act) (w : World), planTB md l lst p listed = true → S w → wpPlanT P l S Q p a w → wpAnyL P md l.toArray lst S Q (p.size + x) listed a w
  | .done, x, listed, a, w, hB, hS, h => by
    have he : Region.ready md l.toArray listed = [] := by simpa [planTB] using hB
    cases x with
    | zero => exact ⟨he, h⟩
    | succ x => exact ⟨fun _ => h, fun i hi => by rw [he] at hi; cases hi⟩
  | .quiet ks p, x, listed, a, w, hB, hS, h => by
    simp only [planTB, Bool.and_eq_true, decide_eq_true_eq] at hB
    obtain ⟨⟨⟨⟨b1, b2⟩, b3⟩, b4⟩, b5⟩ := hB
    obtain ⟨i0, j0⟩ := inOrder_map ks b3
    have g := anyL_of_quiets (P := P) (S := S) (Q := Q) hlast hs hQ (f := p.size + x) (inOrder l ks) ks listed a w i0 b1 b4 hS
      (eachF_of_quiet (inOrder l ks) a (fun o ho => List.all_eq_true.1 b2 o ho) (wpQuiet_imp (fun a' hh => anyL_planT hlast hs hQ p x _ a' w b5 hS hh) _ _ h))
    rw [j0] at g
    show wpAnyL P md l.toArray lst S Q (p.size + ks.length + x) listed a w
    rw [show p.size + ks.length + x = p.size + x + ks.length by omega]
    exact g
  | .only k p, x, listed, a, w, hB, hS, h => by
    simp only [planTB, Bool.and_eq_true, decide_eq_true_eq] at hB
    obtain ⟨⟨b1, b2⟩, b3⟩ := hB
    obtain ⟨o, m1, m2⟩ := one_of b2
    simp only [wpPlanT, m1] at h
    show wpAnyL P md l.toArray lst S Q (p.size + 1 + x) listed a w
    rw [show p.size + 1 + x = p.size + x + 1 by omega]
    refine ⟨fun h1 => (by rw [b1] at h1; cases h1), fun i hi => ?_⟩
    rw [b1] at hi
    obtain rfl := List.mem_singleton.1 hi
    exact op_of_list m2 hS h fun a' w' hs' hk => ⟨fun _ => hs', anyL_planT hlast hs hQ p x _ a' w' b3 hs' hk⟩
  | .last k, x, listed, a, w, hB, hS, h => by
    simp only [planTB, Bool.and_eq_true, decide_eq_true_eq] at hB
    obtain ⟨⟨⟨b0, b1⟩, b2⟩, b3⟩ := hB
    obtain ⟨o, m1, m2⟩ := one_of b2
    simp only [wpPlanT, m1] at h
    show wpAnyL P md l.toArray lst S Q (1 + x) listed a w
    rw [show 1 + x = x + 1 by omega]
    refine ⟨fun h1 => (by rw [b1] at h1; cases h1), fun i hi => ?_⟩
    rw [b1] at hi
    obtain rfl := List.mem_singleton.1 hi
    have he : Region.ready md l.toArray (listed.setIfInBounds i true) = [] := by simpa using b3
    refine op_of_list m2 trivial h fun a' w' _ hk => ⟨fun hne => absurd b0 hne, ?_⟩
    cases x with
    | zero => exact ⟨he, hk⟩
    | succ x => exact ⟨fun _ => hk, fun i hi => by rw [he] at hi; cases hi⟩
  | .fork k1 p1 k2 p2, x, listed, a, w, hB, hS, h => by
    simp only [planTB, Bool.and_eq_true, decide_eq_true_eq] at hB
    obtain ⟨⟨⟨⟨b1, b2⟩, b3⟩, b4⟩, b5⟩ := hB
    obtain ⟨o1, m1, n1⟩ := one_of b2
    obtain ⟨o2, m2, n2⟩ := one_of b3
    simp only [wpPlanT, m1, m2] at h
    show wpAnyL P md l.toArray lst S Q (max p1.size p2.size + 1 + x) listed a w
    rw [show max p1.size p2.size + 1 + x = max p1.size p2.size + x + 1 by omega]
    refine ⟨fun h1 => (by rw [b1] at h1; cases h1), fun i hi => ?_⟩
    rw [b1] at hi
    rcases List.mem_cons.1 hi with rfl | hi
    · refine op_of_list n1 hS h.1 fun a' w' hs' hk => ⟨fun _ => hs', ?_⟩
      have := anyL_planT hlast hs hQ p1 (max p1.size p2.size - p1.size + x) _ a' w' b4 hs' hk
      rwa [show p1.size + (max p1.size p2.size - p1.size + x) = max p1.size p2.size + x by omega] at this
    · obtain rfl := List.mem_singleton.1 hi
      refine op_of_list n2 hS h.2 fun a' w' hs' hk => ⟨fun _ => hs', ?_⟩
      have := anyL_planT hlast hs hQ p2 (max p1.size p2.size - p2.size + x) _ a' w' b5 hs' hk
      rwa [show p2.size + (max p1.size p2.size - p2.size + x) = max p1.size p2.size + x by omega] at this
  | .fork3 k1 p1 k2 p2 k3 p3, x, listed, a, w, hB, hS, h => by
    simp only [planTB, Bool.and_eq_true, decide_eq_true_eq] at hB
    obtain ⟨⟨⟨⟨b1, ⟨b2, b3⟩, b4⟩, c1⟩, c2⟩, c3⟩ := hB
    obtain ⟨o1, m1, n1⟩ := one_of b2
    obtain ⟨o2, m2, n2⟩ := one_of b3
    obtain ⟨o3, m3, n3⟩ := one_of b4
    simp only [wpPlanT, m1, m2, m3] at h
    show wpAnyL P md l.toArray lst S Q (max p1.size (max p2.size p3.size) + 1 + x) listed a w
    rw [show max p1.size (max p2.size p3.size) + 1 + x = max p1.size (max p2.size p3.size) + x + 1 by omega]
    refine ⟨fun h1 => (by rw [b1] at h1; cases h1), fun i hi => ?_⟩
    rw [b1] at hi
    rcases List.mem_cons.1 hi with rfl | hi
    · refine op_of_list n1 hS h.1 fun a' w' hs' hk => ⟨fun _ => hs', ?_⟩
      have := anyL_planT hlast hs hQ p1 (max p1.size (max p2.size p3.size) - p1.size + x) _ a' w' c1 hs' hk
      rwa [show p1.size + (max p1.size (max p2.size p3.size) - p1.size + x) = max p1.size (max p2.size p3.size) + x by omega] at this
    rcases List.mem_cons.1 hi with rfl | hi
    · refine op_of_list n2 hS h.2.1 fun a' w' hs' hk => ⟨fun _ => hs', ?_⟩
      have := anyL_planT hlast hs hQ p2 (max p1.size (max p2.size p3.size) - p2.size + x) _ a' w' c2 hs' hk
      rwa [show p2.size + (max p1.size (max p2.size p3.size) - p2.size + x) = max p1.size (max p2.size p3.size) + x by omega] at this
    · obtain rfl := List.mem_singleton.1 hi
      refine op_of_list n3 hS h.2.2 fun a' w' hs' hk => ⟨fun _ => hs', ?_⟩
      have := anyL_planT hlast hs hQ p3 (max p1.size (max p2.size p3.size) - p3.size + x) _ a' w' c3 hs' hk
      rwa [show p3.size + (max p1.size (max p2.size p3.size) - p3.size + x) = max p1.size (max p2.size p3.size) + x by omega] at this
def planTRB (l : List Oper) (lst : Nat) (p : PlanT) : Bool := Region.noSelect l.toArray && lastsB .any l.toArray lst && decide (p.size ≤ l.length) && planTB .any l lst p (Array.replicate l.toArray.size false)
/-- THE REGION, ALONG A PLAN. S0: what every operation but the last keeps of the world. -/
theorem wp_region_plan3 {id : Nat} {a : Act} {w : World} {l : List Oper} (S0 : World → Prop) (p : PlanT) (lst : Nat) (hm : P.follows .mixedOrders = true) (hB : planTRB l lst p = true) (h0 : S0 { w with drawn := w.drawn + 1 })
    (h : ∀ W, S0 W → W = { w with drawn := w.drawn + 1 } → wpPlanT P l (fun w' => ∃ u, w' = hold S0 W u) (NoPanic Q) p a W) : (Code.region id l.toArray true).wp P Q a w := by
  refine wp_region_noPanic (wp_region_any hm ?_)
  simp only [planTRB, Bool.and_eq_true, decide_eq_true_eq] at hB
  obtain ⟨⟨⟨b1, b2⟩, b3⟩, b4⟩ := hB
  have g := anyL_planT (md := .any) (lastsB_spec b2) b1 (fun c a d v w h => h) p (l.length - p.size) _ a _ b4 (hold_of h0) (h _ h0 rfl)
  rw [show p.size + (l.length - p.size) = l.length by omega] at g
  have g4 := wpAnyL_any _ _ _ _ g
  simpa using g4
end
end Go.Seg
namespace Go.Zn
open Go.Can
/-- Where the zone i of a list of sizes begins. -/
def stS (ps : List Z) (i : Nat) : Int := ((ps.take i).map (·.ct)).sum
/-- Sizes and kinds of zones, as a call is given them. -/
structure PS (ps : List Z) : Prop where
  l1 : 1 ≤ ps.length
  l6 : ps.length ≤ 6
  nd : ∀ z ∈ ps, 0 ≤ z.nd ∧ z.nd < 4
  kd : ∀ z ∈ ps, z.kd = 0 ∨ z.kd = 1
  ct : ∀ z ∈ ps, 1 ≤ z.ct
  mn : ∀ z ∈ ps, 0 ≤ z.mn ∧ z.mn ≤ z.ct
  sm : stS ps ps.length ≤ 256
theorem stS_next {ps : List Z} {i : Nat} {p : Z} (h : ps[i]? = some p) : stS ps (i + 1) = stS ps i + p.ct := by
  unfold stS
  rw [List.take_add_one, h]
  simp
theorem stS_nn {ps : List Z} (h : ∀ z ∈ ps, 1 ≤ z.ct) : ∀ i, 0 ≤ stS ps i
  | 0 => by simp [stS]
  | i + 1 => by
    have := stS_nn h i
    cases hp : ps[i]? with
    | none => unfold stS at this ⊢; rw [List.take_add_one, hp]; simpa using this
    | some p => rw [stS_next hp]; have := h p (List.mem_of_getElem? hp); omega
theorem stS_le {ps : List Z} (h : ∀ z ∈ ps, 1 ≤ z.ct) : ∀ {d i : Nat}, stS ps i ≤ stS ps (i + d)
  | 0, i => Int.le_refl _
  | d + 1, i => by
    refine Int.le_trans (stS_le h (d := d) (i := i)) ?_
    rw [← Nat.add_assoc]
    cases hp : ps[i + d]? with
    | none => unfold stS; rw [List.take_add_one, hp]; simp
    | some p => rw [stS_next hp]; have := h p (List.mem_of_getElem? hp); omega
theorem PS.end_le {ps : List Z} (h : PS ps) {i : Nat} {p : Z} (hp : ps[i]? = some p) : stS ps i + p.ct ≤ 256 := by
  have hi : i < ps.length := by rw [List.getElem?_eq_some_iff] at hp; exact hp.1
  rw [← stS_next hp]
  have := stS_le h.ct (d := ps.length - (i + 1)) (i := i + 1)
  rw [show i + 1 + (ps.length - (i + 1)) = ps.length by omega] at this
  exact Int.le_trans this h.sm
/-- A zone as it was asked for, all of it free. -/
def Gd (ps : List Z) (j : Nat) (y : Z) : Prop := ∃ p, ps[j]? = some p ∧ y.nd = p.nd ∧ y.kd = p.kd ∧ y.st = stS ps j ∧ y.ct = p.ct ∧ y.mn = p.mn ∧ Vd y.st y.ct y.fr ∧ ∀ x, Cov (F y.fr) x ↔ inZ y x
theorem Gd.rng {ps : List Z} (hP : PS ps) {j : Nat} {y : Z} (h : Gd ps j y) : Rng y := by
  obtain ⟨p, hp, e1, e2, e3, e4, e5, _, _⟩ := h
  have hm := List.mem_of_getElem? hp
  have h1 := hP.nd p hm; have h2 := hP.kd p hm; have h3 := hP.ct p hm; have h4 := hP.mn p hm
  have h5 := stS_nn hP.ct j; have h6 := hP.end_le hp
  exact ⟨by rw [e1]; exact h1.1, by rw [e1]; exact h1.2, by rw [e2]; exact h2, by rw [e3]; exact h5, by rw [e4]; exact h3, by rw [e3, e4]; exact h6, by rw [e5]; exact h4.1, by rw [e5, e4]; exact h4.2⟩
/-- An allocator in which all frames are free. -/
def nA (nodes : List Int) (bt hi : Nat) (zs : List Z) : A := ⟨nodes, bt, hi, zs, List.replicate nodes.length (List.replicate zs.length [])⟩
theorem nA_lst {nodes : List Int} {bt hi : Nat} {zs : List Z} (c z : Nat) : lst (nA nodes bt hi zs) c z = [] := by
  unfold lst nA
  simp only [List.getD_eq_getElem?_getD, List.getElem?_replicate]
  split
  · simp only [Option.getD_some, List.getElem?_replicate]
    split <;> rfl
  · simp
theorem VA.fresh {nodes : List Int} {bt hi : Nat} {ps zs : List Z} (hP : PS ps) (n0 : 1 ≤ nodes.length) (n4 : nodes.length ≤ 4) (nr : ∀ x ∈ nodes, 0 ≤ x ∧ x < 4) (b1 : 1 ≤ bt) (bh : bt ≤ hi) (h64 : hi ≤ 64) (hl : zs.length = ps.length) (hg : ∀ j y, zs[j]? = some y → Gd ps j y) :
    VA (nA nodes bt hi zs) := by
  have hz : ∀ z, z < zs.length → zs[z]? = some (zn (nA nodes bt hi zs) z) := fun z h => by
    show _ = some (zs.getD z noZ)
    rw [List.getD_eq_getElem?_getD, List.getElem?_eq_getElem h]; rfl
  have hg' : ∀ z, z < zs.length → Gd ps z (zn (nA nodes bt hi zs) z) := fun z h => hg z _ (hz z h)
  refine ⟨n0, n4, nr, b1, bh, h64, by show 1 ≤ zs.length; rw [hl]; exact hP.l1, by show zs.length ≤ 6; rw [hl]; exact hP.l6, fun z h => ?_, ?_, fun z h => ?_, by simp [nA], fun c hc => ?_, fun c z _ _ => by rw [nA_lst]; exact Nat.zero_le _, fun c z _ _ x hx => (by rw [nA_lst] at hx; cases hx), fun c z _ _ => (by rw [nA_lst]; exact List.nodup_nil), fun c d z _ _ _ _ x hx => (by rw [nA_lst] at hx; cases hx)⟩
  · obtain ⟨p, hp, e1, e2, e3, e4, e5, hv, _⟩ := id (hg' z h)
    exact ⟨(hg' z h).rng hP, hv⟩
  · have h0 : 0 < zs.length := by have := hP.l1; omega
    obtain ⟨p, hp, e1, e2, e3, _⟩ := hg' 0 h0
    rw [e3]
    simp [stS]
  · have h : z + 1 < zs.length := h
    obtain ⟨p, hp, e1, e2, e3, _⟩ := hg' (z + 1) h
    obtain ⟨q, hq, d1, d2, d3, d4, _⟩ := hg' z (by omega)
    rw [e3, d3, d4, stS_next hq]
  · have hc : c < nodes.length := by simpa [nA] using hc
    show ((List.replicate nodes.length (List.replicate zs.length [])).getD c []).length = zs.length
    rw [List.getD_eq_getElem?_getD, List.getElem?_replicate, if_pos hc]
    simp
end Go.Zn
namespace Go.Proofs.YtdddkfpcbfgocaaGreat
open Go.RowKit Go.Over Go.Zn Go.Can Go.Seg Go.Grow
section
variable {ops : Array Oper} {rest : List Oper} {d i j : Nat} {ty : TypeId} {pos : String} {af : Array Edge} {a : Act} {w : World} {Q : Exit → Act → World → Prop}
/-- A row of zones is made. -/
theorem wpList_mkZ {n : Nat} (hl : a.eval (.tmp i) = .int .i64 (n : Int)) (h6 : n ≤ 6)
    (hK : ∀ W zc, zc.length = n * 10 → Blk W w.heap.size 102 zc → Below w.heap.size w W → wpList Tryz.prog ops Q rest (a.put (some d) (.slice (some ⟨w.heap.size, 0, none⟩) n n)) W) :
    wpList Tryz.prog ops Q ({ dst := some d, op := .makeSlice 25 (.tmp i) (.tmp i), type := ty, pos := pos, after := af, guard := none } :: rest) a w := by
  have hinfo : (Tryz.prog.info? 102).map (fun i => (i.zero, i.size, i.bytes)) = some (some (.agg #[.int .i64 0, .int .i64 0, .int .i64 0, .int .i64 0, .int .i64 0, .slice none 0 0, .slice none 0 0, .slice none 0 0, .slice none 0 0, .slice none 0 0]), 10, 160) := by kernel_rfl
  obtain ⟨inf, hi, hzz⟩ := Option.map_eq_some_iff.1 hinfo
  simp only [Prod.mk.injEq] at hzz
  obtain ⟨hz, hs, hby⟩ := hzz
  have hr := run_make (P := Tryz.prog) w 25 102 inf (.agg #[.int .i64 0, .int .i64 0, .int .i64 0, .int .i64 0, .int .i64 0, .slice none 0 0, .slice none 0 0, .slice none 0 0, .slice none 0 0, .slice none 0 0]) Tryz.underlying25 hi hz .i64 .i64 (n : Int) (n : Int) (by omega) (by omega) (by rw [hby]; omega) (by omega)
  simp only [Int.toNat_natCast, hs] at hr
  refine wpList_plain rfl fun K hK' => ?_
  unfold Oper.wp
  simp only [execOp, hl, Sem.run_bind, hr, Result.andThen_ok, Sem.run_pure]
  exact hK' _ _ (hK _ (madeCells (Value.agg #[.int .i64 0, .int .i64 0, .int .i64 0, .int .i64 0, .int .i64 0, .slice none 0 0, .slice none 0 0, .slice none 0 0, .slice none 0 0, .slice none 0 0]).cells (n * 10)).toList (by rw [Array.length_toList, size_madeCells]) (Blk.new _ _ _ _ (by rw [Array.toArray_toList])) (below_box _ _))
/-- An allocator under way is stored, and loaded. -/
theorem stG {g : Nat} {cs zs : List Value} (hx : a.eval (.tmp i) = .pointer (some ⟨g, 0, none⟩)) (hy : a.eval (.tmp j) = .agg cs.toArray) (hB : Blk w g 28 zs) (hz : zs.length = 5) (hl : cs.length = 5) (h1 : ∀ v ∈ cs, v.oneCell' = true)
    (h : ∀ W, Blk W g 28 cs → w.grownBy W (some g) → wpList Tryz.prog ops Q rest (a.put none undef) W) :
    wpList Tryz.prog ops Q ({ dst := none, op := .store 28 (.tmp i) (.tmp j), type := ty, pos := pos, after := af, guard := none } :: rest) a w := by
  have e : lay zs 0 cs = cs := by
    unfold lay
    rw [hl, List.take_zero, List.nil_append, List.drop_eq_nil_of_le (by omega), List.append_nil]
  refine wpList_store_part (cs := cs) (by rw [infoA, hl]) hx hy hB (by rw [hz, hl]; exact Nat.le_refl _) h1 fun W q1 q2 => h W (by rw [← e]; exact q1) q2
theorem ldG {g : Nat} {cs : List Value} (hx : a.eval (.tmp i) = .pointer (some ⟨g, 0, none⟩)) (hB : Blk w g 28 cs) (hl : cs.length = 5) (h : wpList Tryz.prog ops Q rest (a.put (some d) (.agg cs.toArray)) w) :
    wpList Tryz.prog ops Q ({ dst := some d, op := .load 28 (.tmp i), type := ty, pos := pos, after := af, guard := none } :: rest) a w :=
  wpList_load_row rfl 28 (.tmp i) rfl g hx 28 cs.toArray (0, 0) _ hB Tryz.underlying28 rfl (by rw [infoA]; simp [hl]) h
end
/-- The cells of an allocator under way. -/
def nC (v : Value) (bt hi bz n : Nat) (u : Value) : List Value := [v, .int .i64 bt, .int .i64 hi, .slice (some ⟨bz, 0, none⟩) n n, u]
/-- What a call is given of the zones. -/
structure SV (w : World) (b : Nat) (pc : List Value) (ps : List Z) : Prop where
  x : Blk w b 56 pc
  row : ∀ (i : Nat) (z : Z), ps[i]? = some z → pc[i * 4]? = some (.int .i64 z.nd) ∧ pc[i * 4 + 1]? = some (.int .i64 z.kd) ∧ pc[i * 4 + 2]? = some (.int .i64 z.ct) ∧ pc[i * 4 + 3]? = some (.int .i64 z.mn)
theorem SV.below {w w' : World} {b : Nat} {pc : List Value} {ps : List Z} (h : SV w b pc ps) (hb : Below w.heap.size w w') : SV w' b pc ps := ⟨h.x.later hb, h.row⟩
/-- What New gives. -/
def NewQ (w : World) (nodes : List Int) (bt hi : Nat) (ps : List Z) (e : Ending) (w' : World) : Prop :=
  ∃ v a, e = .returned (.tuple #[v, .int .i64 0]) ∧ Ra w' v a ∧ VA a ∧ Below w.heap.size w w' ∧ a.nodes = nodes ∧ a.bt = bt ∧ a.hi = hi ∧ a.zs.length = ps.length ∧
    (∀ i p, ps[i]? = some p → (zn a i).nd = p.nd ∧ (zn a i).kd = p.kd ∧ (zn a i).st = stS ps i ∧ (zn a i).ct = p.ct ∧ (zn a i).mn = p.mn) ∧
    (∀ i x, i < ps.length → inZ (zn a i) x → Cov (F (zn a i).fr) x) ∧ ∀ c z, lst a c z = []
/-- What a call of New keeps of its world. -/
structure NX (w : World) (gr : Nat) (vn : Value) (nodes : List Int) (b : Nat) (pc : List Value) (ps : List Z) (W : World) : Prop where
  bl : Below w.heap.size w W
  z : Blk W gr 28 nilA
  n : Sl W vn nodes
  s : SV W b pc ps
theorem NX.below {w W W' : World} {gr b : Nat} {vn : Value} {nodes : List Int} {pc : List Value} {ps : List Z} (h : NX w gr vn nodes b pc ps W) (hb : Below W.heap.size W W') : NX w gr vn nodes b pc ps W' :=
  ⟨below_then h.bl hb, h.z.later hb, h.n.below hb, h.s.below hb⟩
theorem NX.grown {w W W' : World} {gr gp b : Nat} {vn : Value} {nodes : List Int} {pc cs : List Value} {ps : List Z} (h : NX w gr vn nodes b pc ps W) (hB : Blk W gp 28 cs) (hg : W.grownBy W' (some gp)) (hne : gr ≠ gp) (hl : w.heap.size ≤ gp) : NX w gr vn nodes b pc ps W' :=
  ⟨h.bl.grown hg h.bl.size (fun q hq => by cases hq; exact hl), h.z.grown hg (by simpa using Ne.symm hne), h.n.grown hB (by decide) hg, ⟨h.s.x.grown hg (by simpa using hB.ne_type h.s.x (by decide)), h.s.row⟩⟩
/-- The allocator that New makes, under way. -/
structure NG (w : World) (gp gr bz : Nat) (v u : Value) (bt hi n : Nat) (zc : List Value) (vn : Value) (nodes : List Int) (b : Nat) (pc : List Value) (ps : List Z) (W : World) : Prop where
  lp : w.heap.size ≤ gp
  lz : w.heap.size ≤ bz
  ne : gr ≠ gp
  lr : w.heap.size ≤ gr
  X : NX w gr vn nodes b pc ps W
  B : Blk W gp 28 (nC v bt hi bz n u)
  M : Blk W bz 102 zc
  L : zc.length = n * 10
  N : Sl W v nodes
section
variable {w W W' : World} {gp gr bz bt hi n b : Nat} {v u vn : Value} {nodes : List Int} {zc pc : List Value} {ps : List Z}
theorem NG.below (h : NG w gp gr bz v u bt hi n zc vn nodes b pc ps W) (hb : Below W.heap.size W W') : NG w gp gr bz v u bt hi n zc vn nodes b pc ps W' :=
  ⟨h.lp, h.lz, h.ne, h.lr, h.X.below hb, h.B.later hb, h.M.later hb, h.L, h.N.below hb⟩
theorem NG.c3 (h : NG w gp gr bz v u bt hi n zc vn nodes b pc ps W) : W.cell? ⟨gp, 3, none⟩ = some (.slice (some ⟨bz, 0, none⟩) n n) := by rw [h.B.cell]; rfl
theorem NG.c4 (h : NG w gp gr bz v u bt hi n zc vn nodes b pc ps W) : W.cell? ⟨gp, 4, none⟩ = some u := by rw [h.B.cell]; rfl
theorem NG.past (h : NG w gp gr bz v u bt hi n zc vn nodes b pc ps W) (hb : Below w.heap.size w W') (kp : ∀ {q t : Nat} {bs : List Value}, t ≠ 93 → Blk W q t bs → Blk W' q t bs) : NG w gp gr bz v u bt hi n zc vn nodes b pc ps W' :=
  ⟨h.lp, h.lz, h.ne, h.lr, ⟨hb, kp (by decide) h.X.z, h.X.n.past fun _ _ => kp (by decide), ⟨kp (by decide) h.X.s.x, h.X.s.row⟩⟩, kp (by decide) h.B, kp (by decide) h.M, h.L, h.N.past fun _ _ => kp (by decide)⟩
theorem NG.zset {zc' : List Value} (h : NG w gp gr bz v u bt hi n zc vn nodes b pc ps W) (hB : Blk W' bz 102 zc') (hg : W.grownBy W' (some bz)) (hl : zc'.length = n * 10) : NG w gp gr bz v u bt hi n zc' vn nodes b pc ps W' := by
  have kp : ∀ {q t : Nat} {bs : List Value}, t ≠ 102 → Blk W q t bs → Blk W' q t bs := fun ht hq => hq.grown hg (by simpa using Ne.symm (hq.ne_type h.M ht))
  exact ⟨h.lp, h.lz, h.ne, h.lr, ⟨h.X.bl.grown hg h.X.bl.size (fun q hq => by cases hq; exact h.lz), kp (by decide) h.X.z, h.X.n.past fun _ _ => kp (by decide), ⟨kp (by decide) h.X.s.x, h.X.s.row⟩⟩, kp (by decide) h.B, hB, hl, h.N.past fun _ _ => kp (by decide)⟩
theorem NG.cset {u' : Value} (h : NG w gp gr bz v u bt hi n zc vn nodes b pc ps W) : NG w gp gr bz v u' bt hi n zc vn nodes b pc ps (W.setCell ⟨gp, 4, none⟩ u') := by
  have kp : ∀ {q t : Nat} {bs : List Value}, t ≠ 28 → Blk W q t bs → Blk (W.setCell ⟨gp, 4, none⟩ u') q t bs := fun ht hq => hq.far (p := ⟨gp, 4, none⟩) (hq.ne_type h.B ht) u'
  exact ⟨h.lp, h.lz, h.ne, h.lr, ⟨h.X.bl.setCell (p := ⟨gp, 4, none⟩) h.lp u', h.X.z.far (p := ⟨gp, 4, none⟩) h.ne u', h.X.n.past fun _ _ => kp (by decide), ⟨kp (by decide) h.X.s.x, h.X.s.row⟩⟩, h.B.set 4 u', kp (by decide) h.M, h.L, h.N.past fun _ _ => kp (by decide)⟩
theorem own_far {base e size k : Nat} {y : Value} {xs : List Value} {g t : Nat} {bs : List Value} (h : W.ownsRow base e size y k xs) (hB : Blk W g t bs) (ht : e ≠ t) (hg : W.grownBy W' (some g)) : W'.ownsRow base e size y k xs := by
  refine ⟨h.1, ?_⟩
  rcases h.2 with h2 | ⟨g', cap, cur, h1, h2, h3, h4⟩
  · exact .inl h2
  · have hc : Blk W g' e cur.toList := by unfold Blk; simpa using h3
    have hc' := hc.grown hg (by simpa using Ne.symm (hc.ne_type hB ht))
    exact .inr ⟨g', cap, cur, h1, h2, by unfold Blk at hc'; simpa using hc', h4⟩
theorem Lc.past {y : Value} {L : List (List Int)} (h : Lc W y L) (hk : ∀ b bs, Blk W b 3 bs → Blk W' b 3 bs) (hi : ∀ b bs, Blk W b 24 bs → Blk W' b 24 bs) : Lc W' y L := by
  obtain ⟨b', c', bs, h2, h3, h4, h5⟩ := h
  exact ⟨b', c', bs, h2, h3, h4, hi b' bs h5.x, h5.n, fun i l hl => by obtain ⟨u, q1, q2⟩ := h5.row i l hl; exact ⟨u, q1, q2.past hk⟩⟩
/-- A zone is put behind those that lie in a block. -/
theorem QV.snoc {zs : List Z} {cs : List Value} {i : Nat} {y : Z} (h : QV W bz zc zs) (hl : zs.length = i) (hfit : i * 10 + 10 ≤ zc.length) (hcs : ZV W cs y) (hB : Blk W' bz 102 (lay zc (i * 10) cs)) (hg : W.grownBy W' (some bz)) : QV W' bz (lay zc (i * 10) cs) (zs ++ [y]) := by
  have kp : ∀ {q t : Nat} {bs : List Value}, t ≠ 102 → Blk W q t bs → Blk W' q t bs := fun ht hq => hq.grown hg (by simpa using Ne.symm (hq.ne_type h.x ht))
  have hf : i * 10 + cs.length ≤ zc.length := by rw [hcs.len]; exact hfit
  refine ⟨hB, by rw [lay_len hf, List.length_append, hl]; simp; omega, fun j z hz => ?_⟩
  rcases Nat.lt_or_ge j i with hj | hj
  · rw [List.getElem?_append_left (by omega)] at hz
    rw [lay_other hf (.inl (by omega))]
    exact (h.row j z hz).past fun _ _ => kp (by decide)
  · rw [List.getElem?_append_right (by omega), hl] at hz
    have hji : j = i := by
      have := lt_of hz
      simp at this
      omega
    subst hji
    rw [Nat.sub_self] at hz
    cases hz
    have := lay_same hf
    rw [hcs.len] at this
    rw [this]
    exact hcs.past fun _ _ => kp (by decide)
end
theorem infoSp : (Tryz.prog.info? 56).map (·.size) = some 4 := by kernel_rfl
def spC (p : Z) : List Value := [.int .i64 p.nd, .int .i64 p.kd, .int .i64 p.ct, .int .i64 p.mn]
def sp0 : List Value := [.int .i64 0, .int .i64 0, .int .i64 0, .int .i64 0]
section
variable {ops : Array Oper} {rest : List Oper} {d i j : Nat} {ty : TypeId} {pos : String} {af : Array Edge} {a : Act} {w : World} {Q : Exit → Act → World → Prop}
theorem ldSp {b k : Nat} {pc : List Value} {ps : List Z} {p : Z} (hx : a.eval (.tmp i) = .pointer (some ⟨b, k * 4, none⟩)) (h : SV w b pc ps) (hp : ps[k]? = some p) (hK : wpList Tryz.prog ops Q rest (a.put (some d) (.agg (spC p).toArray)) w) :
    wpList Tryz.prog ops Q ({ dst := some d, op := .load 56 (.tmp i), type := ty, pos := pos, after := af, guard := none } :: rest) a w := by
  obtain ⟨p0, p1, p2, p3⟩ := h.row k p hp
  refine wpList_load_part (cs := spC p) Tryz.underlying56 rfl (by rw [infoSp]; rfl) hx h.x (fun j v hj => ?_) hK
  match j, hj with
  | 0, hj => cases hj; exact p0
  | 1, hj => cases hj; exact p1
  | 2, hj => cases hj; exact p2
  | 3, hj => cases hj; exact p3
  | j + 4, hj => simp [spC] at hj
theorem stSp {g : Nat} {p : Z} {zs : List Value} (hx : a.eval (.tmp i) = .pointer (some ⟨g, 0, none⟩)) (hy : a.eval (.tmp j) = .agg (spC p).toArray) (hB : Blk w g 56 zs) (hz : zs.length = 4)
    (h : ∀ W, Blk W g 56 (spC p) → w.grownBy W (some g) → wpList Tryz.prog ops Q rest (a.put none undef) W) :
    wpList Tryz.prog ops Q ({ dst := none, op := .store 56 (.tmp i) (.tmp j), type := ty, pos := pos, after := af, guard := none } :: rest) a w := by
  have e : lay zs 0 (spC p) = spC p := by
    have hl : (spC p).length = 4 := rfl
    unfold lay
    rw [hl, List.take_zero, List.nil_append, List.drop_eq_nil_of_le (by omega), List.append_nil]
  refine wpList_store_part (cs := spC p) (by rw [infoSp]; rfl) hx hy hB (by rw [hz]; exact Nat.le_refl _) ?_ fun W q1 q2 => h W (by rw [← e]; exact q1) q2
  intro u hu
  simp [spC] at hu
  rcases hu with rfl | rfl | rfl | rfl <;> rfl
/-- A zone is stored into a row of zones. -/
theorem stQ {bz k : Nat} {zc cs : List Value} (hx : a.eval (.tmp i) = .pointer (some ⟨bz, k * 10, none⟩)) (hy : a.eval (.tmp j) = .agg cs.toArray) (hB : Blk w bz 102 zc) (hl : cs.length = 10) (hfit : k * 10 + 10 ≤ zc.length) (h1 : ∀ v ∈ cs, v.oneCell' = true)
    (h : ∀ W, Blk W bz 102 (lay zc (k * 10) cs) → w.grownBy W (some bz) → wpList Tryz.prog ops Q rest (a.put none undef) W) :
    wpList Tryz.prog ops Q ({ dst := none, op := .store 102 (.tmp i) (.tmp j), type := ty, pos := pos, after := af, guard := none } :: rest) a w :=
  wpList_store_part (cs := cs) (by rw [infoZ, hl]) hx hy hB (by rw [hl]; exact hfit) h1 h
/-- One cache is appended to a row of a call's own. -/
theorem wpList_appC {base b n : Nat} {v x : Value} {l : List Value} (hs : a.eval (.tmp i) = v) (hx : a.eval (.tmp j) = .slice (some ⟨b, 0, none⟩) 1 1) (hO : w.ownsRow base 93 1 v n l) (hB : Blk w b 93 [x]) (h1 : x.oneCell' = true) (hl : n ≤ 900000) (hb : base ≤ w.heap.size)
    (h : ∀ v' w', w'.ownsRow base 93 1 v' (n + 1) (l ++ [x]) → w.grownBy w' v.ownBlock → wpList Tryz.prog ops Q rest (a.put (some d) v') w') :
    wpList Tryz.prog ops Q ({ dst := some d, op := .call { callee := .builtin .append, args := #[.tmp i, .tmp j], argTypes := #[26, 26] }, type := ty, pos := pos, after := af, guard := none } :: rest) a w := by
  refine wpList_append_k KC rfl (.tmp i) (.tmp j) rfl v n l hs hO (some ⟨b, 0, none⟩) 1 1 [x] hx ⟨rfl, by simpa using h1, .inr ⟨_, rfl, fun k u hk => ?_⟩⟩ (by omega) hb fun v' w' q1 q2 _ => h v' w' q1 q2
  rw [add_off, Nat.zero_add, hB.cell]; exact hk
end
end Go.Proofs.YtdddkfpcbfgocaaGreat
namespace Go.Proofs.YtdddkfpcbfgocaaGreat
open Go.RowKit Go.Over Go.Zn Go.Can Go.Seg Go.Grow
set_option maxRecDepth 100000 in set_option maxHeartbeats 3200000 in
theorem newA (vn : Value) (nodes : List Int) (bt hi b n c : Nat) (pc : List Value) (ps : List Z) (w : World) (hN : Sl w vn nodes) (n0 : 1 ≤ nodes.length) (n4 : nodes.length ≤ 4) (nr : ∀ x ∈ nodes, 0 ≤ x ∧ x < 4) (b1 : 1 ≤ bt) (bh : bt ≤ hi) (h64 : hi ≤ 64) (hS : SV w b pc ps) (hn : ps.length = n) (hP : PS ps) :
    Calls Tryz.prog 12 #[vn, .int .i64 bt, .int .i64 hi, .slice (some ⟨b, 0, none⟩) n c] w (NewQ w nodes bt hi ps) := by
  have h6 : n ≤ 6 := by rw [← hn]; exact hP.l6
  have b0 := below_box w (.cells #[.slice none 0 0, .int .i64 0, .int .i64 0, .slice none 0 0, .slice none 0 0] 28)
  have Z0 := Blk.new w 28 #[.slice none 0 0, .int .i64 0, .int .i64 0, .slice none 0 0, .slice none 0 0] nilA rfl
  have N0 := hN.below b0
  have S0 := hS.below b0
  have HP := Lib.hid hP; have HN := Lib.hid hn
  clear hN hS hP hn
  go_enter Tryz.func12, Tryz.ntmps12
  go_upto_region 1 with fail
  obtain ⟨w1, hw1⟩ : ∃ W, W = w.alloc (.cells #[.slice none 0 0, .int .i64 0, .int .i64 0, .slice none 0 0, .slice none 0 0] 28) := ⟨_, rfl⟩
  rw [← hw1] at b0 Z0 N0 S0 ⊢
  obtain ⟨gr, hgr⟩ : ∃ g, w.heap.size = g := ⟨_, rfl⟩
  rw [hgr] at Z0 ⊢
  obtain ⟨av, cv, rfl, _⟩ := id N0
  have X0 : NX w gr (.slice av nodes.length cv) nodes b pc ps w1 := ⟨b0, Z0, N0, S0⟩
  have hlr : w.heap.size ≤ gr := by omega
  obtain ⟨nn, hnn⟩ : ∃ n, nodes.length = n := ⟨_, rfl⟩
  rw [hnn] at X0 n0 n4 ⊢
  have HNN := Lib.hid hnn
  clear b0 Z0 N0 S0 hnn hw1 hgr
  go_cut [10] from 18 (fun v10 wr => ∃ (gp bz c1 : Nat) (a1 : Option Addr) (zc : List Value), v10 = .pointer (some ⟨gp, 0, none⟩) ∧ NG w gp gr bz (.slice a1 nn c1) (.slice none 0 0) bt hi n zc (.slice av nn cv) nodes b pc ps wr)
  case first =>
    refine wp_region_plan3 (fun _ => True) (.quiet [0, 2, 3, 4, 5] (.fork3 1 (.fork 6 (.quiet [7] (.only 8 (.only 9 .done))) 8 (.only 6 (.quiet [7] (.only 9 .done)))) 6 (.fork 1 (.quiet [7] (.only 8 (.only 9 .done))) 8 (.only 1 (.quiet [7] (.only 9 .done)))) 8 (.fork 1 (.only 6 (.quiet [7] (.only 9 .done))) 6 (.only 1 (.quiet [7] (.only 9 .done)))))) 99 (by kernel_rfl) (by kernel_rfl) trivial ?_
    intro W1 _ hWe
    have bW : Below w1.heap.size w1 W1 := by rw [hWe]; exact (Below.refl _ _).drew
    clear hWe
    have X1 := X0.below bW
    clear X0 bW
    simp only [wpPlanT, inOrder, List.filterMap_cons, List.filterMap_nil, List.getElem?_cons_zero, List.getElem?_cons_succ]
    show wpQuiet _ _ _ _ (_ :: _ :: _ :: _ :: [_]) _
    repeat (go_big_quiet_step (fail))
    refine wpQuiet_nil ?_
    refine ⟨?_, ?_, ?_⟩
    · skip
      show wpList _ _ _ [_] _ _
      go_wp2_with fail
      refine (clone (.slice av nn cv) nodes W1 X1.n (by rw [HNN.out]; omega)).mono ?_
      rintro e W2 ⟨v1, rfl, O1, bC⟩
      obtain ⟨a1, c1, hv1, _⟩ := own_form O1
      rw [HNN.out] at hv1
      subst hv1
      have X2 := X1.below bC
      go_wp2
      refine ⟨hold_of (S0 := fun _ => True) trivial, ?_⟩
      refine ⟨?_, ?_⟩
      · skip
        show wpList _ _ _ [_] _ _
        go_wp2_with ((with_reducible refine wpList_mkZ ?_ h6 ?_); (focus rfl); intro W3 zc hzc M1 bM)
        obtain ⟨bz, hbz⟩ : ∃ g, W2.heap.size = g := ⟨_, rfl⟩
        rw [hbz] at M1 ⊢
        have hlz : w.heap.size ≤ bz := by rw [← hbz]; exact X2.bl.size
        clear hbz
        have X3 := X2.below bM
        refine ⟨hold_of (S0 := fun _ => True) trivial, ?_⟩
        simp only [Act.put, List.setIfInBounds_toArray, List.set_cons_succ, List.set_cons_zero]
        have O1 := O1.later bM
        show wpQuiet _ _ _ _ [_] _
        repeat (go_big_quiet_step (fail))
        refine wpQuiet_nil ?_
        show wpList _ _ _ [_] _ _
        have A1 := Blk.new W3 28 #[.slice none 0 0, .int .i64 0, .int .i64 0, .slice none 0 0, .slice none 0 0] nilA rfl
        have bA := below_box W3 (.cells #[.slice none 0 0, .int .i64 0, .int .i64 0, .slice none 0 0, .slice none 0 0] 28)
        have X4 := X3.below bA
        go_wp2
        refine ⟨hold_of (S0 := fun _ => True) trivial, ?_⟩
        obtain ⟨W4, hwA⟩ : ∃ U, U = W3.alloc (.cells #[.slice none 0 0, .int .i64 0, .int .i64 0, .slice none 0 0, .slice none 0 0] 28) := ⟨_, rfl⟩
        obtain ⟨gp, hgp⟩ : ∃ g, W3.heap.size = g := ⟨_, rfl⟩
        rw [← hwA] at A1 bA X4 ⊢
        rw [hgp] at A1 ⊢
        have hlp : w.heap.size ≤ gp := by rw [← hgp]; exact X3.bl.size
        have hpr : gr ≠ gp := by have := X3.z.lt; omega
        clear hwA hgp
        have O1 := O1.later bA
        have M1 := M1.later bA
        have NS := O1.sl
        have hC1 : ∀ u ∈ nC (.slice a1 nn c1) bt hi bz n (.slice none 0 0), u.oneCell' = true := by
          intro u hu; simp [nC] at hu; rcases hu with rfl | rfl | rfl | rfl | rfl <;> rfl
        have hCl : (nC (.slice a1 nn c1) bt hi bz n (.slice none 0 0)).length = 5 := rfl
        clear O1
        show wpList _ _ _ [_] _ _
        go_wp2_with ((with_reducible refine stG (cs := nC (.slice a1 nn c1) bt hi bz n (.slice none 0 0)) ?_ ?_ A1 rfl hCl hC1 ?_); (focus rfl); (focus rfl); intro w5 hB5 hg5)
        have X5 := X4.grown A1 hg5 hpr hlp
        have M5 := M1.grown hg5 (by simpa using A1.ne_type M1 (by decide))
        have N5 := NS.grown A1 (by decide) hg5
        clear X4 A1 M1 NS hg5
        refine ⟨hold_of (S0 := fun _ => True) trivial, NoPanic.normal ?_⟩
        go_wp2
        go_meet
        case rel => exact ⟨gp, bz, c1, a1, zc, rfl, hlp, hlz, hpr, hlr, X5, hB5, M5, hzc, by rw [← HNN.out] at N5 ⊢; exact N5⟩
      · skip
        show wpList _ _ _ [_] _ _
        have A1 := Blk.new W2 28 #[.slice none 0 0, .int .i64 0, .int .i64 0, .slice none 0 0, .slice none 0 0] nilA rfl
        have bA := below_box W2 (.cells #[.slice none 0 0, .int .i64 0, .int .i64 0, .slice none 0 0, .slice none 0 0] 28)
        have X3 := X2.below bA
        go_wp2
        refine ⟨hold_of (S0 := fun _ => True) trivial, ?_⟩
        obtain ⟨W3, hwA⟩ : ∃ U, U = W2.alloc (.cells #[.slice none 0 0, .int .i64 0, .int .i64 0, .slice none 0 0, .slice none 0 0] 28) := ⟨_, rfl⟩
        obtain ⟨gp, hgp⟩ : ∃ g, W2.heap.size = g := ⟨_, rfl⟩
        rw [← hwA] at A1 bA X3 ⊢
        rw [hgp] at A1 ⊢
        have hlp : w.heap.size ≤ gp := by rw [← hgp]; exact X2.bl.size
        have hpr : gr ≠ gp := by have := X2.z.lt; omega
        clear hwA hgp
        have O1 := O1.later bA
        show wpList _ _ _ [_] _ _
        go_wp2_with ((with_reducible refine wpList_mkZ ?_ h6 ?_); (focus rfl); intro W4 zc hzc M1 bM)
        obtain ⟨bz, hbz⟩ : ∃ g, W3.heap.size = g := ⟨_, rfl⟩
        rw [hbz] at M1 ⊢
        have hlz : w.heap.size ≤ bz := by rw [← hbz]; exact X3.bl.size
        clear hbz
        have X4 := X3.below bM
        refine ⟨hold_of (S0 := fun _ => True) trivial, ?_⟩
        simp only [Act.put, List.setIfInBounds_toArray, List.set_cons_succ, List.set_cons_zero]
        have O1 := O1.later bM
        have A1 := A1.later bM
        show wpQuiet _ _ _ _ [_] _
        repeat (go_big_quiet_step (fail))
        refine wpQuiet_nil ?_
        have NS := O1.sl
        have hC1 : ∀ u ∈ nC (.slice a1 nn c1) bt hi bz n (.slice none 0 0), u.oneCell' = true := by
          intro u hu; simp [nC] at hu; rcases hu with rfl | rfl | rfl | rfl | rfl <;> rfl
        have hCl : (nC (.slice a1 nn c1) bt hi bz n (.slice none 0 0)).length = 5 := rfl
        clear O1
        show wpList _ _ _ [_] _ _
        go_wp2_with ((with_reducible refine stG (cs := nC (.slice a1 nn c1) bt hi bz n (.slice none 0 0)) ?_ ?_ A1 rfl hCl hC1 ?_); (focus rfl); (focus rfl); intro w5 hB5 hg5)
        have X5 := X4.grown A1 hg5 hpr hlp
        have M5 := M1.grown hg5 (by simpa using A1.ne_type M1 (by decide))
        have N5 := NS.grown A1 (by decide) hg5
        clear X4 A1 M1 NS hg5
        refine ⟨hold_of (S0 := fun _ => True) trivial, NoPanic.normal ?_⟩
        go_wp2
        go_meet
        case rel => exact ⟨gp, bz, c1, a1, zc, rfl, hlp, hlz, hpr, hlr, X5, hB5, M5, hzc, by rw [← HNN.out] at N5 ⊢; exact N5⟩
    · skip
      show wpList _ _ _ [_] _ _
      go_wp2_with ((with_reducible refine wpList_mkZ ?_ h6 ?_); (focus rfl); intro W2 zc hzc M1 bM)
      obtain ⟨bz, hbz⟩ : ∃ g, W1.heap.size = g := ⟨_, rfl⟩
      rw [hbz] at M1 ⊢
      have hlz : w.heap.size ≤ bz := by rw [← hbz]; exact X1.bl.size
      clear hbz
      have X2 := X1.below bM
      refine ⟨hold_of (S0 := fun _ => True) trivial, ?_⟩
      simp only [Act.put, List.setIfInBounds_toArray, List.set_cons_succ, List.set_cons_zero]
      refine ⟨?_, ?_⟩
      · skip
        show wpList _ _ _ [_] _ _
        go_wp2_with fail
        refine (clone (.slice av nn cv) nodes W2 X2.n (by rw [HNN.out]; omega)).mono ?_
        rintro e W3 ⟨v1, rfl, O1, bC⟩
        obtain ⟨a1, c1, hv1, _⟩ := own_form O1
        rw [HNN.out] at hv1
        subst hv1
        have X3 := X2.below bC
        go_wp2
        refine ⟨hold_of (S0 := fun _ => True) trivial, ?_⟩
        have M1 := M1.later bC
        show wpQuiet _ _ _ _ [_] _
        repeat (go_big_quiet_step (fail))
        refine wpQuiet_nil ?_
        show wpList _ _ _ [_] _ _
        have A1 := Blk.new W3 28 #[.slice none 0 0, .int .i64 0, .int .i64 0, .slice none 0 0, .slice none 0 0] nilA rfl
        have bA := below_box W3 (.cells #[.slice none 0 0, .int .i64 0, .int .i64 0, .slice none 0 0, .slice none 0 0] 28)
        have X4 := X3.below bA
        go_wp2
        refine ⟨hold_of (S0 := fun _ => True) trivial, ?_⟩
        obtain ⟨W4, hwA⟩ : ∃ U, U = W3.alloc (.cells #[.slice none 0 0, .int .i64 0, .int .i64 0, .slice none 0 0, .slice none 0 0] 28) := ⟨_, rfl⟩
        obtain ⟨gp, hgp⟩ : ∃ g, W3.heap.size = g := ⟨_, rfl⟩
        rw [← hwA] at A1 bA X4 ⊢
        rw [hgp] at A1 ⊢
        have hlp : w.heap.size ≤ gp := by rw [← hgp]; exact X3.bl.size
        have hpr : gr ≠ gp := by have := X3.z.lt; omega
        clear hwA hgp
        have M1 := M1.later bA
        have O1 := O1.later bA
        have NS := O1.sl
        have hC1 : ∀ u ∈ nC (.slice a1 nn c1) bt hi bz n (.slice none 0 0), u.oneCell' = true := by
          intro u hu; simp [nC] at hu; rcases hu with rfl | rfl | rfl | rfl | rfl <;> rfl
        have hCl : (nC (.slice a1 nn c1) bt hi bz n (.slice none 0 0)).length = 5 := rfl
        clear O1
        show wpList _ _ _ [_] _ _
        go_wp2_with ((with_reducible refine stG (cs := nC (.slice a1 nn c1) bt hi bz n (.slice none 0 0)) ?_ ?_ A1 rfl hCl hC1 ?_); (focus rfl); (focus rfl); intro w5 hB5 hg5)
        have X5 := X4.grown A1 hg5 hpr hlp
        have M5 := M1.grown hg5 (by simpa using A1.ne_type M1 (by decide))
        have N5 := NS.grown A1 (by decide) hg5
        clear X4 A1 M1 NS hg5
        refine ⟨hold_of (S0 := fun _ => True) trivial, NoPanic.normal ?_⟩
        go_wp2
        go_meet
        case rel => exact ⟨gp, bz, c1, a1, zc, rfl, hlp, hlz, hpr, hlr, X5, hB5, M5, hzc, by rw [← HNN.out] at N5 ⊢; exact N5⟩
      · skip
        show wpList _ _ _ [_] _ _
        have A1 := Blk.new W2 28 #[.slice none 0 0, .int .i64 0, .int .i64 0, .slice none 0 0, .slice none 0 0] nilA rfl
        have bA := below_box W2 (.cells #[.slice none 0 0, .int .i64 0, .int .i64 0, .slice none 0 0, .slice none 0 0] 28)
        have X3 := X2.below bA
        go_wp2
        refine ⟨hold_of (S0 := fun _ => True) trivial, ?_⟩
        obtain ⟨W3, hwA⟩ : ∃ U, U = W2.alloc (.cells #[.slice none 0 0, .int .i64 0, .int .i64 0, .slice none 0 0, .slice none 0 0] 28) := ⟨_, rfl⟩
        obtain ⟨gp, hgp⟩ : ∃ g, W2.heap.size = g := ⟨_, rfl⟩
        rw [← hwA] at A1 bA X3 ⊢
        rw [hgp] at A1 ⊢
        have hlp : w.heap.size ≤ gp := by rw [← hgp]; exact X2.bl.size
        have hpr : gr ≠ gp := by have := X2.z.lt; omega
        clear hwA hgp
        have M1 := M1.later bA
        show wpList _ _ _ [_] _ _
        go_wp2_with fail
        refine (clone (.slice av nn cv) nodes W3 X3.n (by rw [HNN.out]; omega)).mono ?_
        rintro e W4 ⟨v1, rfl, O1, bC⟩
        obtain ⟨a1, c1, hv1, _⟩ := own_form O1
        rw [HNN.out] at hv1
        subst hv1
        have X4 := X3.below bC
        go_wp2
        refine ⟨hold_of (S0 := fun _ => True) trivial, ?_⟩
        have M1 := M1.later bC
        have A1 := A1.later bC
        show wpQuiet _ _ _ _ [_] _
        repeat (go_big_quiet_step (fail))
        refine wpQuiet_nil ?_
        have NS := O1.sl
        have hC1 : ∀ u ∈ nC (.slice a1 nn c1) bt hi bz n (.slice none 0 0), u.oneCell' = true := by
          intro u hu; simp [nC] at hu; rcases hu with rfl | rfl | rfl | rfl | rfl <;> rfl
        have hCl : (nC (.slice a1 nn c1) bt hi bz n (.slice none 0 0)).length = 5 := rfl
        clear O1
        show wpList _ _ _ [_] _ _
        go_wp2_with ((with_reducible refine stG (cs := nC (.slice a1 nn c1) bt hi bz n (.slice none 0 0)) ?_ ?_ A1 rfl hCl hC1 ?_); (focus rfl); (focus rfl); intro w5 hB5 hg5)
        have X5 := X4.grown A1 hg5 hpr hlp
        have M5 := M1.grown hg5 (by simpa using A1.ne_type M1 (by decide))
        have N5 := NS.grown A1 (by decide) hg5
        clear X4 A1 M1 NS hg5
        refine ⟨hold_of (S0 := fun _ => True) trivial, NoPanic.normal ?_⟩
        go_wp2
        go_meet
        case rel => exact ⟨gp, bz, c1, a1, zc, rfl, hlp, hlz, hpr, hlr, X5, hB5, M5, hzc, by rw [← HNN.out] at N5 ⊢; exact N5⟩
    · skip
      show wpList _ _ _ [_] _ _
      have A1 := Blk.new W1 28 #[.slice none 0 0, .int .i64 0, .int .i64 0, .slice none 0 0, .slice none 0 0] nilA rfl
      have bA := below_box W1 (.cells #[.slice none 0 0, .int .i64 0, .int .i64 0, .slice none 0 0, .slice none 0 0] 28)
      have X2 := X1.below bA
      go_wp2
      refine ⟨hold_of (S0 := fun _ => True) trivial, ?_⟩
      obtain ⟨W2, hwA⟩ : ∃ U, U = W1.alloc (.cells #[.slice none 0 0, .int .i64 0, .int .i64 0, .slice none 0 0, .slice none 0 0] 28) := ⟨_, rfl⟩
      obtain ⟨gp, hgp⟩ : ∃ g, W1.heap.size = g := ⟨_, rfl⟩
      rw [← hwA] at A1 bA X2 ⊢
      rw [hgp] at A1 ⊢
      have hlp : w.heap.size ≤ gp := by rw [← hgp]; exact X1.bl.size
      have hpr : gr ≠ gp := by have := X1.z.lt; omega
      clear hwA hgp
      refine ⟨?_, ?_⟩
      · skip
        show wpList _ _ _ [_] _ _
        go_wp2_with fail
        refine (clone (.slice av nn cv) nodes W2 X2.n (by rw [HNN.out]; omega)).mono ?_
        rintro e W3 ⟨v1, rfl, O1, bC⟩
        obtain ⟨a1, c1, hv1, _⟩ := own_form O1
        rw [HNN.out] at hv1
        subst hv1
        have X3 := X2.below bC
        go_wp2
        refine ⟨hold_of (S0 := fun _ => True) trivial, ?_⟩
        have A1 := A1.later bC
        show wpList _ _ _ [_] _ _
        go_wp2_with ((with_reducible refine wpList_mkZ ?_ h6 ?_); (focus rfl); intro W4 zc hzc M1 bM)
        obtain ⟨bz, hbz⟩ : ∃ g, W3.heap.size = g := ⟨_, rfl⟩
        rw [hbz] at M1 ⊢
        have hlz : w.heap.size ≤ bz := by rw [← hbz]; exact X3.bl.size
        clear hbz
        have X4 := X3.below bM
        refine ⟨hold_of (S0 := fun _ => True) trivial, ?_⟩
        simp only [Act.put, List.setIfInBounds_toArray, List.set_cons_succ, List.set_cons_zero]
        have A1 := A1.later bM
        have O1 := O1.later bM
        show wpQuiet _ _ _ _ [_] _
        repeat (go_big_quiet_step (fail))
        refine wpQuiet_nil ?_
        have NS := O1.sl
        have hC1 : ∀ u ∈ nC (.slice a1 nn c1) bt hi bz n (.slice none 0 0), u.oneCell' = true := by
          intro u hu; simp [nC] at hu; rcases hu with rfl | rfl | rfl | rfl | rfl <;> rfl
        have hCl : (nC (.slice a1 nn c1) bt hi bz n (.slice none 0 0)).length = 5 := rfl
        clear O1
        show wpList _ _ _ [_] _ _
        go_wp2_with ((with_reducible refine stG (cs := nC (.slice a1 nn c1) bt hi bz n (.slice none 0 0)) ?_ ?_ A1 rfl hCl hC1 ?_); (focus rfl); (focus rfl); intro w5 hB5 hg5)
        have X5 := X4.grown A1 hg5 hpr hlp
        have M5 := M1.grown hg5 (by simpa using A1.ne_type M1 (by decide))
        have N5 := NS.grown A1 (by decide) hg5
        clear X4 A1 M1 NS hg5
        refine ⟨hold_of (S0 := fun _ => True) trivial, NoPanic.normal ?_⟩
        go_wp2
        go_meet
        case rel => exact ⟨gp, bz, c1, a1, zc, rfl, hlp, hlz, hpr, hlr, X5, hB5, M5, hzc, by rw [← HNN.out] at N5 ⊢; exact N5⟩
      · skip
        show wpList _ _ _ [_] _ _
        go_wp2_with ((with_reducible refine wpList_mkZ ?_ h6 ?_); (focus rfl); intro W3 zc hzc M1 bM)
        obtain ⟨bz, hbz⟩ : ∃ g, W2.heap.size = g := ⟨_, rfl⟩
        rw [hbz] at M1 ⊢
        have hlz : w.heap.size ≤ bz := by rw [← hbz]; exact X2.bl.size
        clear hbz
        have X3 := X2.below bM
        refine ⟨hold_of (S0 := fun _ => True) trivial, ?_⟩
        simp only [Act.put, List.setIfInBounds_toArray, List.set_cons_succ, List.set_cons_zero]
        have A1 := A1.later bM
        show wpList _ _ _ [_] _ _
        go_wp2_with fail
        refine (clone (.slice av nn cv) nodes W3 X3.n (by rw [HNN.out]; omega)).mono ?_
        rintro e W4 ⟨v1, rfl, O1, bC⟩
        obtain ⟨a1, c1, hv1, _⟩ := own_form O1
        rw [HNN.out] at hv1
        subst hv1
        have X4 := X3.below bC
        go_wp2
        refine ⟨hold_of (S0 := fun _ => True) trivial, ?_⟩
        have A1 := A1.later bC
        have M1 := M1.later bC
        show wpQuiet _ _ _ _ [_] _
        repeat (go_big_quiet_step (fail))
        refine wpQuiet_nil ?_
        have NS := O1.sl
        have hC1 : ∀ u ∈ nC (.slice a1 nn c1) bt hi bz n (.slice none 0 0), u.oneCell' = true := by
          intro u hu; simp [nC] at hu; rcases hu with rfl | rfl | rfl | rfl | rfl <;> rfl
        have hCl : (nC (.slice a1 nn c1) bt hi bz n (.slice none 0 0)).length = 5 := rfl
        clear O1
        show wpList _ _ _ [_] _ _
        go_wp2_with ((with_reducible refine stG (cs := nC (.slice a1 nn c1) bt hi bz n (.slice none 0 0)) ?_ ?_ A1 rfl hCl hC1 ?_); (focus rfl); (focus rfl); intro w5 hB5 hg5)
        have X5 := X4.grown A1 hg5 hpr hlp
        have M5 := M1.grown hg5 (by simpa using A1.ne_type M1 (by decide))
        have N5 := NS.grown A1 (by decide) hg5
        clear X4 A1 M1 NS hg5
        refine ⟨hold_of (S0 := fun _ => True) trivial, NoPanic.normal ?_⟩
        go_wp2
        go_meet
        case rel => exact ⟨gp, bz, c1, a1, zc, rfl, hlp, hlz, hpr, hlr, X5, hB5, M5, hzc, by rw [← HNN.out] at N5 ⊢; exact N5⟩
  case rest =>
    clear X0
    obtain ⟨gp, bz, c1, a1, zc, rfl, G⟩ := hcut
    go_wp2_with ((with_reducible refine ldG ?_ G.B rfl ?_); (focus rfl))
    refine (machineOk (.slice a1 nn c1) nodes bt hi bz n n (.slice none 0 0) wc G.N (by rw [HNN.out]; exact n0) (by rw [HNN.out]; exact n4) nr b1 bh h64 (by rw [← HN.out]; exact HP.out.l1) h6).mono ?_
    rintro e w6 ⟨rfl, b6⟩
    have G6 := G.below b6
    clear G b6
    have hzc0 := G6.L
    go_wp2
    go_loopg [11, 32] n (fun gg v11 v32 wr => ∃ (i : Nat) (zc : List Value) (zs : List Z), i + gg = n ∧ v32 = .int .i64 i ∧ v11 = .int .i64 (stS ps i) ∧ zs.length = i ∧ NG w gp gr bz (.slice a1 nn c1) (.slice none 0 0) bt hi n zc (.slice av nn cv) nodes b pc ps wr ∧ QV wr bz zc zs ∧ ∀ j y, zs[j]? = some y → Gd ps j y)
    case atStart => exact ⟨0, zc, [], by omega, rfl, rfl, rfl, G6, ⟨G6.M, by simp, fun j y h => by simp at h⟩, fun j y h => by simp at h⟩
    case round =>
      clear G6 hzc0
      obtain ⟨i, zc7, zs, hi7, rfl, rfl, hzl, G7, Q7, hgd⟩ := hrel
      have HZL := Lib.hid hzl; have HGD := Lib.hid hgd
      clear hzl hgd
      cases gk with
      | zero =>
        have hin : ¬ i < n := by omega
        obtain rfl : i = n := by omega
        have hn1 : 1 ≤ i := by rw [← HN.out]; exact HP.out.l1
        have c4 := G7.c4
        clear hi7
        go_wp2
        go_loopg [66] nn (fun g2 v66 wj => ∃ (c : Nat) (u : Value) (us : List Value), c + g2 = nn ∧ v66 = .int .i64 c ∧ NG w gp gr bz (.slice a1 nn c1) u bt hi i zc7 (.slice av nn cv) nodes b pc ps wj ∧ QV wj bz zc7 zs ∧ wj.ownsRow w.heap.size 93 1 u c us ∧ ∀ k, k < c → ∃ x, us[k]? = some x ∧ Lc wj x (List.replicate i []))
        case atStart => exact ⟨0, _, [], by omega, rfl, G7, Q7, World.ownsRow_nil _ _ _ _, fun k hk => by omega⟩
        case round =>
          clear G7 Q7 c4
          obtain ⟨c, u, us, hc, rfl, G8, Q8, O8, hus⟩ := hrel
          have HUS := Lib.hid hus
          clear hus
          cases gk with
          | zero =>
            have hcn : ¬ c < nn := by omega
            obtain rfl : c = nn := by omega
            have HR := Lib.hid (show ∃ (bc cap : Nat) (cur : List Value), u = .slice (some ⟨bc, 0, none⟩) c cap ∧ Blk wr bc 93 cur ∧ c ≤ cap ∧ cap ≤ maxLen ∧ cur.length = cap ∧ cur.take c = us from by
              obtain ⟨bc, cap, cur, h1, h2, h3, h4, h5, h6, h7⟩ := own_open O8 n0
              exact ⟨bc, cap, cur, h1, h3, h4, h5, by rw [h6, Nat.mul_one], by rw [Nat.mul_one] at h7; exact h7⟩)
            have hC1 : ∀ y ∈ nC (.slice a1 c c1) bt hi bz i u, y.oneCell' = true := by
              obtain ⟨bc, cap, cur, h1, _⟩ := HR.out
              subst h1
              intro y hy; simp [nC] at hy; rcases hy with rfl | rfl | rfl | rfl | rfl <;> rfl
            have hCl : (nC (.slice a1 c c1) bt hi bz i u).length = 5 := rfl
            clear hc O8
            go_wp2_with first | ((with_reducible refine ldG ?_ G8.B hCl ?_); (focus rfl)) | ((with_reducible refine stG (cs := nC (.slice a1 c c1) bt hi bz i u) ?_ ?_ G8.X.z rfl hCl hC1 ?_); (focus rfl); (focus rfl); intro w9 hB9 hg9)
            refine bodyPost_ret (resA1 rfl _ _ gr _ _ rfl hB9 rfl rfl) rfl ?_
            obtain ⟨bc, cap, cur, rfl, hbc, hcap, hcm, hcl, hct⟩ := HR.out
            have kp : ∀ {q t : Nat} {bs : List Value}, t ≠ 28 → Blk wr q t bs → Blk w9 q t bs := fun ht hq => hq.grown hg9 (by simpa using G8.X.z.ne_type hq (Ne.symm ht))
            have hzz : zs.length = ps.length := by rw [HZL.out, HN.out]
            refine ⟨_, nA nodes bt hi zs, rfl, ⟨⟨a1, c, c1, bz, i, i, bc, c, cap⟩, zc7, cur, rfl, ⟨HNN.out, HZL.out, by simp [nA, HNN.out], G8.N.past fun _ _ => kp (by decide), Q8.past (kp (by decide) Q8.x) (fun _ _ => kp (by decide)), Nat.le_refl _, by show i ≤ maxLen; unfold maxLen; omega, ⟨kp (by decide) hbc, by simp [nA, HNN.out]; omega, fun d L hL => ?_⟩, hcap, hcm⟩⟩, VA.fresh HP.out (by rw [HNN.out]; exact n0) (by rw [HNN.out]; exact n4) nr b1 bh h64 hzz HGD.out, G8.X.bl.grown hg9 G8.X.bl.size (fun q hq => by cases hq; exact hlr), rfl, rfl, rfl, hzz, fun j p hp => ?_, fun j x hj hx => ?_, fun c z => nA_lst c z⟩
            · have hd : d < c := by
                have := lt_of hL
                simpa [nA, HNN.out] using this
              have hLe : L = List.replicate i [] := by
                have : (List.replicate nodes.length (List.replicate zs.length ([] : List Int)))[d]? = some L := hL
                rw [rep_get (by rw [HNN.out]; exact hd), HZL.out] at this
                exact (Option.some.inj this).symm
              subst hLe
              obtain ⟨x, hx, hLc⟩ := HUS.out d hd
              refine ⟨x, ?_, hLc.past (fun _ _ => kp (by decide)) (fun _ _ => kp (by decide))⟩
              rw [← hct, List.getElem?_take, if_pos hd] at hx
              exact hx
            · obtain ⟨y, hy⟩ := get_some hzz (lt_of hp)
              obtain ⟨p', hp', e1, e2, e3, e4, e5, _⟩ := HGD.out j y hy
              rw [hp] at hp'
              cases hp'
              have : zn (nA nodes bt hi zs) j = y := getD_of hy
              rw [this]
              exact ⟨e1, e2, e3, e4, e5⟩
            · obtain ⟨y, hy⟩ := get_some hzz hj
              obtain ⟨_, _, _, _, _, _, _, _, h8⟩ := HGD.out j y hy
              have : zn (nA nodes bt hi zs) j = y := getD_of hy
              rw [this] at hx ⊢
              exact (h8 x).2 hx
          | succ g2 =>
            have hcn : c < nn := by omega
            have HC := Lib.hid hc
            clear hc
            go_wp2_with fail
            refine (pcnew i wr hn1 h6).mono ?_
            rintro e w8 ⟨y, rfl, ⟨v0, rfl, hLc⟩, b8⟩
            have G9 := G8.below b8
            have Q9 := Q8.below b8
            have O9 := own_later O8 b8
            have HUS9 := Lib.hid (show ∀ k, k < c → ∃ x, us[k]? = some x ∧ Lc w8 x (List.replicate i []) from fun k hk => by
              obtain ⟨x, h1, h2⟩ := HUS.out k hk
              exact ⟨x, h1, h2.below b8⟩)
            have hz9 := Blk.new w8 93 #[.slice none 0 0] [.slice none 0 0] rfl
            have b0 := below_box w8 (.cells #[.slice none 0 0] 93)
            have hv1 : v0.oneCell' = true := by obtain ⟨_, _, h3, _⟩ := hLc.form; rw [h3]; rfl
            clear G8 Q8 O8 HUS b8
            go_upto_region 17 with ((with_reducible refine stC ?_ ?_ hz9 hv1 ?_); (focus rfl); (focus rfl); intro w9 hB9 hg9)
            have b9 : Below w8.heap.size w8 w9 := b0.grown hg9 b0.size (fun k hk => by cases hk; exact Nat.le_refl _)
            have G10 := G9.below b9
            have Q10 := Q9.below b9
            have O10 := own_later O9 b9
            have hLc10 := hLc.below b9
            obtain ⟨g9, hg9'⟩ : ∃ g, w8.heap.size = g := ⟨_, rfl⟩
            rw [hg9'] at hB9 ⊢
            have HUS10 := Lib.hid (show ∀ k, k < c → ∃ x, us[k]? = some x ∧ Lc w9 x (List.replicate i []) from fun k hk => by
              obtain ⟨x, h1, h2⟩ := HUS9.out k hk
              exact ⟨x, h1, h2.below b9⟩)
            clear G9 Q9 O9 HUS9 hz9 b0 hg9 hLc b9 hg9'
            have c4 := G10.c4
            have bN := below_box w9 (.cells #[v0] 93)
            have G11 := G10.below bN
            have hBN := Blk.new w9 93 #[v0] [v0] rfl
            have O11 := own_later O10 bN
            have hsz := G11.X.bl.size
            have hcc : c ≤ 900000 := by omega
            go_upto_region 18 with first | ((with_reducible refine ldC ?_ hB9 ?_); (focus rfl)) | ((with_reducible refine wpList_appC (base := w.heap.size) (b := w9.heap.size) (x := v0) ?_ ?_ O11 hBN hv1 hcc hsz ?_); (focus rfl); (focus rfl); intro u' w12 O12 hg12; have kq : ∀ {q t : Nat} {bs : List Value}, t ≠ 93 → Blk (w9.alloc (.cells #[v0] 93)) q t bs → Blk w12 q t bs := (fun ht hq => hq.grown hg12 (hq.not_own O11 (Ne.symm ht))); have G12 := G11.past (G11.X.bl.grown hg12 G11.X.bl.size (fun k hk => (World.ownsRow.lt O11 k hk).1)) kq; clear c4; have c4 := G12.c4; have f4 := G12.B.frozen 4; obtain ⟨bc', cap', cur', hu', _⟩ := own_open O12 (by omega); subst hu')
            have hg13 : w12.grownBy (w12.setCell ⟨gp, 4, none⟩ (.slice (some ⟨bc', 0, none⟩) (c + 1) cap')) (some gp) := set_grown
            have kr : ∀ {q t : Nat} {bs : List Value}, t ≠ 28 → Blk w12 q t bs → Blk (w12.setCell ⟨gp, 4, none⟩ (.slice (some ⟨bc', 0, none⟩) (c + 1) cap')) q t bs := fun ht hq => hq.grown hg13 (by simpa using G12.B.ne_type hq (Ne.symm ht))
            have G13 := G12.cset (u' := .slice (some ⟨bc', 0, none⟩) (c + 1) cap')
            have Q11 := Q10.below bN
            have Q12 := Q11.past (kq (by decide) Q11.x) (fun _ _ => kq (by decide))
            have Q13 := Q12.past (kr (by decide) Q12.x) (fun _ _ => kr (by decide))
            have O13 := own_far O12 G12.B (by decide) hg13
            have hul : us.length = c := by have := O11.1; omega
            have HUS13 := Lib.hid (show ∀ k, k < c + 1 → ∃ x, (us ++ [v0])[k]? = some x ∧ Lc (w12.setCell ⟨gp, 4, none⟩ (.slice (some ⟨bc', 0, none⟩) (c + 1) cap')) x (List.replicate i []) from fun k hk => by
              have key : ∀ {x : Value}, Lc w9 x (List.replicate i []) → Lc (w12.setCell ⟨gp, 4, none⟩ (.slice (some ⟨bc', 0, none⟩) (c + 1) cap')) x (List.replicate i []) := fun h => ((h.below bN).past (fun _ _ => kq (by decide)) (fun _ _ => kq (by decide))).past (fun _ _ => kr (by decide)) (fun _ _ => kr (by decide))
              rcases Nat.lt_or_ge k c with h | h
              · obtain ⟨x, h1, h2⟩ := HUS10.out k h
                exact ⟨x, by rw [List.getElem?_append_left (by omega)]; exact h1, key h2⟩
              · obtain rfl : k = c := by omega
                exact ⟨v0, by rw [List.getElem?_append_right (by omega), hul, Nat.sub_self]; rfl, key hLc10⟩)
            obtain ⟨w13, hw13⟩ : ∃ W, W = w12.setCell ⟨gp, 4, none⟩ (.slice (some ⟨bc', 0, none⟩) (c + 1) cap') := ⟨_, rfl⟩
            rw [← hw13] at G13 Q13 O13 HUS13 ⊢
            clear hw13 G10 Q10 O10 G11 Q11 O11 G12 Q12 O12 kq kr hg12 hg13 hB9 hBN bN hsz HUS10 hLc10 c4 f4 hul
            go_wp2
            go_roundg g2
            case rel => exact ⟨c + 1, _, _, by have := HC.out; omega, by go_num, G13, Q13, O13, HUS13.out⟩
            case measure => omega
      | succ gg =>
        have hin : i < n := by omega
        have HI := Lib.hid hi7
        obtain ⟨p, hp⟩ := get_some HN.out hin
        have hm := List.mem_of_getElem? hp
        have hst0 := stS_nn HP.out.ct i
        have hst1 := HP.out.end_le hp
        have hct := HP.out.ct p hm
        have hnd := HP.out.nd p hm
        have hmn := HP.out.mn p hm
        have hkd := HP.out.kd p hm
        have HSN := Lib.hid (stS_next hp)
        obtain ⟨S, hS⟩ : ∃ S, stS ps i = S := ⟨_, rfl⟩
        rw [hS] at hst0 hst1 HSN ⊢
        have HS := Lib.hid hS; have HPP := Lib.hid hp
        have HNW := Lib.hid (fun W => (show Calls Tryz.prog 45 #[.int .i64 p.nd, .int .i64 p.kd, .int .i64 S, .int .i64 p.ct, .int .i64 p.mn] W (AnsV W { p with st := S } (inZ { p with st := S })) from new { p with st := S } W ⟨hnd.1, hnd.2, hkd, hst0, hct, hst1, hmn.1, hmn.2⟩))
        have hz5 := Blk.new wr 56 #[.int .i64 0, .int .i64 0, .int .i64 0, .int .i64 0] sp0 rfl
        have b0 := below_box wr (.cells #[.int .i64 0, .int .i64 0, .int .i64 0, .int .i64 0] 56)
        clear hi7 hp hS hm hkd hnd hmn
        go_upto_region 8 with first | ((with_reducible refine ldSp ?_ G7.X.s HPP.out ?_); (focus rfl)) | ((with_reducible refine stSp (p := p) ?_ ?_ hz5 rfl ?_); (focus rfl); (focus rfl); intro w3 hB3 hg3)
        have b3 : Below wr.heap.size wr w3 := b0.grown hg3 b0.size (fun k hk => by cases hk; exact Nat.le_refl _)
        have G8 := G7.below b3
        have Q8 := Q7.below b3
        obtain ⟨g3, hg3'⟩ : ∃ g, wr.heap.size = g := ⟨_, rfl⟩
        rw [hg3'] at hB3 ⊢
        have d0 := hB3.cell 0
        have d1 := hB3.cell 1
        have d2 := hB3.cell 2
        have d3 := hB3.cell 3
        simp only [spC, List.getElem?_cons_zero, List.getElem?_cons_succ] at d0 d1 d2 d3
        clear G7 Q7 hz5 b0 hg3 b3 hg3'
        go_wp2_with fail
        refine (HNW.out w3).mono ?_
        rintro e w4 ⟨cs, fr, rfl, hO, hv, hcov, b4⟩
        have V4 := hO.zv
        have h1c := V4.one
        have hB4 := hB3.later b4
        have G9 := G8.below b4
        have Q9 := Q8.below b4
        have hz6 := Blk.new w4 102 #[.int .i64 0, .int .i64 0, .int .i64 0, .int .i64 0, .int .i64 0, .slice none 0 0, .slice none 0 0, .slice none 0 0, .slice none 0 0, .slice none 0 0] zP rfl
        have b6 := below_box w4 (.cells #[.int .i64 0, .int .i64 0, .int .i64 0, .int .i64 0, .int .i64 0, .slice none 0 0, .slice none 0 0, .slice none 0 0, .slice none 0 0, .slice none 0 0] 102)
        have HV := Lib.hid hv; have HCV := Lib.hid hcov
        clear G8 Q8 hB3 d0 d1 d2 d3 hO hv hcov HNW b4
        go_upto_region 9 with ((with_reducible refine stZ (cs := cs) ?_ ?_ hz6 zP_len V4.len h1c ?_); (focus rfl); (focus rfl); intro w5 hB5 hg5)
        have b5 : Below w4.heap.size w4 w5 := b6.grown hg5 b6.size (fun k hk => by cases hk; exact Nat.le_refl _)
        have G10 := G9.below b5
        have Q10 := Q9.below b5
        have V5 := V4.below b5
        have hB6 := hB4.later b5
        obtain ⟨g5, hg5'⟩ : ∃ g, w4.heap.size = g := ⟨_, rfl⟩
        rw [hg5'] at hB5 ⊢
        have c3 := G10.c3
        have hfit : i * 10 + 10 ≤ zc7.length := by rw [G10.L]; omega
        clear G9 Q9 V4 hz6 b6 hg5 b5 hg5' hB4
        go_upto_region 12 with first | ((with_reducible refine ld ?_ hB5 V5.len ?_); (focus rfl)) | ((with_reducible refine stQ ?_ ?_ G10.M V5.len hfit h1c ?_); (focus rfl); (focus rfl); intro w7 hB7 hg7)
        have hfl : i * 10 + cs.length ≤ zc7.length := by rw [V5.len]; exact hfit
        have Q11 := Q10.snoc HZL.out hfit V5 hB7 hg7
        have G11 := G10.zset hB7 hg7 (by rw [lay_len hfl]; exact G10.L)
        have hB8 := hB6.grown hg7 (by simpa using G10.M.ne_type hB6 (by decide))
        have d2 := hB8.cell 2
        simp only [spC, List.getElem?_cons_zero, List.getElem?_cons_succ] at d2
        have HG2 := Lib.hid (show ∀ j y, (zs ++ [{ p with st := S, fr := fr }])[j]? = some y → Gd ps j y from fun j y hy => by
          rcases Nat.lt_or_ge j i with hj | hj
          · rw [List.getElem?_append_left (by rw [HZL.out]; exact hj)] at hy
            exact HGD.out j y hy
          · rw [List.getElem?_append_right (by rw [HZL.out]; exact hj), HZL.out] at hy
            have hji : j = i := by
              have := lt_of hy
              simp at this
              omega
            subst hji
            rw [Nat.sub_self] at hy
            cases hy
            exact ⟨p, HPP.out, rfl, rfl, HS.out.symm, rfl, rfl, HV.out, HCV.out⟩)
        have HZL2 := Lib.hid (show (zs ++ [{ p with st := S, fr := fr }]).length = i + 1 by rw [List.length_append, HZL.out]; rfl)
        clear G10 Q10 hB5 hB6 hB7 hg7 c3 V5 hfit hfl h1c
        go_wp2
        go_roundg gg
        case rel => exact ⟨i + 1, _, _, by have := HI.out; omega, by go_num, by rw [HSN.out], HZL2.out, G11, Q11, HG2.out⟩
        case measure => omega
end Go.Proofs.YtdddkfpcbfgocaaGreat
namespace Go.Zn
/-- What may be taken of the normal zones, and of all, up to a zone. -/
def hdN (a : A) : Nat → Int
  | 0 => 0
  | n + 1 => hdN a n + if (zn a n).kd = 0 then (cntA a n : Int) - (zn a n).mn else 0
def hdA (a : A) : Nat → Int
  | 0 => 0
  | n + 1 => hdA a n + ((cntA a n : Int) - (zn a n).mn)
theorem VA.rm {a : A} (h : VA a) {z : Nat} (hz : z < a.zs.length) : -256 ≤ (cntA a z : Int) - (zn a z).mn ∧ (cntA a z : Int) - (zn a z).mn ≤ 256 := by
  have h1 := cntA_le h hz
  have hr := (h.vz z hz).r
  have h2 := hr.mn0; have h3 := hr.mn1; have h4 := hr.ct1; have h5 := hr.st0
  omega
theorem VA.hdN {a : A} (h : VA a) : ∀ {n : Nat}, n ≤ a.zs.length → -(256 * (n : Int)) ≤ hdN a n ∧ hdN a n ≤ 256 * (n : Int)
  | 0, _ => by simp [Zn.hdN]
  | n + 1, hn => by
    have h1 := h.hdN (n := n) (by omega)
    have h2 := h.rm (z := n) (by omega)
    unfold Zn.hdN
    split <;> omega
theorem VA.hdA {a : A} (h : VA a) : ∀ {n : Nat}, n ≤ a.zs.length → -(256 * (n : Int)) ≤ hdA a n ∧ hdA a n ≤ 256 * (n : Int)
  | 0, _ => by simp [Zn.hdA]
  | n + 1, hn => by
    have h1 := h.hdA (n := n) (by omega)
    have h2 := h.rm (z := n) (by omega)
    unfold Zn.hdA
    omega
end Go.Zn
namespace Go.Proofs.YtdddkfpcbfgocaaGreat
open Go.RowKit Go.Over Go.Zn Go.Can Go.Seg Go.Grow
set_option maxRecDepth 100000 in set_option maxHeartbeats 3200000 in
theorem countP (v : Value) (a : A) (z : Nat) (w : World) (H : Ra w v a) (hV : VA a) (hz : z < a.zs.length) : Calls Tryz.prog 18 #[v, .int .i64 z] w fun e w' => e = .returned (.int .i64 ((cntA a z : Nat) : Int)) ∧ Below w.heap.size w w' := by
  have HV := Lib.hid hV; have HZ := Lib.hid hz
  clear hV
  obtain ⟨s, zc, ccs, rfl, hV⟩ := H
  have X0 := AX.new hV
  clear hV
  go_enter Tryz.func18, Tryz.ntmps18
  go_upto_region 1 with fail
  obtain ⟨w1, hw1⟩ : ∃ W, W = w.alloc (.cells (s.cells a.bt a.hi).toArray 28) := ⟨_, rfl⟩
  have X1 : AX w w.heap.size s zc ccs a w1 := by rw [hw1]; exact X0
  rw [← hw1]
  obtain ⟨g, hg0⟩ : ∃ g, w.heap.size = g := ⟨_, rfl⟩
  rw [hg0] at X1 ⊢
  clear hw1 X0 hg0
  have hn := X1.v.ez
  rw [hn] at hz
  go_wp2_with ((with_reducible refine lda ?_ X1.x ?_); (focus rfl))
  refine (acheck _ a w1 X1.ra HV.out).mono ?_
  rintro e w2 ⟨rfl, b2⟩
  have X2 := X1.below b2
  have c3 := X2.c3
  clear X1 b2 hn
  go_wp2_with ((with_reducible refine lda ?_ X2.x ?_); (focus rfl))
  refine (acount _ a z w2 X2.ra HV.out HZ.out).mono ?_
  rintro e w3 ⟨rfl, b3⟩
  have X3 := X2.below b3
  clear X2 c3 b3
  go_wp2
  go_ret
  exact ⟨rfl, X3.b⟩
set_option maxRecDepth 100000 in set_option maxHeartbeats 3200000 in
theorem zoneP (v : Value) (a : A) (z : Nat) (x : Int) (w : World) (H : Ra w v a) (hV : VA a) (hz : z < a.zs.length) (hx : inZ (zn a z) x) : Calls Tryz.prog 20 #[v, .int .i64 x] w fun e w' => e = .returned (.int .i64 (z : Int)) ∧ Below w.heap.size w w' := by
  have HV := Lib.hid hV
  have HZI := Lib.hid (hV.zoneI hz hx)
  have HR := Lib.hid (show ∀ z' ∈ a.zs, Rng z' from fun z' hz' => by
    obtain ⟨i', hi'⟩ := List.getElem?_of_mem hz'
    have := hV.vz i' (lt_of hi'); rw [zn_of hi'] at this; exact this.r)
  clear hV hz hx
  obtain ⟨s, zc, ccs, rfl, hV⟩ := H
  have X0 := AX.new hV
  clear hV
  go_enter Tryz.func20, Tryz.ntmps20
  go_upto_region 1 with fail
  obtain ⟨w1, hw1⟩ : ∃ W, W = w.alloc (.cells (s.cells a.bt a.hi).toArray 28) := ⟨_, rfl⟩
  have X1 : AX w w.heap.size s zc ccs a w1 := by rw [hw1]; exact X0
  rw [← hw1]
  obtain ⟨g, hg0⟩ : ∃ g, w.heap.size = g := ⟨_, rfl⟩
  rw [hg0] at X1 ⊢
  clear hw1 X0 hg0
  go_wp2_with ((with_reducible refine lda ?_ X1.x ?_); (focus rfl))
  refine (acheck _ a w1 X1.ra HV.out).mono ?_
  rintro e w2 ⟨rfl, b2⟩
  have X2 := X1.below b2
  clear X1 b2
  go_wp2_with ((with_reducible refine lda ?_ X2.x ?_); (focus rfl))
  refine (zoneof _ a x w2 X2.ra HR.out HV.out.z6).mono ?_
  rw [HZI.out]
  rintro e w3 ⟨rfl, b3⟩
  have X3 := X2.below b3
  clear X2 b3
  go_wp2
  go_ret
  exact ⟨rfl, X3.b⟩
set_option maxRecDepth 100000 in set_option maxHeartbeats 3200000 in
theorem isfreeP (v : Value) (a : A) (z : Nat) (x : Int) (w : World) (H : Ra w v a) (hV : VA a) (hz : z < a.zs.length) (hx : inZ (zn a z) x) : Calls Tryz.prog 19 #[v, .int .i64 x] w fun e w' => (∃ b, e = .returned (.bool b) ∧ (b = true ↔ Fr a z x)) ∧ Below w.heap.size w w' := by
  have HV := Lib.hid hV; have HZ := Lib.hid hz; have HX := Lib.hid hx
  have HZI := Lib.hid (hV.zoneI hz hx)
  have HR := Lib.hid (show ∀ z' ∈ a.zs, Rng z' from fun z' hz' => by
    obtain ⟨i', hi'⟩ := List.getElem?_of_mem hz'
    have := hV.vz i' (lt_of hi'); rw [zn_of hi'] at this; exact this.r)
  clear hV hz hx
  obtain ⟨s, zc, ccs, rfl, hV⟩ := H
  have X0 := AX.new hV
  clear hV
  go_enter Tryz.func19, Tryz.ntmps19
  go_upto_region 1 with fail
  obtain ⟨w1, hw1⟩ : ∃ W, W = w.alloc (.cells (s.cells a.bt a.hi).toArray 28) := ⟨_, rfl⟩
  have X1 : AX w w.heap.size s zc ccs a w1 := by rw [hw1]; exact X0
  rw [← hw1]
  obtain ⟨g, hg0⟩ : ∃ g, w.heap.size = g := ⟨_, rfl⟩
  rw [hg0] at X1 ⊢
  clear hw1 X0 hg0
  go_wp2_with ((with_reducible refine lda ?_ X1.x ?_); (focus rfl))
  refine (acheck _ a w1 X1.ra HV.out).mono ?_
  rintro e w2 ⟨rfl, b2⟩
  have X2 := X1.below b2
  clear X1 b2
  go_wp2_with ((with_reducible refine lda ?_ X2.x ?_); (focus rfl))
  refine (zoneof _ a x w2 X2.ra HR.out HV.out.z6).mono ?_
  rw [HZI.out]
  rintro e w3 ⟨rfl, b3⟩
  have X3 := X2.below b3
  clear X2 b3
  have tz : decide (0 ≤ (z : Int)) = true := by simp
  go_wp2_with ((with_reducible refine ldag ?_ ?_ X3.x ?_); (focus rfl); (focus rfl))
  refine (afree _ a z x w3 X3.ra HV.out HZ.out HX.out).mono ?_
  rintro e w4 ⟨⟨b, rfl, hb⟩, b4⟩
  have X4 := X3.below b4
  have HB := Lib.hid hb
  clear X3 b4 hb
  go_wp2
  go_ret
  exact ⟨⟨b, rfl, HB.out⟩, X4.b⟩
set_option maxRecDepth 100000 in set_option maxHeartbeats 3200000 in
theorem headroom (v : Value) (a : A) (w : World) (H : Ra w v a) (hV : VA a) : Calls Tryz.prog 17 #[v] w fun e w' => e = .returned (.tuple #[.int .i64 (hdN a a.zs.length), .int .i64 (hdA a a.zs.length)]) ∧ Below w.heap.size w w' := by
  have HV := Lib.hid hV
  clear hV
  obtain ⟨s, zc, ccs, rfl, hV⟩ := H
  have X0 := AX.new hV
  clear hV
  go_enter Tryz.func17, Tryz.ntmps17
  go_upto_region 1 with fail
  obtain ⟨w1, hw1⟩ : ∃ W, W = w.alloc (.cells (s.cells a.bt a.hi).toArray 28) := ⟨_, rfl⟩
  have X1 : AX w w.heap.size s zc ccs a w1 := by rw [hw1]; exact X0
  rw [← hw1]
  obtain ⟨g, hg0⟩ : ∃ g, w.heap.size = g := ⟨_, rfl⟩
  rw [hg0] at X1 ⊢
  clear hw1 X0 hg0
  have HN := Lib.hid X1.v.ez
  have hz6 : s.nz ≤ 6 := by rw [← X1.v.ez]; exact HV.out.z6
  go_wp2_with ((with_reducible refine lda ?_ X1.x ?_); (focus rfl))
  refine (acheck _ a w1 X1.ra HV.out).mono ?_
  rintro e w2 ⟨rfl, b2⟩
  have X2 := X1.below b2
  have c3 := X2.c3
  clear X1 b2
  go_wp2
  go_loopg [4, 5, 15] s.nz (fun gg v4 v5 v15 wr => ∃ i : Nat, i + gg = s.nz ∧ v15 = .int .i64 i ∧ v4 = .int .i64 (hdN a i) ∧ v5 = .int .i64 (hdA a i) ∧ AX w g s zc ccs a wr)
  case atStart => exact ⟨0, by omega, rfl, rfl, rfl, X2⟩
  case round =>
    clear X2 c3
    obtain ⟨i, hi, rfl, rfl, rfl, X3⟩ := hrel
    have h1 := HV.out.hdN (n := i) (by rw [HN.out]; omega)
    have h2 := HV.out.hdA (n := i) (by rw [HN.out]; omega)
    cases gk with
    | zero =>
      have hin : ¬ i < s.nz := by omega
      obtain rfl : i = s.nz := by omega
      clear hi
      go_wp2
      go_ret2
      exact ⟨by rw [HN.out]; rfl, X3.b⟩
    | succ gg =>
      have hin : i < s.nz := by omega
      have HI := Lib.hid hi
      obtain ⟨y, hy⟩ := get_some HN.out hin
      have HY := Lib.hid hy
      have HZN := Lib.hid (show zn a i = y from zn_of hy)
      have h3 := HV.out.rm (z := i) (by rw [HN.out]; exact hin)
      have HRM := Lib.hid (fun W (hx : AX w g s zc ccs a W) => aroom _ a i W hx.ra HV.out (by rw [HN.out]; exact hin))
      have HN1 := Lib.hid (show hdN a (i + 1) = hdN a i + if y.kd = 0 then (cntA a i : Int) - (zn a i).mn else 0 from by rw [← HZN.out]; rfl)
      have HA1 := Lib.hid (show hdA a (i + 1) = hdA a i + ((cntA a i : Int) - (zn a i).mn) from rfl)
      obtain ⟨K, hK⟩ : ∃ K, (cntA a i : Int) - (zn a i).mn = K := ⟨_, rfl⟩
      obtain ⟨A1, hA1⟩ : ∃ K, hdN a i = K := ⟨_, rfl⟩
      obtain ⟨A2, hA2⟩ : ∃ K, hdA a i = K := ⟨_, rfl⟩
      rw [hK] at h3 HRM HN1 HA1
      rw [hA1] at h1 HN1 ⊢
      rw [hA2] at h2 HA1 ⊢
      have Q3 := X3.v.q
      have V3 := Q3.row i y hy
      have h1c := V3.one
      have c3 := X3.c3
      have hz5 := Blk.new wr 102 #[.int .i64 0, .int .i64 0, .int .i64 0, .int .i64 0, .int .i64 0, .slice none 0 0, .slice none 0 0, .slice none 0 0, .slice none 0 0, .slice none 0 0] zP rfl
      have b0 := below_box wr (.cells #[.int .i64 0, .int .i64 0, .int .i64 0, .int .i64 0, .int .i64 0, .slice none 0 0, .slice none 0 0, .slice none 0 0, .slice none 0 0, .slice none 0 0] 102)
      clear hi hy hK hA1 hA2
      go_upto_region 7 with first | ((with_reducible refine ldq ?_ Q3 HY.out ?_); (focus rfl)) | ((with_reducible refine stZ (cs := seg zc (i * 10) 10) ?_ ?_ hz5 zP_len V3.len h1c ?_); (focus rfl); (focus rfl); intro w5 hB5 hg5)
      have b5 : Below wr.heap.size wr w5 := b0.grown hg5 b0.size (fun k hk => by cases hk; exact Nat.le_refl _)
      have X5 := X3.below b5
      have V5 := V3.below b5
      obtain ⟨g5, hg5'⟩ : ∃ g, wr.heap.size = g := ⟨_, rfl⟩
      rw [hg5'] at hB5 ⊢
      clear X3 Q3 V3 hz5 b0 hg5 b5 hg5' c3 h1c
      go_wp2_with ((with_reducible refine lda ?_ X5.x ?_); (focus rfl))
      refine (HRM.out w5 X5).mono ?_
      rintro e w6 ⟨rfl, b6⟩
      have X6 := X5.below b6
      have ck := cell_later b6 (V5.c1 hB5)
      clear X5 V5 hB5 b6 HRM
      by_cases hk : y.kd = 0
      · rw [hk] at ck
        rw [if_pos hk] at HN1
        clear hk
        go_wp2
        go_roundg gg
        case rel => exact ⟨i + 1, by have := HI.out; omega, by go_num, by rw [HN1.out], by rw [HA1.out], X6⟩
        case measure => omega
      · rw [if_neg hk] at HN1
        have tk : (y.kd == 0) = false := by simpa using hk
        clear hk
        go_wp2
        go_roundg gg
        case rel => exact ⟨i + 1, by have := HI.out; omega, by go_num, by rw [HN1.out, Int.add_zero], by rw [HA1.out], X6⟩
        case measure => omega
end Go.Proofs.YtdddkfpcbfgocaaGreat
