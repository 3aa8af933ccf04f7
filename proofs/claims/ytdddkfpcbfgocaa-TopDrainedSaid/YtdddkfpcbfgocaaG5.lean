/- Walks: a frame is allocated: the zones in their order; a cache is refilled, the others drained. Walks: a block of an order is allocated. Walks: a number is deleted from a row by a function of a call's own. A list of a cache changes in place: what lies where. Walks: a given frame is taken out of an allocator. A region that draws its order, walked along a plan with forks of three. Walks: a new allocator. -/
import Derived.Test.YtdddkfpcbfgocaaG4
import Derived.Test.YtdddkfpcbfgocaaG1
namespace Go.Zn
open Go.Can
/-- A zone that a frame may come from. -/
def elg (a : A) (rsv : Bool) (z : Nat) : Bool := if rsv then decide (cntA a z ≠ 0) else decide ((zn a z).mn < (cntA a z : Int))
/-- The zone a frame comes from. -/
def pickZ (a : A) (c : Nat) (kernel rsv : Bool) : Option Int := (ordP a.zs (a.nodes.getD c 0) kernel).find? fun q => elg a rsv q.toNat
/-- One frame less is free. -/
structure Less (a : A) (z : Nat) (x : Int) (b : A) : Prop where
  v : VA b
  s : Sa a b
  f : ∀ y q, Fr b y q ↔ Fr a y q ∧ ¬ (y = z ∧ q = x)
  m : Fr a z x
theorem take_plain {a : A} {c z : Nat} {l : List Int} {x : Int} (h : VA a) (hc : c < a.cs.length) (hz : z < a.zs.length) (hl : lst a c z = l ++ [x]) : Less a z x (setC a c z l) := by
  have hnd := h.nd c z hc hz
  rw [hl] at hnd
  obtain ⟨n1, _, n3⟩ := List.nodup_append.1 hnd
  have hx : x ∈ lst a c z := by rw [hl]; simp
  obtain ⟨v1, f1⟩ := uncache h hc hz hx (l := l) n1 (fun q => by
    rw [hl, List.mem_append, List.mem_singleton]
    constructor
    · exact fun hq => ⟨.inl hq, fun e => n3 q hq x (List.mem_singleton.2 rfl) e⟩
    · rintro ⟨hq | hq, h2⟩
      · exact hq
      · exact absurd hq h2)
  exact ⟨v1, Sa.setC, f1, .inr ⟨c, hc, hx⟩⟩
theorem Less.of {a b d : A} {z : Nat} {x : Int} (h : Less b z x d) (hs : Sa a b) (hf : ∀ y q, Fr b y q ↔ Fr a y q) : Less a z x d :=
  ⟨h.v, hs.trans h.s, fun y q => by rw [h.f, hf], (hf z x).1 h.m⟩
theorem elg_cnt {a : A} {rsv : Bool} {z : Nat} (h : VA a) (hz : z < a.zs.length) (he : elg a rsv z = true) : 0 < cntA a z := by
  have := (h.vz z hz).r.mn0
  unfold elg at he
  cases rsv with
  | true => have := of_decide_eq_true he; omega
  | false => have := of_decide_eq_true he; omega
/-- Where frames are free and all caches are empty, the zone has a free block. -/
theorem cov_of_cnt {a b : A} {z : Nat} (h : VA a) (hz : z < a.zs.length) (hc : 0 < cntA a z) (hf : ∀ y q, Fr b y q ↔ Fr a y q) (he : ∀ d, d < b.cs.length → lst b d z = []) (hn : ∀ x, ¬ Cov (F (zn b z).fr) x) : False := by
  rw [cnt_fr h hz] at hc
  obtain ⟨x, _, hx⟩ := nS_pos.1 hc
  rcases (hf z x).2 hx with h1 | ⟨d, hd, hm⟩
  · exact hn x h1
  · rw [he d hd] at hm; cases hm
/-- The other caches of a zone are empty up to a place. -/
structure DrX (a b : A) (c z d : Nat) : Prop where
  v : VA b
  s : Sa a b
  f : ∀ y q, Fr b y q ↔ Fr a y q
  o : lst b c z = []
  e : ∀ i, i < d → i < a.cs.length → lst b i z = []
theorem DrX.same {a b : A} {c z d : Nat} (h : DrX a b c z d) (hd : d = c) : DrX a b c z (d + 1) :=
  ⟨h.v, h.s, h.f, h.o, fun i h1 h2 => by
    by_cases e : i = c
    · subst e; exact h.o
    · exact h.e i (by omega) h2⟩
theorem DrX.next {a b b' : A} {c z d : Nat} (h : DrX a b c z d) (hd : d < b.cs.length) (hz : z < b.zs.length) (hv : VA b') (hs : Sa b b') (he : b'.cs = (setC b d z []).cs) (hf : ∀ y q, Fr b' y q ↔ Fr b y q) : DrX a b' c z (d + 1) := by
  have key : ∀ i, lst b' i z = if i = d ∧ z = z then [] else lst b i z := fun i => by
    have : lst b' i z = lst (setC b d z []) i z := by unfold lst; rw [he]
    rw [this, lst_setC hd (h.v.lz hd hz)]
  refine ⟨hv, h.s.trans hs, fun y q => (hf y q).trans (h.f y q), ?_, fun i h1 h2 => ?_⟩
  · rw [key]; split
    · rfl
    · exact h.o
  · rw [key]
    by_cases e : i = d
    · rw [if_pos ⟨e, rfl⟩]
    · rw [if_neg (fun h => e h.1)]; exact h.e i (by omega) h2
end Go.Zn
namespace Go.Proofs.Ytdddkfpcbfgocaa
open Go.RowKit Go.Over Go.Zn Go.Can Go.Seg Go.Grow
section
variable {ops : Array Oper} {rest : List Oper} {i j : Nat} {ty : TypeId} {pos : String} {af : Array Edge} {a : Act} {w : World} {Q : Exit → Act → World → Prop} {g : Nat}
/-- An allocator is loaded, where a guard says so. -/
theorem ldaW {d bt hi : Nat} {s : Sh} {gd : Nat × Bool} (hw : Region.wanted { dst := some d, op := .load 32 (.tmp i), type := ty, pos := pos, after := af, guard := some gd } (yielded ops a.tmps) = true) (hx : a.eval (.tmp i) = .pointer (some ⟨g, 0, none⟩)) (hB : Blk w g 32 (s.cells bt hi)) (h : wpList Try.prog ops Q rest (a.put (some d) (.agg (s.cells bt hi).toArray)) w) :
    wpList Try.prog ops Q ({ dst := some d, op := .load 32 (.tmp i), type := ty, pos := pos, after := af, guard := some gd } :: rest) a w :=
  BigFrame.wpList_want hw fun _ hK => wp_load_row 32 (.tmp i) rfl g hx 32 (s.cells bt hi).toArray (0, 0) _ hB Try.underlying32 rfl (by rw [infoA]; rfl) (hK _ _ h)
/-- The allocator of nothing is stored. -/
theorem stN {zs : List Value} (hx : a.eval (.tmp i) = .pointer (some ⟨g, 0, none⟩)) (hy : a.eval (.tmp j) = .agg nilA.toArray) (hB : Blk w g 32 zs) (hz : zs.length = 5)
    (h : ∀ W, Blk W g 32 nilA → w.grownBy W (some g) → wpList Try.prog ops Q rest (a.put none undef) W) :
    wpList Try.prog ops Q ({ dst := none, op := .store 32 (.tmp i) (.tmp j), type := ty, pos := pos, after := af, guard := none } :: rest) a w := by
  have e : lay zs 0 nilA = nilA := by
    have hl : nilA.length = 5 := rfl
    unfold lay
    rw [hl, List.take_zero, List.nil_append, List.drop_eq_nil_of_le (by omega), List.append_nil]
  refine wpList_store_part (cs := nilA) infoA hx hy hB (by rw [hz]; exact Nat.le_refl _) (by intro u hu; simp [nilA] at hu; rcases hu with rfl | rfl | rfl <;> rfl) fun W q1 q2 => h W (by rw [← e]; exact q1) q2
end
theorem AX.node {w W : World} {g : Nat} {s : Sh} {zc ccs : List Value} {a : A} {c : Nat} (h : AX w g s zc ccs a W) (hc : c < a.nodes.length) : ∃ b off, s.an = some ⟨b, off, none⟩ ∧ W.cell? ⟨b, off + c, none⟩ = some (.int .i64 (a.nodes.getD c 0)) := by
  obtain ⟨an, cn, h1, _, _, _, h5⟩ := h.v.nd
  obtain ⟨b, off, ha, _, h6⟩ := h5 (by omega)
  injection h1 with h1 _ _
  exact ⟨b, off, by rw [h1, ha], h6 c hc⟩
/-- What the call of Order reads. -/
def CN (g : Nat) (s : Sh) (b off c : Nat) (x : Int) (U : World) : Prop := U.cell? ⟨g, 0, none⟩ = some (.slice (some ⟨b, off, none⟩) s.nn s.cn) ∧ U.cell? ⟨g, 3, none⟩ = some (.slice (some ⟨s.bz, 0, none⟩) s.nz s.cz) ∧ U.cell? ⟨b, off + c, none⟩ = some (.int .i64 x)
/-- What Alloc gives. -/
def AllocQ (w : World) (a : A) (c : Nat) (kernel rsv : Bool) (e : Ending) (w' : World) : Prop :=
  (∃ (z : Nat) (v : Value) (x : Int) (b : A), pickZ a c kernel rsv = some (z : Int) ∧ z < a.zs.length ∧ e = .returned (.tuple #[v, .int .i64 x, .int .i64 0]) ∧ Ra w' v b ∧ Less a z x b ∧ Below w.heap.size w w' ∧ (lst a c z = [] → (∃ q, Cov (F (zn a z).fr) q) → First (zn a z).fr 0 x)) ∨
  (pickZ a c kernel rsv = none ∧ e = .returned (.tuple #[.agg nilA.toArray, .int .i64 0, .int .i64 16]) ∧ Below w.heap.size w w')
set_option maxRecDepth 100000 in set_option maxHeartbeats 3200000 in
theorem allocA (v : Value) (a : A) (c : Nat) (kernel rsv : Bool) (w : World) (H : Ra w v a) (hV : VA a) (hc : c < a.cs.length) : Calls Try.prog 12 #[v, .int .i64 c, .bool kernel, .bool rsv] w (AllocQ w a c kernel rsv) := by
  have HV := Lib.hid hV; have HC := Lib.hid hc
  have hnc := hV.nc
  clear hV
  obtain ⟨s, zc, ccs, rfl, hW⟩ := H
  have X0 := AZ.new hW
  clear hW
  go_enter Try.func12, Try.ntmps12
  go_upto_region 1 with fail
  obtain ⟨w1, hw1⟩ : ∃ W, W = (w.alloc (.cells (s.cells a.bt a.hi).toArray 32)).alloc (.cells #[.slice none 0 0, .int .i64 0, .int .i64 0, .slice none 0 0, .slice none 0 0] 32) := ⟨_, rfl⟩
  rw [← hw1] at X0 ⊢
  obtain ⟨gr, hgr⟩ : ∃ g, w.heap.size + 1 = g := ⟨_, rfl⟩
  obtain ⟨g, hg0⟩ : ∃ g, w.heap.size = g := ⟨_, rfl⟩
  have X1 : AZ w g gr s zc ccs a w1 := by rw [← hgr, ← hg0]; exact X0
  rw [hgr, hg0]
  clear hw1 X0 hg0 hgr
  go_wp2_with ((with_reducible refine lda ?_ X1.x.x ?_); (focus rfl))
  refine (acheck _ a w1 X1.x.ra HV.out).mono ?_
  rintro e w2 ⟨rfl, b2⟩
  have X2 := X1.below b2
  have hcn : c < s.nn := by rw [← X2.x.v.en, ← hnc]; exact HC.out
  have c0 := X2.x.c0
  have t1 : decide ((s.nn : Int) ≤ (c : Int)) = false := by simp; omega
  clear X1 b2 hc
  go_upto_region 6 with fail
  have hnl : c < a.nodes.length := by rw [← hnc]; exact HC.out
  obtain ⟨nb, no, han, dn⟩ := X2.x.node hnl
  have hr := HV.out.nr _ (List.getElem_mem hnl)
  rw [show a.nodes[c] = a.nodes.getD c 0 by rw [List.getD_eq_getElem?_getD, List.getElem?_eq_getElem hnl]; rfl] at hr
  obtain ⟨x, hx⟩ : ∃ x, a.nodes.getD c 0 = x := ⟨_, rfl⟩
  rw [hx] at dn hr
  rw [han] at c0
  have c3 := X2.x.c3
  have HXN := Lib.hid hx
  have HZ6 := Lib.hid HV.out.z6
  have HG := Lib.hid (show ZG a.zs from ⟨HV.out.z1, HV.out.z6, fun y hy => by
    obtain ⟨i', hi'⟩ := List.getElem?_of_mem hy
    have := HV.out.vz i' (lt_of hi'); rw [zn_of hi'] at this; exact this.r⟩)
  have HZO := Lib.hid (fun W (q : QV W s.bz zc a.zs) => zorder s.bz s.nz s.cz zc a.zs x kernel W q X2.x.v.ez X2.x.v.zl HG.out hr.1 hr.2)
  clear hnl hx hr hnc t1
  refine wp_region_plan (CN g s nb no c x) (.quiet [0, 1, 2, 3, 4, 5, 6, 7] (.only 8 (.quiet [9, 10, 11, 12, 13] .done))) 99 (by kernel_rfl) (by kernel_rfl) ⟨c0, c3, dn⟩ ?_
  intro W hWW hWe
  have bW : Below w2.heap.size w2 W := by rw [hWe]; exact (Below.refl _ _).drew
  clear hWe
  have X3 := X2.below bW
  clear X2 bW c0 c3 dn
  simp only [wpPlan, inOrder, List.filterMap_cons, List.filterMap_nil, List.getElem?_cons_zero, List.getElem?_cons_succ]
  have q1 := fun z => (hold_ok (S0 := CN g s nb no c x) hWW z).1
  have q2 := fun z => (hold_ok (S0 := CN g s nb no c x) hWW z).2.1
  have q3 := fun z => (hold_ok (S0 := CN g s nb no c x) hWW z).2.2
  show wpQuiet _ _ _ _ (_ :: _ :: _ :: _ :: _ :: _ :: _ :: [_]) _
  repeat (go_big_quiet_step (fail))
  refine wpQuiet_nil ?_
  have HWW := Lib.hid hWW
  clear q1 q2 q3 hWW
  show wpList _ _ _ [_] _ _
  go_wp2_with fail
  refine (HZO.out W X3.x.v.q).mono ?_
  rintro e w3 ⟨vo, rfl, hO, b3⟩
  have X4 := X3.below b3
  go_wp2
  refine ⟨hold_of ⟨cell_later b3 HWW.out.1, cell_later b3 HWW.out.2.1, cell_later b3 HWW.out.2.2⟩, ?_⟩
  show wpQuiet _ _ _ _ (_ :: _ :: _ :: _ :: [_]) _
  repeat (go_big_quiet_step (fail))
  refine wpQuiet_nil ?_
  refine NoPanic.normal ?_
  rw [← HXN.out] at hO
  clear X3 b3 HZO HWW HXN HG han
  obtain ⟨P, hP⟩ : ∃ P, ordP a.zs (a.nodes.getD c 0) kernel = P := ⟨_, rfl⟩
  have hP6 : P.length ≤ 6 := by rw [← hP]; exact Nat.le_trans ordP_len HZ6.out
  have HM := Lib.hid (show ∀ q, q ∈ P → ∃ i : Nat, i < a.zs.length ∧ q = i from fun q hq => by
    rw [← hP] at hq
    obtain ⟨i, h1, h2, _⟩ := mem_ordP.1 hq
    exact ⟨i, h1, h2⟩)
  have HPK := Lib.hid (show pickZ a c kernel rsv = P.find? fun q => elg a rsv q.toNat from by unfold pickZ; rw [hP])
  rw [hP] at hO
  obtain ⟨al, cl, rfl, hl1, hl2, hl3, hl4⟩ := hO
  obtain ⟨n, hn⟩ : ∃ n, P.length = n := ⟨_, rfl⟩
  rw [hn] at hl1 hP6 ⊢
  have HN := Lib.hid hn
  have HI := Lib.hid hl4
  clear hP hn hl4
  go_wp2
  go_loopg [51] n (fun gg v51 wr => ∃ (i : Nat), i + gg = n ∧ v51 = .int .i64 i ∧ AZ w g gr s zc ccs a wr ∧ Ints wr al P ∧ P.find? (fun q => elg a rsv q.toNat) = (P.drop i).find? fun q => elg a rsv q.toNat)
  case atStart => exact ⟨0, by omega, rfl, X4, HI.out, rfl⟩
  case round =>
    clear X4 HI
    obtain ⟨i, hi, rfl, X5, hI, hF⟩ := hrel
    cases gk with
    | zero =>
      have hil : ¬ i < n := by omega
      rw [List.drop_eq_nil_of_le (by rw [HN.out]; omega)] at hF
      have HF := Lib.hid hF
      clear hF hi hI
      go_wp2_with ((with_reducible refine stN ?_ ?_ X5.z ?_ ?_); (focus rfl); (focus rfl); (focus rfl); intro w9 hB9 hg9)
      refine bodyPost_ret (resA2 rfl _ _ gr _ _ _ rfl hB9 rfl rfl rfl) rfl ?_
      exact .inr ⟨by rw [HPK.out, HF.out]; rfl, rfl, X5.x.b.grown hg9 X5.x.b.size (fun q hq => by cases hq; exact X5.l)⟩
    | succ gg =>
      have hil : i < n := by omega
      obtain ⟨q, hq⟩ := get_some HN.out hil
      obtain ⟨z, hz, rfl⟩ := HM.out q (List.mem_of_getElem? hq)
      obtain ⟨bo, oo, hal, hBo, dO⟩ := id (hI (by rw [HN.out]; omega))
      have dq : wr.cell? ⟨bo, oo + i, none⟩ = some (.int .i64 (z : Int)) := by rw [dO i (by rw [HN.out]; exact hil), getD_of hq]
      subst hal
      have hF2 : P.find? (fun q => elg a rsv q.toNat) = if elg a rsv z then some (z : Int) else (P.drop (i + 1)).find? fun q => elg a rsv q.toNat := by
        have hd : P.drop i = (z : Int) :: P.drop (i + 1) := by
          rw [List.drop_eq_getElem_cons (by rw [HN.out]; exact hil)]
          congr 1
          rw [List.getElem?_eq_some_iff] at hq
          exact hq.2
        rw [hF, hd, List.find?_cons]
        show (match elg a rsv z with | true => _ | false => _) = _
        cases elg a rsv z <;> rfl
      have HQ := Lib.hid hI; have HF := Lib.hid hF2; have HZ := Lib.hid hz; have HI := Lib.hid hi
      obtain ⟨N, hNc⟩ : ∃ N, cntA a z = N := ⟨_, rfl⟩
      obtain ⟨M, hMn⟩ : ∃ M, (zn a z).mn = M := ⟨_, rfl⟩
      have HNC := Lib.hid hNc; have HMN := Lib.hid hMn
      have HCT := Lib.hid (fun W (x : AZ w g gr s zc ccs a W) => acount _ a z W x.x.ra HV.out hz)
      have HRM := Lib.hid (fun W (x : AZ w g gr s zc ccs a W) => aroom _ a z W x.x.ra HV.out hz)
      rw [hNc] at HCT HRM
      rw [hMn] at HRM
      clear hq hF hF2 hI hBo dO hNc hMn hi
      cases rsv with
      | true =>
        by_cases hN0 : N = 0
        · have t0 : ((N : Int) == 0) = true := by simp; omega
          have HE := Lib.hid (show elg a true z = false from by unfold elg; rw [if_pos rfl, HNC.out]; simp [hN0])
          clear hN0 hz
          go_wp2_with ((with_reducible refine ldaW ?_ ?_ X5.x.x ?_); (focus rfl); (focus rfl))
          refine (HCT.out wr X5).mono ?_
          rintro e w6 ⟨rfl, b6⟩
          have X6 := X5.below b6
          have HQ6 := Lib.hid (HQ.out.below b6)
          clear X5 b6 HCT HRM dq
          have HF2 := Lib.hid HF.out
          rw [HE.out, if_neg (by decide)] at HF2
          go_wp2
          go_roundg gg
          case rel => exact ⟨i + 1, by have := HI.out; omega, by go_num, X6, HQ6.out, HF2.out⟩
          case measure => omega
        · have t0 : ((N : Int) == 0) = false := by simp; omega
          have HE := Lib.hid (show elg a true z = true from by unfold elg; rw [if_pos rfl, HNC.out]; simp [hN0])
          clear hN0 hz
          go_wp2_with ((with_reducible refine ldaW ?_ ?_ X5.x.x ?_); (focus rfl); (focus rfl))
          refine (HCT.out wr X5).mono ?_
          rintro e w6 ⟨rfl, b6⟩
          have X6 := X5.below b6
          have HF2 := Lib.hid HF.out
          rw [HE.out, if_pos rfl] at HF2
          clear X5 b6 HCT HRM dq HQ
          have hr6 := HC.out; have hz6 := HZ.out
          go_wp2_with ((with_reducible refine lda ?_ X6.x.x ?_); (focus rfl))
          refine (aclone _ a w6 X6.x.ra HV.out).mono ?_
          rintro e w7 ⟨t, zc7, ccs7, W7, rfl, hW7, hlz, hlc, b7, _, _⟩
          have X7 := X6.below b7
          have hz7 := Blk.new w7 32 #[.slice none 0 0, .int .i64 0, .int .i64 0, .slice none 0 0, .slice none 0 0] nilA rfl
          have hlz := Nat.le_trans X6.x.b.size hlz
          have hlc := Nat.le_trans X6.x.b.size hlc
          clear X6 b7
          go_upto_region 12 with ((with_reducible refine stA (s := t) (bt := a.bt) (hi := a.hi) ?_ ?_ hz7 ?_ ?_); (focus rfl); (focus rfl); (focus rfl); intro w8 hB8 hg8)
          obtain ⟨P8, b8⟩ := AP.start X7.x.b hW7 hlz hlc hB8 hg8
          have Z8 := X7.z.later b8
          have hlr := X7.l
          obtain ⟨gp, hgp⟩ : ∃ z, w7.heap.size = z := ⟨_, rfl⟩
          rw [hgp] at P8 ⊢
          clear hgp X7 hz7 hW7 hlz hlc hB8 hg8 b8
          rw [P8.v.ec] at hr6
          rw [P8.v.ez] at hz6
          obtain ⟨L, hL⟩ := get_some P8.v.ec hr6
          have hLn := HV.out.cl hL
          obtain ⟨l, hl⟩ := get_some hLn HZ.out
          have hle := lst_of hL hl
          obtain ⟨v6, hv6, hLc⟩ := P8.v.c.row c L hL
          have dv : w8.cell? ⟨t.bc, c, none⟩ = some v6 := by rw [P8.v.c.x.cell]; exact hv6
          obtain ⟨lb, lc, rfl, hlc1, hlc2⟩ := hLc.form
          obtain ⟨la, lm, lk, dl, hlm, hsl⟩ := hLc.at hl
          rw [hLn, P8.v.ez] at dv hlc1
          have c4 := P8.c4
          have HLE := Lib.hid hle; have HLM := Lib.hid hlm
          clear hL hLn hl hle hv6 hLc hlm hsl
          by_cases hlm0 : lm = 0
          · have hnil := Lib.hid (show lst a c z = [] by rw [HLE.out]; exact List.eq_nil_of_length_eq_zero (by rw [HLM.out]; exact hlm0))
            subst hlm0
            have HRF := Lib.hid (refill w gp t zc7 ccs7 a c z w8 P8 HV.out HC.out HZ.out hnil.out)
            have n1 := Z8.ne_type P8.v.q.x (by decide)
            have n2 := Z8.ne_type P8.v.c.x (by decide)
            go_wp2_with fail
            refine HRF.out.mono ?_
            rintro e w9 ⟨b, rfl, ⟨zc9, ccs9, a9, P9, V9, S9, L9, F9, T9, N9, H9⟩, K9⟩
            have Z9 := K9 gr 32 nilA n1 n2 Z8
            clear P8 Z8 HRF K9 L9 dv dl c4
            cases b with
            | true =>
              have HB := Lib.hid (And.intro V9 (And.intro S9 (And.intro F9 (T9 rfl))))
              have HX := Lib.hid (show ∀ l0 x, lst a9 c z = l0 ++ [x] → lst a c z = [] → (∃ q, Cov (F (zn a z).fr) q) → First (zn a z).fr 0 x from fun l0 x h1 _ _ => by
                obtain ⟨l1, f1, h2, h3⟩ := H9 rfl
                rw [h1] at h2
                have := (List.append_inj' h2 rfl).2
                cases this
                exact h3)
              clear V9 S9 F9 T9 N9 n1 n2 H9
              go_upto_region 20 with fail
              obtain ⟨vb, sb, fb, nb⟩ := HB.out
              have hcb : c < a9.cs.length := by rw [sb.nc]; exact HC.out
              have hct : c < t.nc := by rw [← P9.v.ec]; exact hcb
              have hzb : z < a9.zs.length := by rw [sb.nz]; exact HZ.out
              obtain ⟨L, hL⟩ := get_some (l := a9.cs) rfl hcb
              obtain ⟨l, hl⟩ := get_some (vb.cl hL) hzb
              have hle := lst_of hL hl
              obtain ⟨l0, x, hlx⟩ : ∃ l0 x, l = l0 ++ [x] := by
                rw [hle] at nb
                exact ⟨l.dropLast, l.getLast nb, (List.dropLast_concat_getLast nb).symm⟩
              subst hlx
              obtain ⟨v7, hv7, hLc⟩ := P9.v.c.row c L hL
              have dv : w9.cell? ⟨t.bc, c, none⟩ = some v7 := by rw [P9.v.c.x.cell]; exact hv7
              have c4 := P9.c4
              have HPT := Lib.hid (pctake (.agg #[v7]) L z l0 x w9 ⟨_, rfl, hLc⟩ (vb.vc hL) hl)
              have HLV := Lib.hid (lt_of hv7); have HLL := Lib.hid hL
              have HLS := Lib.hid ((take_plain vb hcb hzb hle).of sb fb); have HFX := Lib.hid (HX.out _ _ hle)
              clear vb sb fb nb hcb hzb hL hl hle hv7 hLc HB HX
              go_wp2_with fail
              refine HPT.out.mono ?_
              rintro e w12 ⟨_, rfl, ⟨v', rfl, hv'⟩, b12⟩
              have P12 := P9.below b12
              have Z12 := Z9.later b12
              obtain ⟨_, _, hvf, _⟩ := hv'.form
              have h1v : v'.oneCell' = true := by rw [hvf]; rfl
              have HVC := Lib.hid hv'
              have hz13 := Blk.new w12 77 #[.slice none 0 0] [.slice none 0 0] rfl
              clear P9 Z9 b12 dv c4 HPT hvf hv'
              go_upto_region 21 with ((with_reducible refine stC (u := .slice none 0 0) (v := v') ?_ ?_ hz13 h1v ?_); (focus rfl); (focus rfl); intro w14 hB14 hg14)
              have b14 : Below w12.heap.size w12 w14 := (below_box w12 (.cells #[.slice none 0 0] 77)).grown hg14 (below_box w12 _).size (fun k hk => by cases hk; exact Nat.le_refl _)
              have P14 := P12.below b14
              have Z14 := Z12.later b14
              have HVC14 := Lib.hid (HVC.out.below b14)
              have c4 := P14.c4
              obtain ⟨g6, hg6e⟩ : ∃ z, w12.heap.size = z := ⟨_, rfl⟩
              rw [hg6e] at hB14 ⊢
              have d6 : w14.cell? ⟨g6, 0, none⟩ = some v' := by rw [hB14.cell]; rfl
              clear hg6e P12 Z12 HVC b14 hg14 hz13 hB14
              have hiz : (Try.prog.info? 77).map (·.size) = some [v'].length := infoC
              have hxz := P14.v.c.x
              have hfit : c + [v'].length ≤ ccs9.length := by have := HLV.out; simp; omega
              have h1c : ∀ u ∈ [v'], u.oneCell' = true := fun u hu => by simp at hu; subst hu; exact h1v
              go_upto_region 24 with ((with_reducible refine wpList_store_part (off := c) (cs := [v']) hiz ?_ ?_ hxz hfit h1c ?_); (focus rfl); (focus rfl); intro w15 hB15 hg15)
              rw [lay_one HLV.out] at hB15
              have P15 := P14.cset hg15 hB15 hct HVC14.out
              rw [setC_of HLL.out] at P15
              have Z15 : Blk w15 gr 32 nilA := Z14.grown hg15 (by simpa using Ne.symm (Z14.ne_type hxz (by decide)))
              clear P14 Z14 hiz hxz hfit h1c hB15 hg15 HVC14 d6 c4
              go_wp2_with first | ((with_reducible refine lda ?_ P15.x ?_); (focus rfl)) | ((with_reducible refine stA (s := t) (bt := a9.bt) (hi := a9.hi) ?_ ?_ Z15 ?_ ?_); (focus rfl); (focus rfl); (focus rfl); intro w16 hB16 hg16)
              refine bodyPost_ret (resA2 rfl _ _ gr _ _ _ rfl hB16 rfl rfl rfl) rfl ?_
              have kp : ∀ {q t : Nat} {bs : List Value}, t ≠ 32 → Blk w15 q t bs → Blk w16 q t bs := fun ht hq => hq.grown hg16 (by simpa using Z15.ne_type hq (Ne.symm ht))
              exact .inl ⟨z, _, x, setC a9 c z l0, by rw [HPK.out]; exact HF2.out, HZ.out, rfl, ⟨t, _, _, rfl, P15.v.past (kp (by decide) P15.v.q.x) (kp (by decide) P15.v.c.x) (fun _ _ => kp (by decide)) (fun _ _ => kp (by decide))⟩, HLS.out, P15.b.grown hg16 P15.b.size (fun q hq => by cases hq; exact hlr), HFX.out⟩
            | false =>
              have D9 := Lib.hid (show DrX a a9 c z 0 from ⟨V9, S9, F9, (N9 rfl).2, fun i h _ => by omega⟩)
              have c4 := P9.c4
              have htc := Lib.hid P9.v.ec
              have hsc := Lib.hid S9.nc
              have hnc4 : t.nc ≤ 4 := by rw [← P9.v.ec, S9.nc, HV.out.nc]; exact HV.out.n4
              have HNC0 := Lib.hid (N9 rfl).1
              clear V9 S9 F9 T9 N9 H9
              go_wp2
              go_loopg [94] t.nc (fun g2 v94 wj => ∃ (d : Nat) (zc ccs : List Value) (b : A), d + g2 = t.nc ∧ v94 = .int .i64 d ∧ AP w gp t zc ccs b wj ∧ Blk wj gr 32 nilA ∧ DrX a b c z d)
              case atStart => exact ⟨0, _, _, a9, by omega, rfl, P9, Z9, D9.out⟩
              case round =>
                clear P9 Z9 D9 c4
                obtain ⟨d, zcd, ccsd, b, hd, rfl, P10, Z10, D10⟩ := hrel
                cases gk with
                | zero =>
                  have hdl : ¬ d < t.nc := by omega
                  have hcb : c < b.cs.length := by rw [D10.s.nc]; exact HC.out
                  have hzb : z < b.zs.length := by rw [D10.s.nz]; exact HZ.out
                  have HRF := Lib.hid (refill w gp t zcd ccsd b c z wr P10 D10.v hcb hzb D10.o)
                  have HNO := Lib.hid (show ¬ ∀ x, ¬ Cov (F (zn b z).fr) x from cov_of_cnt HV.out HZ.out (elg_cnt HV.out HZ.out HE.out) D10.f (fun i hi => D10.e i (by rw [D10.s.nc, ← hsc.out, htc.out] at hi; omega) (by rw [← D10.s.nc]; exact hi)))
                  have HD := Lib.hid D10
                  have n3 := Z10.ne_type P10.v.q.x (by decide)
                  have n4 := Z10.ne_type P10.v.c.x (by decide)
                  clear hcb hzb D10 hd
                  go_wp2_with fail
                  refine HRF.out.mono ?_
                  rintro e w11 ⟨r, rfl, ⟨zc11, ccs11, a11, P11, V11, S11, L11, F11, T11, N11, H11⟩, K11⟩
                  have Z11 := K11 gr 32 nilA n3 n4 Z10
                  have HB := Lib.hid (show VA a11 ∧ Sa a a11 ∧ (∀ y x, Fr a11 y x ↔ Fr a y x) ∧ lst a11 c z ≠ [] from ⟨V11, HD.out.s.trans S11, fun y x => (F11 y x).trans (HD.out.f y x), by
                    cases r with
                    | true => exact T11 rfl
                    | false => exact absurd (N11 rfl).1 HNO.out⟩)
                  have HX := Lib.hid (show ∀ l0 x, lst a11 c z = l0 ++ [x] → lst a c z = [] → (∃ q, Cov (F (zn a z).fr) q) → First (zn a z).fr 0 x from fun _ _ _ _ ⟨q, hq⟩ => absurd hq (HNC0.out q))
                  clear P10 Z10 HRF K11 L11 V11 S11 F11 T11 N11 H11 HNO HD n1 n2 n3 n4
                  go_upto_region 20 with fail
                  obtain ⟨vb, sb, fb, nb⟩ := HB.out
                  have hcb : c < a11.cs.length := by rw [sb.nc]; exact HC.out
                  have hct : c < t.nc := by rw [← P11.v.ec]; exact hcb
                  have hzb : z < a11.zs.length := by rw [sb.nz]; exact HZ.out
                  obtain ⟨L, hL⟩ := get_some (l := a11.cs) rfl hcb
                  obtain ⟨l, hl⟩ := get_some (vb.cl hL) hzb
                  have hle := lst_of hL hl
                  obtain ⟨l0, x, hlx⟩ : ∃ l0 x, l = l0 ++ [x] := by
                    rw [hle] at nb
                    exact ⟨l.dropLast, l.getLast nb, (List.dropLast_concat_getLast nb).symm⟩
                  subst hlx
                  obtain ⟨v7, hv7, hLc⟩ := P11.v.c.row c L hL
                  have dv : w11.cell? ⟨t.bc, c, none⟩ = some v7 := by rw [P11.v.c.x.cell]; exact hv7
                  have c4 := P11.c4
                  have HPT := Lib.hid (pctake (.agg #[v7]) L z l0 x w11 ⟨_, rfl, hLc⟩ (vb.vc hL) hl)
                  have HLV := Lib.hid (lt_of hv7); have HLL := Lib.hid hL
                  have HLS := Lib.hid ((take_plain vb hcb hzb hle).of sb fb); have HFX := Lib.hid (HX.out _ _ hle)
                  clear vb sb fb nb hcb hzb hL hl hle hv7 hLc HB HX
                  go_wp2_with fail
                  refine HPT.out.mono ?_
                  rintro e w12 ⟨_, rfl, ⟨v', rfl, hv'⟩, b12⟩
                  have P12 := P11.below b12
                  have Z12 := Z11.later b12
                  obtain ⟨_, _, hvf, _⟩ := hv'.form
                  have h1v : v'.oneCell' = true := by rw [hvf]; rfl
                  have HVC := Lib.hid hv'
                  have hz13 := Blk.new w12 77 #[.slice none 0 0] [.slice none 0 0] rfl
                  clear P11 Z11 b12 dv c4 HPT hvf hv'
                  go_upto_region 21 with ((with_reducible refine stC (u := .slice none 0 0) (v := v') ?_ ?_ hz13 h1v ?_); (focus rfl); (focus rfl); intro w14 hB14 hg14)
                  have b14 : Below w12.heap.size w12 w14 := (below_box w12 (.cells #[.slice none 0 0] 77)).grown hg14 (below_box w12 _).size (fun k hk => by cases hk; exact Nat.le_refl _)
                  have P14 := P12.below b14
                  have Z14 := Z12.later b14
                  have HVC14 := Lib.hid (HVC.out.below b14)
                  have c4 := P14.c4
                  obtain ⟨g6, hg6e⟩ : ∃ z, w12.heap.size = z := ⟨_, rfl⟩
                  rw [hg6e] at hB14 ⊢
                  have d6 : w14.cell? ⟨g6, 0, none⟩ = some v' := by rw [hB14.cell]; rfl
                  clear hg6e P12 Z12 HVC b14 hg14 hz13 hB14
                  have hiz : (Try.prog.info? 77).map (·.size) = some [v'].length := infoC
                  have hxz := P14.v.c.x
                  have hfit : c + [v'].length ≤ ccs11.length := by have := HLV.out; simp; omega
                  have h1c : ∀ u ∈ [v'], u.oneCell' = true := fun u hu => by simp at hu; subst hu; exact h1v
                  go_upto_region 24 with ((with_reducible refine wpList_store_part (off := c) (cs := [v']) hiz ?_ ?_ hxz hfit h1c ?_); (focus rfl); (focus rfl); intro w15 hB15 hg15)
                  rw [lay_one HLV.out] at hB15
                  have P15 := P14.cset hg15 hB15 hct HVC14.out
                  rw [setC_of HLL.out] at P15
                  have Z15 : Blk w15 gr 32 nilA := Z14.grown hg15 (by simpa using Ne.symm (Z14.ne_type hxz (by decide)))
                  clear P14 Z14 hiz hxz hfit h1c hB15 hg15 HVC14 d6 c4
                  go_wp2_with first | ((with_reducible refine lda ?_ P15.x ?_); (focus rfl)) | ((with_reducible refine stA (s := t) (bt := a11.bt) (hi := a11.hi) ?_ ?_ Z15 ?_ ?_); (focus rfl); (focus rfl); (focus rfl); intro w16 hB16 hg16)
                  refine bodyPost_ret (resA2 rfl _ _ gr _ _ _ rfl hB16 rfl rfl rfl) rfl ?_
                  have kp : ∀ {q t : Nat} {bs : List Value}, t ≠ 32 → Blk w15 q t bs → Blk w16 q t bs := fun ht hq => hq.grown hg16 (by simpa using Z15.ne_type hq (Ne.symm ht))
                  exact .inl ⟨z, _, x, setC a11 c z l0, by rw [HPK.out]; exact HF2.out, HZ.out, rfl, ⟨t, _, _, rfl, P15.v.past (kp (by decide) P15.v.q.x) (kp (by decide) P15.v.c.x) (fun _ _ => kp (by decide)) (fun _ _ => kp (by decide))⟩, HLS.out, P15.b.grown hg16 P15.b.size (fun q hq => by cases hq; exact hlr), HFX.out⟩
                | succ g2 =>
                  have hdl : d < t.nc := by omega
                  have HD := Lib.hid D10
                  have HI2 := Lib.hid hd
                  by_cases hdc : d = c
                  · have tc : ((d : Int) == (c : Int)) = true := by simp; omega
                    have HDN := Lib.hid (D10.same hdc)
                    clear D10 hd hdc HD
                    go_wp2
                    go_roundg g2
                    case rel => exact ⟨d + 1, zcd, ccsd, b, by have := HI2.out; omega, by go_num, P10, Z10, HDN.out⟩
                    case measure => omega
                  · have tc : ((d : Int) == (c : Int)) = false := by simp; omega
                    have hdb : d < b.cs.length := by rw [P10.v.ec]; exact hdl
                    have hzb : z < b.zs.length := by rw [D10.s.nz]; exact HZ.out
                    have HDR := Lib.hid (drain w gp t zcd ccsd b d z wr P10 D10.v hdb hzb)
                    have HNX := Lib.hid (fun b' => D10.next (b' := b') hdb hzb)
                    have n3 := Z10.ne_type P10.v.q.x (by decide)
                    have n4 := Z10.ne_type P10.v.c.x (by decide)
                    clear D10 hd hdc HD hdb hzb
                    go_wp2_with fail
                    refine HDR.out.mono ?_
                    rintro e w11 ⟨rfl, ⟨zc11, ccs11, b11, P11, V11, S11, E11, F11⟩, K11⟩
                    have Z11 := K11 gr 32 nilA n3 n4 Z10
                    have HDN := Lib.hid (HNX.out b11 V11 S11 E11 F11)
                    clear P10 Z10 HDR HNX V11 S11 E11 F11 K11 n3 n4
                    go_wp2
                    go_roundg g2
                    case rel => exact ⟨d + 1, zc11, ccs11, b11, by have := HI2.out; omega, by go_num, P11, Z11, HDN.out⟩
                    case measure => omega
          · have tm : ((lm : Int) == 0) = false := by simp; omega
            have HB := Lib.hid (show VA a ∧ Sa a a ∧ (∀ y x, Fr a y x ↔ Fr a y x) ∧ lst a c z ≠ [] from ⟨HV.out, Sa.refl a, fun _ _ => Iff.rfl, fun h => by
              rw [HLE.out] at h; rw [← HLM.out, h] at hlm0; exact hlm0 rfl⟩)
            have HX := Lib.hid (show ∀ l0 x, lst a c z = l0 ++ [x] → lst a c z = [] → (∃ q, Cov (F (zn a z).fr) q) → First (zn a z).fr 0 x from fun _ _ _ h => absurd h HB.out.2.2.2)
            clear hlm0
            go_upto_region 20 with fail
            clear dv dl c4
            obtain ⟨vb, sb, fb, nb⟩ := HB.out
            have hcb : c < a.cs.length := by rw [sb.nc]; exact HC.out
            have hct : c < t.nc := by rw [← P8.v.ec]; exact hcb
            have hzb : z < a.zs.length := by rw [sb.nz]; exact HZ.out
            obtain ⟨L, hL⟩ := get_some (l := a.cs) rfl hcb
            obtain ⟨l, hl⟩ := get_some (vb.cl hL) hzb
            have hle := lst_of hL hl
            obtain ⟨l0, x, hlx⟩ : ∃ l0 x, l = l0 ++ [x] := by
              rw [hle] at nb
              exact ⟨l.dropLast, l.getLast nb, (List.dropLast_concat_getLast nb).symm⟩
            subst hlx
            obtain ⟨v7, hv7, hLc⟩ := P8.v.c.row c L hL
            have dv : w8.cell? ⟨t.bc, c, none⟩ = some v7 := by rw [P8.v.c.x.cell]; exact hv7
            have c4 := P8.c4
            have HPT := Lib.hid (pctake (.agg #[v7]) L z l0 x w8 ⟨_, rfl, hLc⟩ (vb.vc hL) hl)
            have HLV := Lib.hid (lt_of hv7); have HLL := Lib.hid hL
            have HLS := Lib.hid ((take_plain vb hcb hzb hle).of sb fb); have HFX := Lib.hid (HX.out _ _ hle)
            clear vb sb fb nb hcb hzb hL hl hle hv7 hLc HB HX
            go_wp2_with fail
            refine HPT.out.mono ?_
            rintro e w12 ⟨_, rfl, ⟨v', rfl, hv'⟩, b12⟩
            have P12 := P8.below b12
            have Z12 := Z8.later b12
            obtain ⟨_, _, hvf, _⟩ := hv'.form
            have h1v : v'.oneCell' = true := by rw [hvf]; rfl
            have HVC := Lib.hid hv'
            have hz13 := Blk.new w12 77 #[.slice none 0 0] [.slice none 0 0] rfl
            clear P8 Z8 b12 dv c4 HPT hvf hv'
            go_upto_region 21 with ((with_reducible refine stC (u := .slice none 0 0) (v := v') ?_ ?_ hz13 h1v ?_); (focus rfl); (focus rfl); intro w14 hB14 hg14)
            have b14 : Below w12.heap.size w12 w14 := (below_box w12 (.cells #[.slice none 0 0] 77)).grown hg14 (below_box w12 _).size (fun k hk => by cases hk; exact Nat.le_refl _)
            have P14 := P12.below b14
            have Z14 := Z12.later b14
            have HVC14 := Lib.hid (HVC.out.below b14)
            have c4 := P14.c4
            obtain ⟨g6, hg6e⟩ : ∃ z, w12.heap.size = z := ⟨_, rfl⟩
            rw [hg6e] at hB14 ⊢
            have d6 : w14.cell? ⟨g6, 0, none⟩ = some v' := by rw [hB14.cell]; rfl
            clear hg6e P12 Z12 HVC b14 hg14 hz13 hB14
            have hiz : (Try.prog.info? 77).map (·.size) = some [v'].length := infoC
            have hxz := P14.v.c.x
            have hfit : c + [v'].length ≤ ccs7.length := by have := HLV.out; simp; omega
            have h1c : ∀ u ∈ [v'], u.oneCell' = true := fun u hu => by simp at hu; subst hu; exact h1v
            go_upto_region 24 with ((with_reducible refine wpList_store_part (off := c) (cs := [v']) hiz ?_ ?_ hxz hfit h1c ?_); (focus rfl); (focus rfl); intro w15 hB15 hg15)
            rw [lay_one HLV.out] at hB15
            have P15 := P14.cset hg15 hB15 hct HVC14.out
            rw [setC_of HLL.out] at P15
            have Z15 : Blk w15 gr 32 nilA := Z14.grown hg15 (by simpa using Ne.symm (Z14.ne_type hxz (by decide)))
            clear P14 Z14 hiz hxz hfit h1c hB15 hg15 HVC14 d6 c4
            go_wp2_with first | ((with_reducible refine lda ?_ P15.x ?_); (focus rfl)) | ((with_reducible refine stA (s := t) (bt := a.bt) (hi := a.hi) ?_ ?_ Z15 ?_ ?_); (focus rfl); (focus rfl); (focus rfl); intro w16 hB16 hg16)
            refine bodyPost_ret (resA2 rfl _ _ gr _ _ _ rfl hB16 rfl rfl rfl) rfl ?_
            have kp : ∀ {q t : Nat} {bs : List Value}, t ≠ 32 → Blk w15 q t bs → Blk w16 q t bs := fun ht hq => hq.grown hg16 (by simpa using Z15.ne_type hq (Ne.symm ht))
            exact .inl ⟨z, _, x, setC a c z l0, by rw [HPK.out]; exact HF2.out, HZ.out, rfl, ⟨t, _, _, rfl, P15.v.past (kp (by decide) P15.v.q.x) (kp (by decide) P15.v.c.x) (fun _ _ => kp (by decide)) (fun _ _ => kp (by decide))⟩, HLS.out, P15.b.grown hg16 P15.b.size (fun q hq => by cases hq; exact hlr), HFX.out⟩
      | false =>
        by_cases hN0 : (N : Int) - M < 1
        · have t0 : decide ((N : Int) - M < 1) = true := decide_eq_true hN0
          have HE := Lib.hid (show elg a false z = false from by unfold elg; rw [if_neg (by decide), HNC.out, HMN.out]; simp; omega)
          clear hN0 hz
          go_wp2_with ((with_reducible refine ldaW ?_ ?_ X5.x.x ?_); (focus rfl); (focus rfl))
          refine (HRM.out wr X5).mono ?_
          rintro e w6 ⟨rfl, b6⟩
          have X6 := X5.below b6
          have HQ6 := Lib.hid (HQ.out.below b6)
          clear X5 b6 HCT HRM dq
          have HF2 := Lib.hid HF.out
          rw [HE.out, if_neg (by decide)] at HF2
          go_wp2
          go_roundg gg
          case rel => exact ⟨i + 1, by have := HI.out; omega, by go_num, X6, HQ6.out, HF2.out⟩
          case measure => omega
        · have t0 : decide ((N : Int) - M < 1) = false := decide_eq_false hN0
          have HE := Lib.hid (show elg a false z = true from by unfold elg; rw [if_neg (by decide), HNC.out, HMN.out]; simp; omega)
          clear hN0 hz
          go_wp2_with ((with_reducible refine ldaW ?_ ?_ X5.x.x ?_); (focus rfl); (focus rfl))
          refine (HRM.out wr X5).mono ?_
          rintro e w6 ⟨rfl, b6⟩
          have X6 := X5.below b6
          have HF2 := Lib.hid HF.out
          rw [HE.out, if_pos rfl] at HF2
          clear X5 b6 HCT HRM dq HQ
          have hr6 := HC.out; have hz6 := HZ.out
          go_wp2_with ((with_reducible refine lda ?_ X6.x.x ?_); (focus rfl))
          refine (aclone _ a w6 X6.x.ra HV.out).mono ?_
          rintro e w7 ⟨t, zc7, ccs7, W7, rfl, hW7, hlz, hlc, b7, _, _⟩
          have X7 := X6.below b7
          have hz7 := Blk.new w7 32 #[.slice none 0 0, .int .i64 0, .int .i64 0, .slice none 0 0, .slice none 0 0] nilA rfl
          have hlz := Nat.le_trans X6.x.b.size hlz
          have hlc := Nat.le_trans X6.x.b.size hlc
          clear X6 b7
          go_upto_region 12 with ((with_reducible refine stA (s := t) (bt := a.bt) (hi := a.hi) ?_ ?_ hz7 ?_ ?_); (focus rfl); (focus rfl); (focus rfl); intro w8 hB8 hg8)
          obtain ⟨P8, b8⟩ := AP.start X7.x.b hW7 hlz hlc hB8 hg8
          have Z8 := X7.z.later b8
          have hlr := X7.l
          obtain ⟨gp, hgp⟩ : ∃ z, w7.heap.size = z := ⟨_, rfl⟩
          rw [hgp] at P8 ⊢
          clear hgp X7 hz7 hW7 hlz hlc hB8 hg8 b8
          rw [P8.v.ec] at hr6
          rw [P8.v.ez] at hz6
          obtain ⟨L, hL⟩ := get_some P8.v.ec hr6
          have hLn := HV.out.cl hL
          obtain ⟨l, hl⟩ := get_some hLn HZ.out
          have hle := lst_of hL hl
          obtain ⟨v6, hv6, hLc⟩ := P8.v.c.row c L hL
          have dv : w8.cell? ⟨t.bc, c, none⟩ = some v6 := by rw [P8.v.c.x.cell]; exact hv6
          obtain ⟨lb, lc, rfl, hlc1, hlc2⟩ := hLc.form
          obtain ⟨la, lm, lk, dl, hlm, hsl⟩ := hLc.at hl
          rw [hLn, P8.v.ez] at dv hlc1
          have c4 := P8.c4
          have HLE := Lib.hid hle; have HLM := Lib.hid hlm
          clear hL hLn hl hle hv6 hLc hlm hsl
          by_cases hlm0 : lm = 0
          · have hnil := Lib.hid (show lst a c z = [] by rw [HLE.out]; exact List.eq_nil_of_length_eq_zero (by rw [HLM.out]; exact hlm0))
            subst hlm0
            have HRF := Lib.hid (refill w gp t zc7 ccs7 a c z w8 P8 HV.out HC.out HZ.out hnil.out)
            have n1 := Z8.ne_type P8.v.q.x (by decide)
            have n2 := Z8.ne_type P8.v.c.x (by decide)
            go_wp2_with fail
            refine HRF.out.mono ?_
            rintro e w9 ⟨b, rfl, ⟨zc9, ccs9, a9, P9, V9, S9, L9, F9, T9, N9, H9⟩, K9⟩
            have Z9 := K9 gr 32 nilA n1 n2 Z8
            clear P8 Z8 HRF K9 L9 dv dl c4
            cases b with
            | true =>
              have HB := Lib.hid (And.intro V9 (And.intro S9 (And.intro F9 (T9 rfl))))
              have HX := Lib.hid (show ∀ l0 x, lst a9 c z = l0 ++ [x] → lst a c z = [] → (∃ q, Cov (F (zn a z).fr) q) → First (zn a z).fr 0 x from fun l0 x h1 _ _ => by
                obtain ⟨l1, f1, h2, h3⟩ := H9 rfl
                rw [h1] at h2
                have := (List.append_inj' h2 rfl).2
                cases this
                exact h3)
              clear V9 S9 F9 T9 N9 n1 n2 H9
              go_upto_region 20 with fail
              obtain ⟨vb, sb, fb, nb⟩ := HB.out
              have hcb : c < a9.cs.length := by rw [sb.nc]; exact HC.out
              have hct : c < t.nc := by rw [← P9.v.ec]; exact hcb
              have hzb : z < a9.zs.length := by rw [sb.nz]; exact HZ.out
              obtain ⟨L, hL⟩ := get_some (l := a9.cs) rfl hcb
              obtain ⟨l, hl⟩ := get_some (vb.cl hL) hzb
              have hle := lst_of hL hl
              obtain ⟨l0, x, hlx⟩ : ∃ l0 x, l = l0 ++ [x] := by
                rw [hle] at nb
                exact ⟨l.dropLast, l.getLast nb, (List.dropLast_concat_getLast nb).symm⟩
              subst hlx
              obtain ⟨v7, hv7, hLc⟩ := P9.v.c.row c L hL
              have dv : w9.cell? ⟨t.bc, c, none⟩ = some v7 := by rw [P9.v.c.x.cell]; exact hv7
              have c4 := P9.c4
              have HPT := Lib.hid (pctake (.agg #[v7]) L z l0 x w9 ⟨_, rfl, hLc⟩ (vb.vc hL) hl)
              have HLV := Lib.hid (lt_of hv7); have HLL := Lib.hid hL
              have HLS := Lib.hid ((take_plain vb hcb hzb hle).of sb fb); have HFX := Lib.hid (HX.out _ _ hle)
              clear vb sb fb nb hcb hzb hL hl hle hv7 hLc HB HX
              go_wp2_with fail
              refine HPT.out.mono ?_
              rintro e w12 ⟨_, rfl, ⟨v', rfl, hv'⟩, b12⟩
              have P12 := P9.below b12
              have Z12 := Z9.later b12
              obtain ⟨_, _, hvf, _⟩ := hv'.form
              have h1v : v'.oneCell' = true := by rw [hvf]; rfl
              have HVC := Lib.hid hv'
              have hz13 := Blk.new w12 77 #[.slice none 0 0] [.slice none 0 0] rfl
              clear P9 Z9 b12 dv c4 HPT hvf hv'
              go_upto_region 21 with ((with_reducible refine stC (u := .slice none 0 0) (v := v') ?_ ?_ hz13 h1v ?_); (focus rfl); (focus rfl); intro w14 hB14 hg14)
              have b14 : Below w12.heap.size w12 w14 := (below_box w12 (.cells #[.slice none 0 0] 77)).grown hg14 (below_box w12 _).size (fun k hk => by cases hk; exact Nat.le_refl _)
              have P14 := P12.below b14
              have Z14 := Z12.later b14
              have HVC14 := Lib.hid (HVC.out.below b14)
              have c4 := P14.c4
              obtain ⟨g6, hg6e⟩ : ∃ z, w12.heap.size = z := ⟨_, rfl⟩
              rw [hg6e] at hB14 ⊢
              have d6 : w14.cell? ⟨g6, 0, none⟩ = some v' := by rw [hB14.cell]; rfl
              clear hg6e P12 Z12 HVC b14 hg14 hz13 hB14
              have hiz : (Try.prog.info? 77).map (·.size) = some [v'].length := infoC
              have hxz := P14.v.c.x
              have hfit : c + [v'].length ≤ ccs9.length := by have := HLV.out; simp; omega
              have h1c : ∀ u ∈ [v'], u.oneCell' = true := fun u hu => by simp at hu; subst hu; exact h1v
              go_upto_region 24 with ((with_reducible refine wpList_store_part (off := c) (cs := [v']) hiz ?_ ?_ hxz hfit h1c ?_); (focus rfl); (focus rfl); intro w15 hB15 hg15)
              rw [lay_one HLV.out] at hB15
              have P15 := P14.cset hg15 hB15 hct HVC14.out
              rw [setC_of HLL.out] at P15
              have Z15 : Blk w15 gr 32 nilA := Z14.grown hg15 (by simpa using Ne.symm (Z14.ne_type hxz (by decide)))
              clear P14 Z14 hiz hxz hfit h1c hB15 hg15 HVC14 d6 c4
              go_wp2_with first | ((with_reducible refine lda ?_ P15.x ?_); (focus rfl)) | ((with_reducible refine stA (s := t) (bt := a9.bt) (hi := a9.hi) ?_ ?_ Z15 ?_ ?_); (focus rfl); (focus rfl); (focus rfl); intro w16 hB16 hg16)
              refine bodyPost_ret (resA2 rfl _ _ gr _ _ _ rfl hB16 rfl rfl rfl) rfl ?_
              have kp : ∀ {q t : Nat} {bs : List Value}, t ≠ 32 → Blk w15 q t bs → Blk w16 q t bs := fun ht hq => hq.grown hg16 (by simpa using Z15.ne_type hq (Ne.symm ht))
              exact .inl ⟨z, _, x, setC a9 c z l0, by rw [HPK.out]; exact HF2.out, HZ.out, rfl, ⟨t, _, _, rfl, P15.v.past (kp (by decide) P15.v.q.x) (kp (by decide) P15.v.c.x) (fun _ _ => kp (by decide)) (fun _ _ => kp (by decide))⟩, HLS.out, P15.b.grown hg16 P15.b.size (fun q hq => by cases hq; exact hlr), HFX.out⟩
            | false =>
              have D9 := Lib.hid (show DrX a a9 c z 0 from ⟨V9, S9, F9, (N9 rfl).2, fun i h _ => by omega⟩)
              have c4 := P9.c4
              have htc := Lib.hid P9.v.ec
              have hsc := Lib.hid S9.nc
              have hnc4 : t.nc ≤ 4 := by rw [← P9.v.ec, S9.nc, HV.out.nc]; exact HV.out.n4
              have HNC0 := Lib.hid (N9 rfl).1
              clear V9 S9 F9 T9 N9 H9
              go_wp2
              go_loopg [94] t.nc (fun g2 v94 wj => ∃ (d : Nat) (zc ccs : List Value) (b : A), d + g2 = t.nc ∧ v94 = .int .i64 d ∧ AP w gp t zc ccs b wj ∧ Blk wj gr 32 nilA ∧ DrX a b c z d)
              case atStart => exact ⟨0, _, _, a9, by omega, rfl, P9, Z9, D9.out⟩
              case round =>
                clear P9 Z9 D9 c4
                obtain ⟨d, zcd, ccsd, b, hd, rfl, P10, Z10, D10⟩ := hrel
                cases gk with
                | zero =>
                  have hdl : ¬ d < t.nc := by omega
                  have hcb : c < b.cs.length := by rw [D10.s.nc]; exact HC.out
                  have hzb : z < b.zs.length := by rw [D10.s.nz]; exact HZ.out
                  have HRF := Lib.hid (refill w gp t zcd ccsd b c z wr P10 D10.v hcb hzb D10.o)
                  have HNO := Lib.hid (show ¬ ∀ x, ¬ Cov (F (zn b z).fr) x from cov_of_cnt HV.out HZ.out (elg_cnt HV.out HZ.out HE.out) D10.f (fun i hi => D10.e i (by rw [D10.s.nc, ← hsc.out, htc.out] at hi; omega) (by rw [← D10.s.nc]; exact hi)))
                  have HD := Lib.hid D10
                  have n3 := Z10.ne_type P10.v.q.x (by decide)
                  have n4 := Z10.ne_type P10.v.c.x (by decide)
                  clear hcb hzb D10 hd
                  go_wp2_with fail
                  refine HRF.out.mono ?_
                  rintro e w11 ⟨r, rfl, ⟨zc11, ccs11, a11, P11, V11, S11, L11, F11, T11, N11, H11⟩, K11⟩
                  have Z11 := K11 gr 32 nilA n3 n4 Z10
                  have HB := Lib.hid (show VA a11 ∧ Sa a a11 ∧ (∀ y x, Fr a11 y x ↔ Fr a y x) ∧ lst a11 c z ≠ [] from ⟨V11, HD.out.s.trans S11, fun y x => (F11 y x).trans (HD.out.f y x), by
                    cases r with
                    | true => exact T11 rfl
                    | false => exact absurd (N11 rfl).1 HNO.out⟩)
                  have HX := Lib.hid (show ∀ l0 x, lst a11 c z = l0 ++ [x] → lst a c z = [] → (∃ q, Cov (F (zn a z).fr) q) → First (zn a z).fr 0 x from fun _ _ _ _ ⟨q, hq⟩ => absurd hq (HNC0.out q))
                  clear P10 Z10 HRF K11 L11 V11 S11 F11 T11 N11 H11 HNO HD n1 n2 n3 n4
                  go_upto_region 20 with fail
                  obtain ⟨vb, sb, fb, nb⟩ := HB.out
                  have hcb : c < a11.cs.length := by rw [sb.nc]; exact HC.out
                  have hct : c < t.nc := by rw [← P11.v.ec]; exact hcb
                  have hzb : z < a11.zs.length := by rw [sb.nz]; exact HZ.out
                  obtain ⟨L, hL⟩ := get_some (l := a11.cs) rfl hcb
                  obtain ⟨l, hl⟩ := get_some (vb.cl hL) hzb
                  have hle := lst_of hL hl
                  obtain ⟨l0, x, hlx⟩ : ∃ l0 x, l = l0 ++ [x] := by
                    rw [hle] at nb
                    exact ⟨l.dropLast, l.getLast nb, (List.dropLast_concat_getLast nb).symm⟩
                  subst hlx
                  obtain ⟨v7, hv7, hLc⟩ := P11.v.c.row c L hL
                  have dv : w11.cell? ⟨t.bc, c, none⟩ = some v7 := by rw [P11.v.c.x.cell]; exact hv7
                  have c4 := P11.c4
                  have HPT := Lib.hid (pctake (.agg #[v7]) L z l0 x w11 ⟨_, rfl, hLc⟩ (vb.vc hL) hl)
                  have HLV := Lib.hid (lt_of hv7); have HLL := Lib.hid hL
                  have HLS := Lib.hid ((take_plain vb hcb hzb hle).of sb fb); have HFX := Lib.hid (HX.out _ _ hle)
                  clear vb sb fb nb hcb hzb hL hl hle hv7 hLc HB HX
                  go_wp2_with fail
                  refine HPT.out.mono ?_
                  rintro e w12 ⟨_, rfl, ⟨v', rfl, hv'⟩, b12⟩
                  have P12 := P11.below b12
                  have Z12 := Z11.later b12
                  obtain ⟨_, _, hvf, _⟩ := hv'.form
                  have h1v : v'.oneCell' = true := by rw [hvf]; rfl
                  have HVC := Lib.hid hv'
                  have hz13 := Blk.new w12 77 #[.slice none 0 0] [.slice none 0 0] rfl
                  clear P11 Z11 b12 dv c4 HPT hvf hv'
                  go_upto_region 21 with ((with_reducible refine stC (u := .slice none 0 0) (v := v') ?_ ?_ hz13 h1v ?_); (focus rfl); (focus rfl); intro w14 hB14 hg14)
                  have b14 : Below w12.heap.size w12 w14 := (below_box w12 (.cells #[.slice none 0 0] 77)).grown hg14 (below_box w12 _).size (fun k hk => by cases hk; exact Nat.le_refl _)
                  have P14 := P12.below b14
                  have Z14 := Z12.later b14
                  have HVC14 := Lib.hid (HVC.out.below b14)
                  have c4 := P14.c4
                  obtain ⟨g6, hg6e⟩ : ∃ z, w12.heap.size = z := ⟨_, rfl⟩
                  rw [hg6e] at hB14 ⊢
                  have d6 : w14.cell? ⟨g6, 0, none⟩ = some v' := by rw [hB14.cell]; rfl
                  clear hg6e P12 Z12 HVC b14 hg14 hz13 hB14
                  have hiz : (Try.prog.info? 77).map (·.size) = some [v'].length := infoC
                  have hxz := P14.v.c.x
                  have hfit : c + [v'].length ≤ ccs11.length := by have := HLV.out; simp; omega
                  have h1c : ∀ u ∈ [v'], u.oneCell' = true := fun u hu => by simp at hu; subst hu; exact h1v
                  go_upto_region 24 with ((with_reducible refine wpList_store_part (off := c) (cs := [v']) hiz ?_ ?_ hxz hfit h1c ?_); (focus rfl); (focus rfl); intro w15 hB15 hg15)
                  rw [lay_one HLV.out] at hB15
                  have P15 := P14.cset hg15 hB15 hct HVC14.out
                  rw [setC_of HLL.out] at P15
                  have Z15 : Blk w15 gr 32 nilA := Z14.grown hg15 (by simpa using Ne.symm (Z14.ne_type hxz (by decide)))
                  clear P14 Z14 hiz hxz hfit h1c hB15 hg15 HVC14 d6 c4
                  go_wp2_with first | ((with_reducible refine lda ?_ P15.x ?_); (focus rfl)) | ((with_reducible refine stA (s := t) (bt := a11.bt) (hi := a11.hi) ?_ ?_ Z15 ?_ ?_); (focus rfl); (focus rfl); (focus rfl); intro w16 hB16 hg16)
                  refine bodyPost_ret (resA2 rfl _ _ gr _ _ _ rfl hB16 rfl rfl rfl) rfl ?_
                  have kp : ∀ {q t : Nat} {bs : List Value}, t ≠ 32 → Blk w15 q t bs → Blk w16 q t bs := fun ht hq => hq.grown hg16 (by simpa using Z15.ne_type hq (Ne.symm ht))
                  exact .inl ⟨z, _, x, setC a11 c z l0, by rw [HPK.out]; exact HF2.out, HZ.out, rfl, ⟨t, _, _, rfl, P15.v.past (kp (by decide) P15.v.q.x) (kp (by decide) P15.v.c.x) (fun _ _ => kp (by decide)) (fun _ _ => kp (by decide))⟩, HLS.out, P15.b.grown hg16 P15.b.size (fun q hq => by cases hq; exact hlr), HFX.out⟩
                | succ g2 =>
                  have hdl : d < t.nc := by omega
                  have HD := Lib.hid D10
                  have HI2 := Lib.hid hd
                  by_cases hdc : d = c
                  · have tc : ((d : Int) == (c : Int)) = true := by simp; omega
                    have HDN := Lib.hid (D10.same hdc)
                    clear D10 hd hdc HD
                    go_wp2
                    go_roundg g2
                    case rel => exact ⟨d + 1, zcd, ccsd, b, by have := HI2.out; omega, by go_num, P10, Z10, HDN.out⟩
                    case measure => omega
                  · have tc : ((d : Int) == (c : Int)) = false := by simp; omega
                    have hdb : d < b.cs.length := by rw [P10.v.ec]; exact hdl
                    have hzb : z < b.zs.length := by rw [D10.s.nz]; exact HZ.out
                    have HDR := Lib.hid (drain w gp t zcd ccsd b d z wr P10 D10.v hdb hzb)
                    have HNX := Lib.hid (fun b' => D10.next (b' := b') hdb hzb)
                    have n3 := Z10.ne_type P10.v.q.x (by decide)
                    have n4 := Z10.ne_type P10.v.c.x (by decide)
                    clear D10 hd hdc HD hdb hzb
                    go_wp2_with fail
                    refine HDR.out.mono ?_
                    rintro e w11 ⟨rfl, ⟨zc11, ccs11, b11, P11, V11, S11, E11, F11⟩, K11⟩
                    have Z11 := K11 gr 32 nilA n3 n4 Z10
                    have HDN := Lib.hid (HNX.out b11 V11 S11 E11 F11)
                    clear P10 Z10 HDR HNX V11 S11 E11 F11 K11 n3 n4
                    go_wp2
                    go_roundg g2
                    case rel => exact ⟨d + 1, zc11, ccs11, b11, by have := HI2.out; omega, by go_num, P11, Z11, HDN.out⟩
                    case measure => omega
          · have tm : ((lm : Int) == 0) = false := by simp; omega
            have HB := Lib.hid (show VA a ∧ Sa a a ∧ (∀ y x, Fr a y x ↔ Fr a y x) ∧ lst a c z ≠ [] from ⟨HV.out, Sa.refl a, fun _ _ => Iff.rfl, fun h => by
              rw [HLE.out] at h; rw [← HLM.out, h] at hlm0; exact hlm0 rfl⟩)
            have HX := Lib.hid (show ∀ l0 x, lst a c z = l0 ++ [x] → lst a c z = [] → (∃ q, Cov (F (zn a z).fr) q) → First (zn a z).fr 0 x from fun _ _ _ h => absurd h HB.out.2.2.2)
            clear hlm0
            go_upto_region 20 with fail
            clear dv dl c4
            obtain ⟨vb, sb, fb, nb⟩ := HB.out
            have hcb : c < a.cs.length := by rw [sb.nc]; exact HC.out
            have hct : c < t.nc := by rw [← P8.v.ec]; exact hcb
            have hzb : z < a.zs.length := by rw [sb.nz]; exact HZ.out
            obtain ⟨L, hL⟩ := get_some (l := a.cs) rfl hcb
            obtain ⟨l, hl⟩ := get_some (vb.cl hL) hzb
            have hle := lst_of hL hl
            obtain ⟨l0, x, hlx⟩ : ∃ l0 x, l = l0 ++ [x] := by
              rw [hle] at nb
              exact ⟨l.dropLast, l.getLast nb, (List.dropLast_concat_getLast nb).symm⟩
            subst hlx
            obtain ⟨v7, hv7, hLc⟩ := P8.v.c.row c L hL
            have dv : w8.cell? ⟨t.bc, c, none⟩ = some v7 := by rw [P8.v.c.x.cell]; exact hv7
            have c4 := P8.c4
            have HPT := Lib.hid (pctake (.agg #[v7]) L z l0 x w8 ⟨_, rfl, hLc⟩ (vb.vc hL) hl)
            have HLV := Lib.hid (lt_of hv7); have HLL := Lib.hid hL
            have HLS := Lib.hid ((take_plain vb hcb hzb hle).of sb fb); have HFX := Lib.hid (HX.out _ _ hle)
            clear vb sb fb nb hcb hzb hL hl hle hv7 hLc HB HX
            go_wp2_with fail
            refine HPT.out.mono ?_
            rintro e w12 ⟨_, rfl, ⟨v', rfl, hv'⟩, b12⟩
            have P12 := P8.below b12
            have Z12 := Z8.later b12
            obtain ⟨_, _, hvf, _⟩ := hv'.form
            have h1v : v'.oneCell' = true := by rw [hvf]; rfl
            have HVC := Lib.hid hv'
            have hz13 := Blk.new w12 77 #[.slice none 0 0] [.slice none 0 0] rfl
            clear P8 Z8 b12 dv c4 HPT hvf hv'
            go_upto_region 21 with ((with_reducible refine stC (u := .slice none 0 0) (v := v') ?_ ?_ hz13 h1v ?_); (focus rfl); (focus rfl); intro w14 hB14 hg14)
            have b14 : Below w12.heap.size w12 w14 := (below_box w12 (.cells #[.slice none 0 0] 77)).grown hg14 (below_box w12 _).size (fun k hk => by cases hk; exact Nat.le_refl _)
            have P14 := P12.below b14
            have Z14 := Z12.later b14
            have HVC14 := Lib.hid (HVC.out.below b14)
            have c4 := P14.c4
            obtain ⟨g6, hg6e⟩ : ∃ z, w12.heap.size = z := ⟨_, rfl⟩
            rw [hg6e] at hB14 ⊢
            have d6 : w14.cell? ⟨g6, 0, none⟩ = some v' := by rw [hB14.cell]; rfl
            clear hg6e P12 Z12 HVC b14 hg14 hz13 hB14
            have hiz : (Try.prog.info? 77).map (·.size) = some [v'].length := infoC
            have hxz := P14.v.c.x
            have hfit : c + [v'].length ≤ ccs7.length := by have := HLV.out; simp; omega
            have h1c : ∀ u ∈ [v'], u.oneCell' = true := fun u hu => by simp at hu; subst hu; exact h1v
            go_upto_region 24 with ((with_reducible refine wpList_store_part (off := c) (cs := [v']) hiz ?_ ?_ hxz hfit h1c ?_); (focus rfl); (focus rfl); intro w15 hB15 hg15)
            rw [lay_one HLV.out] at hB15
            have P15 := P14.cset hg15 hB15 hct HVC14.out
            rw [setC_of HLL.out] at P15
            have Z15 : Blk w15 gr 32 nilA := Z14.grown hg15 (by simpa using Ne.symm (Z14.ne_type hxz (by decide)))
            clear P14 Z14 hiz hxz hfit h1c hB15 hg15 HVC14 d6 c4
            go_wp2_with first | ((with_reducible refine lda ?_ P15.x ?_); (focus rfl)) | ((with_reducible refine stA (s := t) (bt := a.bt) (hi := a.hi) ?_ ?_ Z15 ?_ ?_); (focus rfl); (focus rfl); (focus rfl); intro w16 hB16 hg16)
            refine bodyPost_ret (resA2 rfl _ _ gr _ _ _ rfl hB16 rfl rfl rfl) rfl ?_
            have kp : ∀ {q t : Nat} {bs : List Value}, t ≠ 32 → Blk w15 q t bs → Blk w16 q t bs := fun ht hq => hq.grown hg16 (by simpa using Z15.ne_type hq (Ne.symm ht))
            exact .inl ⟨z, _, x, setC a c z l0, by rw [HPK.out]; exact HF2.out, HZ.out, rfl, ⟨t, _, _, rfl, P15.v.past (kp (by decide) P15.v.q.x) (kp (by decide) P15.v.c.x) (fun _ _ => kp (by decide)) (fun _ _ => kp (by decide))⟩, HLS.out, P15.b.grown hg16 P15.b.size (fun q hq => by cases hq; exact hlr), HFX.out⟩
end Go.Proofs.Ytdddkfpcbfgocaa
namespace Go.Zn
open Go.Can
theorem cntA_same {a b : A} {z : Nat} (h : VA a) (hb : VA b) (hs : Sa a b) (hf : ∀ y q, Fr b y q ↔ Fr a y q) (hz : z < a.zs.length) : cntA b z = cntA a z := by
  rw [cnt_fr h hz, cnt_fr hb (by rw [hs.nz]; exact hz)]
  obtain ⟨_, _, h3, h4, _⟩ := hs.par z
  rw [h3, h4]
  exact nS_ext fun x _ _ => hf z x
/-- A zone has room for a block, and all frames of a block are free. -/
def fits (a : A) (k z : Nat) : Prop := pw k ≤ (cntA a z : Int) - (zn a z).mn ∧ ∃ f, R (zn a z).st (zn a z).ct f k ∧ ∀ x, In f k x → Fr a z x
structure DrE (a b : A) (z d : Nat) : Prop where
  v : VA b
  s : Sa a b
  f : ∀ y q, Fr b y q ↔ Fr a y q
  e : ∀ i, i < d → i < a.cs.length → lst b i z = []
theorem DrE.next {a b b' : A} {z d : Nat} (h : DrE a b z d) (hd : d < b.cs.length) (hz : z < b.zs.length) (hv : VA b') (hs : Sa b b') (he : b'.cs = (setC b d z []).cs) (hf : ∀ y q, Fr b' y q ↔ Fr b y q) : DrE a b' z (d + 1) := by
  have key : ∀ i, lst b' i z = if i = d ∧ z = z then [] else lst b i z := fun i => by
    have : lst b' i z = lst (setC b d z []) i z := by unfold lst; rw [he]
    rw [this, lst_setC hd (h.v.lz hd hz)]
  refine ⟨hv, h.s.trans hs, fun y q => (hf y q).trans (h.f y q), fun i h1 h2 => ?_⟩
  rw [key]
  by_cases e : i = d
  · rw [if_pos ⟨e, rfl⟩]
  · rw [if_neg (fun h => e h.1)]; exact h.e i (by omega) h2
theorem DrE.cov {a b : A} {z d : Nat} (h : DrE a b z d) (hd : a.cs.length ≤ d) {x : Int} : Cov (F (zn b z).fr) x ↔ Fr a z x := by
  rw [← h.f z x]
  constructor
  · exact .inl
  · rintro (h1 | ⟨i, hi, hm⟩)
    · exact h1
    · rw [h.s.nc] at hi; rw [h.e i (by omega) hi] at hm; cases hm
end Go.Zn
namespace Go.Proofs.Ytdddkfpcbfgocaa
open Go.RowKit Go.Over Go.Zn Go.Can Go.Seg Go.Grow
/-- What AllocBlock gives. -/
def AllocB (w : World) (a : A) (k : Nat) (e : Ending) (w' : World) : Prop :=
  Below w.heap.size w w' ∧
    ((∃ (s : Sh) (bt hi z : Nat) (f : Int), e = .returned (.tuple #[.agg (s.cells bt hi).toArray, .int .i64 f, .int .i64 0]) ∧ z < a.zs.length ∧ pw k ≤ (cntA a z : Int) - (zn a z).mn ∧ R (zn a z).st (zn a z).ct f k ∧ ∀ x, In f k x → Fr a z x) ∨
     (e = .returned (.tuple #[.agg nilA.toArray, .int .i64 0, .int .i64 16]) ∧ ∀ z, z < a.zs.length → ¬ fits a k z))
set_option maxRecDepth 100000 in set_option maxHeartbeats 3200000 in
theorem allocB (v : Value) (a : A) (c k : Nat) (w : World) (H : Ra w v a) (hV : VA a) (hc : c < a.cs.length) (hk : k < 5) : Calls Try.prog 10 #[v, .int .i64 c, .int .i64 k] w (AllocB w a k) := by
  have HV := Lib.hid hV; have HC := Lib.hid hc
  have hnc := hV.nc
  clear hV
  obtain ⟨s, zc, ccs, rfl, hW⟩ := H
  have X0 := AZ.new hW
  clear hW
  go_enter Try.func10, Try.ntmps10
  go_upto_region 1 with fail
  obtain ⟨w1, hw1⟩ : ∃ W, W = (w.alloc (.cells (s.cells a.bt a.hi).toArray 32)).alloc (.cells #[.slice none 0 0, .int .i64 0, .int .i64 0, .slice none 0 0, .slice none 0 0] 32) := ⟨_, rfl⟩
  rw [← hw1] at X0 ⊢
  obtain ⟨gr, hgr⟩ : ∃ g, w.heap.size + 1 = g := ⟨_, rfl⟩
  obtain ⟨g, hg0⟩ : ∃ g, w.heap.size = g := ⟨_, rfl⟩
  have X1 : AZ w g gr s zc ccs a w1 := by rw [← hgr, ← hg0]; exact X0
  rw [hgr, hg0]
  clear hw1 X0 hg0 hgr
  go_wp2_with ((with_reducible refine lda ?_ X1.x.x ?_); (focus rfl))
  refine (acheck _ a w1 X1.x.ra HV.out).mono ?_
  rintro e w2 ⟨rfl, b2⟩
  have X2 := X1.below b2
  have hcn : c < s.nn := by rw [← X2.x.v.en, ← hnc]; exact HC.out
  have c0 := X2.x.c0
  have t1 : decide ((s.nn : Int) ≤ (c : Int)) = false := by simp; omega
  have t2 : decide ((4 : Int) < (k : Int)) = false := by simp; omega
  clear X1 b2 hc
  go_wp2_with ((with_reducible refine lda ?_ X2.x.x ?_); (focus rfl))
  refine (aclone _ a w2 X2.x.ra HV.out).mono ?_
  rintro e w7 ⟨t, zc7, ccs7, W7, rfl, hW7, hlz, hlc, b7, _, _⟩
  have X7 := X2.below b7
  have hz7 := Blk.new w7 32 #[.slice none 0 0, .int .i64 0, .int .i64 0, .slice none 0 0, .slice none 0 0] nilA rfl
  have hlz := Nat.le_trans X2.x.b.size hlz
  have hlc := Nat.le_trans X2.x.b.size hlc
  clear X2 b7 c0
  go_upto_region 7 with ((with_reducible refine stA (s := t) (bt := a.bt) (hi := a.hi) ?_ ?_ hz7 ?_ ?_); (focus rfl); (focus rfl); (focus rfl); intro w8 hB8 hg8)
  obtain ⟨P8, b8⟩ := AP.start X7.x.b hW7 hlz hlc hB8 hg8
  have X8 := X7.below b8
  have hlr := X7.l
  obtain ⟨gp, hgp⟩ : ∃ z, w7.heap.size = z := ⟨_, rfl⟩
  rw [hgp] at P8 ⊢
  clear hgp X7 hz7 hW7 hlz hlc hB8 hg8 b8
  simp only [Act.put]
  have hnl : c < a.nodes.length := by rw [← hnc]; exact HC.out
  obtain ⟨nb, no, han, dn⟩ := X8.x.node hnl
  have hr := HV.out.nr _ (List.getElem_mem hnl)
  rw [show a.nodes[c] = a.nodes.getD c 0 by rw [List.getD_eq_getElem?_getD, List.getElem?_eq_getElem hnl]; rfl] at hr
  obtain ⟨x, hx⟩ : ∃ x, a.nodes.getD c 0 = x := ⟨_, rfl⟩
  rw [hx] at dn hr
  have c0 := X8.x.c0
  rw [han] at c0
  have c3 := X8.x.c3
  have HZ6 := Lib.hid HV.out.z6
  have HG := Lib.hid (show ZG a.zs from ⟨HV.out.z1, HV.out.z6, fun y hy => by
    obtain ⟨i', hi'⟩ := List.getElem?_of_mem hy
    have := HV.out.vz i' (lt_of hi'); rw [zn_of hi'] at this; exact this.r⟩)
  have HZO := Lib.hid (fun W (q : QV W s.bz zc a.zs) => zorder s.bz s.nz s.cz zc a.zs x false W q X8.x.v.ez X8.x.v.zl HG.out hr.1 hr.2)
  clear hnl hx hr hnc t1
  refine wp_region_plan (CN g s nb no c x) (.quiet [0, 1, 2, 3, 4, 5, 6] (.only 7 (.quiet [8, 9, 10, 11, 12] .done))) 99 (by kernel_rfl) (by kernel_rfl) ⟨c0, c3, dn⟩ ?_
  intro W hWW hWe
  have bW : Below w8.heap.size w8 W := by rw [hWe]; exact (Below.refl _ _).drew
  clear hWe
  have X3 := X8.below bW
  have P3 := P8.below bW
  clear X8 P8 bW c0 c3 dn
  simp only [wpPlan, inOrder, List.filterMap_cons, List.filterMap_nil, List.getElem?_cons_zero, List.getElem?_cons_succ]
  have q1 := fun z => (hold_ok (S0 := CN g s nb no c x) hWW z).1
  have q2 := fun z => (hold_ok (S0 := CN g s nb no c x) hWW z).2.1
  have q3 := fun z => (hold_ok (S0 := CN g s nb no c x) hWW z).2.2
  show wpQuiet _ _ _ _ (_ :: _ :: _ :: _ :: _ :: _ :: [_]) _
  repeat (go_big_quiet_step (fail))
  refine wpQuiet_nil ?_
  have HWW := Lib.hid hWW
  clear q1 q2 q3 hWW
  show wpList _ _ _ [_] _ _
  go_wp2_with fail
  refine (HZO.out W X3.x.v.q).mono ?_
  rintro e w3 ⟨vo, rfl, hO, b3⟩
  have P4 := P3.below b3
  have Z4 := X3.z.later b3
  go_wp2
  refine ⟨hold_of ⟨cell_later b3 HWW.out.1, cell_later b3 HWW.out.2.1, cell_later b3 HWW.out.2.2⟩, ?_⟩
  show wpQuiet _ _ _ _ (_ :: _ :: _ :: _ :: [_]) _
  repeat (go_big_quiet_step (fail))
  refine wpQuiet_nil ?_
  refine NoPanic.normal ?_
  clear X3 P3 b3 HZO HWW HG han
  obtain ⟨P, hP⟩ : ∃ P, ordP a.zs x false = P := ⟨_, rfl⟩
  have hP6 : P.length ≤ 6 := by rw [← hP]; exact Nat.le_trans ordP_len HZ6.out
  have HM := Lib.hid (show ∀ q, q ∈ P ↔ ∃ i : Nat, i < a.zs.length ∧ q = i from fun q => by
    rw [← hP, mem_ordP]
    exact ⟨fun ⟨i, h1, h2, _⟩ => ⟨i, h1, h2⟩, fun ⟨i, h1, h2⟩ => ⟨i, h1, h2, rfl⟩⟩)
  rw [hP] at hO
  obtain ⟨al, cl, rfl, hl1, hl2, hl3, hl4⟩ := id hO
  obtain ⟨n, hn⟩ : ∃ n, P.length = n := ⟨_, rfl⟩
  rw [hn] at hO hl1 hP6 ⊢
  have HN := Lib.hid hn
  have HSL := Lib.hid hO
  have D4 := Lib.hid (show DrE a a 0 0 from ⟨HV.out, Sa.refl a, fun _ _ => Iff.rfl, fun i h _ => by omega⟩)
  clear hP hn hl4 hO
  go_wp2
  go_loopg [58] n (fun gg v58 wr => ∃ (i : Nat) (zc ccs : List Value) (b : A), i + gg = n ∧ v58 = .int .i64 i ∧ AP w gp t zc ccs b wr ∧ Blk wr gr 32 nilA ∧ Sl wr (.slice al n cl) P ∧ DrE a b 0 0 ∧ ∀ z : Nat, (z : Int) ∈ P.take i → ¬ fits a k z)
  case atStart => exact ⟨0, _, _, a, by omega, rfl, P4, Z4, HSL.out, D4.out, fun z h => by simp at h⟩
  case round =>
    clear P4 Z4 HSL D4
    obtain ⟨i, zc9, ccs9, b, hi, rfl, P9, Z9, S9, D9, F9⟩ := hrel
    have HNF := Lib.hid F9
    clear F9
    cases gk with
    | zero =>
      have hil : ¬ i < n := by omega
      have HEND := Lib.hid (show ∀ z, z < a.zs.length → ¬ fits a k z from fun z hz => HNF.out z (by rw [List.take_of_length_le (by rw [HN.out]; omega)]; exact (HM.out _).2 ⟨z, hz, rfl⟩))
      clear HNF hi S9 D9
      go_wp2_with ((with_reducible refine stN ?_ ?_ Z9 ?_ ?_); (focus rfl); (focus rfl); (focus rfl); intro w9 hB9 hg9)
      refine bodyPost_ret (resA2 rfl _ _ gr _ _ _ rfl hB9 rfl rfl rfl) rfl ?_
      exact ⟨P9.b.grown hg9 P9.b.size (fun q hq => by cases hq; exact hlr), .inr ⟨rfl, HEND.out⟩⟩
    | succ gg =>
      have hil : i < n := by omega
      obtain ⟨q, hq⟩ := get_some HN.out hil
      obtain ⟨z, hz, rfl⟩ := (HM.out q).1 (List.mem_of_getElem? hq)
      obtain ⟨a1, c1, e1, k1, k2, k3, hI⟩ := id S9
      rw [HN.out] at e1
      cases e1
      obtain ⟨bo, oo, rfl, dq⟩ := hI.at hq
      have HZ := Lib.hid hz; have HI := Lib.hid hi
      have HS9 := Lib.hid S9
      have HD := Lib.hid (show DrE a b z 0 from ⟨D9.v, D9.s, D9.f, fun i h _ => by omega⟩)
      have hzb : z < b.zs.length := by rw [D9.s.nz]; exact hz
      have hcs := cntA_same HV.out D9.v D9.s D9.f hz
      have hmn := (D9.s.par z).mn
      obtain ⟨N, hNc⟩ : ∃ N, cntA a z = N := ⟨_, rfl⟩
      obtain ⟨M, hMn⟩ : ∃ M, (zn a z).mn = M := ⟨_, rfl⟩
      have HNC := Lib.hid hNc; have HMN := Lib.hid hMn
      have C := fun u => calls_over (aroom _ b z _ (P9.below (below_over wr u)).ra D9.v hzb)
      rw [hcs, hmn, hNc, hMn] at C
      have HC2 := Lib.hid C
      have HNX := Lib.hid (show ∀ z' : Nat, (z' : Int) ∈ P.take (i + 1) → z' ≠ z → ¬ fits a k z' from fun z' h h2 => HNF.out z' (by
        rw [List.take_add_one, hq] at h
        simp at h
        rcases h with h | h
        · exact h
        · omega))
      obtain ⟨m, hm⟩ : ∃ m, 2 ^ k = m := ⟨_, rfl⟩
      have hwm : ∀ j : Nat, j = k → wrap64 ((2 : Int) ^ j) = (m : Int) := fun j hj => by subst hj; rw [← hm]; exact wrap_pow hk
      have hpm := Lib.hid (show pw k = (m : Int) by rw [← hm]; rfl)
      clear hq S9 hI k1 k2 k3 D9 hz hcs hmn hNc hMn C HNF hm hi
      by_cases hroom : (N : Int) - M < (m : Int)
      · have t0 : decide ((N : Int) - M < (m : Int)) = true := decide_eq_true hroom
        have HNO := Lib.hid (show ¬ fits a k z from fun h => by
          have := h.1
          rw [hpm.out, HNC.out, HMN.out] at this
          omega)
        clear hroom
        go_wp2_with fail
        refine wp_region_over (by kernel_rfl) (by kernel_rfl) ?_
        go_big_quiet_want
        rename_i K hK
        refine quiet_run (v := .agg (t.cells b.bt b.hi).toArray) (fun w' hw' => ?_) ?_
        · obtain ⟨u, rfl⟩ := hw'
          exact run_load_row rfl gp rfl 32 (t.cells b.bt b.hi).toArray (0, 0) _ (P9.x.later (below_over wr u)) Try.underlying32 rfl (by rw [infoA]; rfl)
        refine hK _ ?_
        clear hK K
        simp only [Act.put, List.setIfInBounds_toArray, List.set_cons_succ, List.set_cons_zero]
        repeat (go_big_quiet_step ((go_at_call 24; exact HC2.out _)))
        refine wpQuiet_nil ?_
        rintro _ ⟨u, rfl⟩
        have P10 := P9.below (below_over wr u)
        have Z10 := Z9.later (below_over wr u)
        have S10 := Lib.hid (HS9.out.below (below_over wr u))
        have HNF := Lib.hid (show ∀ z' : Nat, (z' : Int) ∈ P.take (i + 1) → ¬ fits a k z' from fun z' h => by
          by_cases e : z' = z
          · subst e; exact HNO.out
          · exact HNX.out z' h e)
        have HD0 := Lib.hid (show DrE a b 0 0 from ⟨HD.out.v, HD.out.s, HD.out.f, fun i h _ => by omega⟩)
        clear P9 Z9 HS9 HNX HNO HD dq HC2
        obtain ⟨wo, hwo⟩ : ∃ W, W = over wr u := ⟨_, rfl⟩
        rw [← hwo] at P10 Z10 S10 ⊢
        clear hwo
        go_wp2
        go_roundg gg
        case rel => exact ⟨i + 1, zc9, ccs9, b, by have := HI.out; omega, by go_num, P10, Z10, S10.out, HD0.out, HNF.out⟩
        case measure => omega
      · have t0 : decide ((N : Int) - M < (m : Int)) = false := decide_eq_false hroom
        have HRM := Lib.hid (show pw k ≤ (cntA a z : Int) - (zn a z).mn from by
          rw [hpm.out, HNC.out, HMN.out]; omega)
        clear hroom
        go_wp2_with fail
        refine wp_region_over (by kernel_rfl) (by kernel_rfl) ?_
        go_big_quiet_want
        rename_i K hK
        refine quiet_run (v := .agg (t.cells b.bt b.hi).toArray) (fun w' hw' => ?_) ?_
        · obtain ⟨u, rfl⟩ := hw'
          exact run_load_row rfl gp rfl 32 (t.cells b.bt b.hi).toArray (0, 0) _ (P9.x.later (below_over wr u)) Try.underlying32 rfl (by rw [infoA]; rfl)
        refine hK _ ?_
        clear hK K
        simp only [Act.put, List.setIfInBounds_toArray, List.set_cons_succ, List.set_cons_zero]
        repeat (go_big_quiet_step ((go_at_call 24; exact HC2.out _)))
        refine wpQuiet_nil ?_
        rintro _ ⟨u, rfl⟩
        have P10 := P9.below (below_over wr u)
        have Z10 := Z9.later (below_over wr u)
        have S10 := Lib.hid (HS9.out.below (below_over wr u))
        have c4 := P10.c4
        clear P9 Z9 HS9 dq HC2 t0 hwm
        obtain ⟨wo, hwo⟩ : ∃ W, W = over wr u := ⟨_, rfl⟩
        rw [← hwo] at P10 Z10 S10 c4 ⊢
        clear hwo
        have htc := Lib.hid (show a.cs.length = t.nc by rw [← HD.out.s.nc]; exact P10.v.ec)
        have hnc4 : t.nc ≤ 4 := by rw [← htc.out, HV.out.nc]; exact HV.out.n4
        go_wp2
        go_loopg [71] t.nc (fun g2 v71 wj => ∃ (d : Nat) (zc ccs : List Value) (b : A), d + g2 = t.nc ∧ v71 = .int .i64 d ∧ AP w gp t zc ccs b wj ∧ Blk wj gr 32 nilA ∧ Sl wj (.slice (some ⟨bo, oo, none⟩) n cl) P ∧ DrE a b z d)
        case atStart => exact ⟨0, _, _, b, by omega, rfl, P10, Z10, S10.out, HD.out⟩
        case round =>
          clear P10 Z10 S10 HD c4
          obtain ⟨d, zcd, ccsd, b, hd, rfl, P11, Z11, S11, D11⟩ := hrel
          have HS11 := Lib.hid S11
          have n3 := Z11.ne_type P11.v.q.x (by decide)
          have n4 := Z11.ne_type P11.v.c.x (by decide)
          clear S11
          cases gk with
          | zero =>
            have hdl : ¬ d < t.nc := by omega
            have hzb : z < b.zs.length := by rw [D11.s.nz]; exact HZ.out
            obtain ⟨y, hy⟩ := get_some (l := b.zs) rfl hzb
            have hyz := zn_of hy
            have hvz : VZ y := by rw [← hyz]; exact D11.v.vz z hzb
            have hpar := D11.s.par z
            have hcov : ∀ {x : Int}, Cov (F y.fr) x ↔ Fr a z x := fun {x} => by rw [← hyz]; exact D11.cov (by rw [htc.out]; omega)
            rw [hyz] at hpar
            have Q11 := P11.v.q
            have c3 := P11.c3
            have HAL := Lib.hid (alloc (.agg (seg zcd (z * 10) 10).toArray) y k wr ⟨_, rfl, Q11.row z y hy⟩ hvz hk)
            have HY := Lib.hid hy; have HVZ := Lib.hid hvz; have HPAR := Lib.hid hpar; have HCOV := Lib.hid (show ∀ x, Cov (F y.fr) x ↔ Fr a z x from fun x => hcov)
            have HD := Lib.hid D11
            rw [P11.v.ez] at hzb
            clear D11 hd hy hyz hvz hpar hcov
            go_wp2_with ((with_reducible refine ldq ?_ Q11 HY.out ?_); (focus rfl))
            refine HAL.out.mono ?_
            rintro e w12 ⟨b12, ⟨cs, f, fr, rfl, ⟨hzv, _⟩, hvd, hR, hIn, hcv, _⟩ | ⟨hno, rfl⟩⟩
            · have P12 := P11.below b12
              have Z12 := Z11.later b12
              have hcl := hzv.len
              have h1c := hzv.one
              have hz13 := Blk.new w12 39 #[.int .i64 0, .int .i64 0, .int .i64 0, .int .i64 0, .int .i64 0, .slice none 0 0, .slice none 0 0, .slice none 0 0, .slice none 0 0, .slice none 0 0] zP rfl
              have HR := Lib.hid (show R (zn a z).st (zn a z).ct f k ∧ ∀ x, In f k x → Fr a z x from ⟨by rw [← HPAR.out.st, ← HPAR.out.ct]; exact hR, fun x hx => (HCOV.out x).1 (hIn x hx)⟩)
              clear P11 Z11 HS11 b12 Q11 c3 hzv hvd hR hIn hcv HAL
              go_upto_region 18 with ((with_reducible refine stZ (cs := cs) ?_ ?_ hz13 zP_len hcl h1c ?_); (focus rfl); (focus rfl); intro w14 hB14 hg14)
              have b14 : Below w12.heap.size w12 w14 := (below_box w12 (.cells #[.int .i64 0, .int .i64 0, .int .i64 0, .int .i64 0, .int .i64 0, .slice none 0 0, .slice none 0 0, .slice none 0 0, .slice none 0 0, .slice none 0 0] 39)).grown hg14 (below_box w12 _).size (fun k hk => by cases hk; exact Nat.le_refl _)
              have P14 := P12.below b14
              have Z14 := Z12.later b14
              have c3 := P14.c3
              obtain ⟨g8, hg8e⟩ : ∃ z, w12.heap.size = z := ⟨_, rfl⟩
              rw [hg8e] at hB14 ⊢
              have hiz : (Try.prog.info? 39).map (·.size) = some cs.length := by rw [infoZ, hcl]
              have hxz := P14.v.q.x
              have hfit : z * 10 + cs.length ≤ zcd.length := by have := P14.v.q.n; rw [P14.v.ez] at this; omega
              clear hg8e P12 Z12 b14 hg14 hz13
              go_upto_region 20 with first | ((with_reducible refine ld ?_ hB14 hcl ?_); (focus rfl)) | ((with_reducible refine wpList_store_part (off := z * 10) (cs := cs) hiz ?_ ?_ hxz hfit h1c ?_); (focus rfl); (focus rfl); intro w15 hB15 hg15)
              have Z15 : Blk w15 gr 32 nilA := Z14.grown hg15 (by simpa using Ne.symm (Z14.ne_type hxz (by decide)))
              have hx15 : Blk w15 gp 32 (t.cells b.bt b.hi) := P14.x.grown hg15 (by simpa using Ne.symm (P14.x.ne_type hxz (by decide)))
              have b15 : Below w.heap.size w w15 := P14.b.grown hg15 P14.b.size (fun q hq => by cases hq; exact P14.lz)
              clear P14 Z14 c3 hiz hxz hfit hB15 hg15 hB14
              go_wp2_with first | ((with_reducible refine lda ?_ hx15 ?_); (focus rfl)) | ((with_reducible refine stA (s := t) (bt := b.bt) (hi := b.hi) ?_ ?_ Z15 ?_ ?_); (focus rfl); (focus rfl); (focus rfl); intro w16 hB16 hg16)
              refine bodyPost_ret (resA2 rfl _ _ gr _ _ _ rfl hB16 rfl rfl rfl) rfl ?_
              exact ⟨b15.grown hg16 b15.size (fun q hq => by cases hq; exact hlr), .inl ⟨t, b.bt, b.hi, z, f, rfl, HZ.out, HRM.out, HR.out.1, HR.out.2⟩⟩
            · have P12 := P11.below b12
              have Z12 := Z11.later b12
              have S12 := HS11.out.below b12
              have hz13 := Blk.new w12 39 #[.int .i64 0, .int .i64 0, .int .i64 0, .int .i64 0, .int .i64 0, .slice none 0 0, .slice none 0 0, .slice none 0 0, .slice none 0 0, .slice none 0 0] zP rfl
              have hzl : (newC noZ).length = 10 := rfl
              have h1c : ∀ v ∈ newC noZ, v.oneCell' = true := by decide
              have HNO := Lib.hid (show ¬ fits a k z from fun ⟨_, f, hf1, hf2⟩ => by
                obtain ⟨j, q, h1, h2, h3⟩ := (some_block HVZ.out.l).2 ⟨f, by rw [HPAR.out.st, HPAR.out.ct]; exact hf1, fun x hx => (HCOV.out x).2 (hf2 x hx)⟩
                rw [hno j h1 h2] at h3
                cases h3)
              have HNF := Lib.hid (show ∀ z' : Nat, (z' : Int) ∈ P.take (i + 1) → ¬ fits a k z' from fun z' h => by
                by_cases e : z' = z
                · subst e; exact HNO.out
                · exact HNX.out z' h e)
              have HD0 := Lib.hid (show DrE a b 0 0 from ⟨HD.out.v, HD.out.s, HD.out.f, fun i h _ => by omega⟩)
              clear P11 Z11 HS11 b12 Q11 c3 hno HAL HNO HNX
              go_wp2_with ((with_reducible refine stZ (cs := newC noZ) ?_ ?_ hz13 zP_len hzl h1c ?_); (focus rfl); (focus rfl); intro w14 hB14 hg14)
              have b14 : Below w12.heap.size w12 w14 := (below_box w12 (.cells #[.int .i64 0, .int .i64 0, .int .i64 0, .int .i64 0, .int .i64 0, .slice none 0 0, .slice none 0 0, .slice none 0 0, .slice none 0 0, .slice none 0 0] 39)).grown hg14 (below_box w12 _).size (fun k hk => by cases hk; exact Nat.le_refl _)
              have P14 := P12.below b14
              have Z14 := Z12.later b14
              have S14 := Lib.hid (S12.below b14)
              clear P12 Z12 S12 b14 hg14 hz13 hB14
              go_roundg gg
              case rel => exact ⟨i + 1, zcd, ccsd, b, by have := HI.out; omega, by go_num, P14, Z14, S14.out, HD0.out, HNF.out⟩
              case measure => omega
          | succ g2 =>
            have hdl : d < t.nc := by omega
            have HI2 := Lib.hid hd
            have hdb : d < b.cs.length := by rw [P11.v.ec]; exact hdl
            have hzb : z < b.zs.length := by rw [D11.s.nz]; exact HZ.out
            have HDR := Lib.hid (drain w gp t zcd ccsd b d z wr P11 D11.v hdb hzb)
            have HNX2 := Lib.hid (fun b' => D11.next (b' := b') hdb hzb)
            clear D11 hd hdb hzb
            go_wp2_with fail
            refine HDR.out.mono ?_
            rintro e w11 ⟨rfl, ⟨zc11, ccs11, b11, P12, V12, S12, E12, F12⟩, K12⟩
            have Z12 := K12 gr 32 nilA n3 n4 Z11
            have SL12 := Lib.hid (HS11.out.past (P11.b3 K12))
            have HDN := Lib.hid (HNX2.out b11 V12 S12 E12 F12)
            clear P11 Z11 HDR HNX2 V12 S12 E12 F12 K12 n3 n4 HS11
            go_wp2
            go_roundg g2
            case rel => exact ⟨d + 1, zc11, ccs11, b11, by have := HI2.out; omega, by go_num, P12, Z12, SL12.out, HDN.out⟩
            case measure => omega
end Go.Proofs.Ytdddkfpcbfgocaa
namespace Go.Proofs.Ytdddkfpcbfgocaa
open Go.RowKit Go.Over Go.Zn Go.Can Go.Seg Go.Grow
set_option maxRecDepth 100000 in set_option maxHeartbeats 3200000 in
theorem eqx (y x : Int) (g : Nat) (w : World) (h : w.cell? ⟨g, 0, none⟩ = some (.int .i64 x)) : Calls Try.prog 39 #[.int .i64 y, .pointer (some ⟨g, 0, none⟩)] w fun e w' => e = .returned (.bool (y == x)) ∧ w = w' := by
  go_enter Try.func39, Try.ntmps39
  go_wp2
  go_ret
  exact ⟨rfl, rfl⟩
set_option maxRecDepth 100000 in set_option maxHeartbeats 3200000 in
theorem idxX (v : Value) (l : List Int) (x : Int) (i0 g : Nat) (w : World) (H : Sl w v l) (hl : l.length ≤ 1000) (hx : l[i0]? = some x) (hne : ∀ j y, j < i0 → l[j]? = some y → y ≠ x) (hg : w.cell? ⟨g, 0, none⟩ = some (.int .i64 x)) : Calls Try.prog 72 #[v, .func (.func 39) #[] #[.pointer (some ⟨g, 0, none⟩)]] w fun e w' => e = .returned (.int .i64 (i0 : Int)) ∧ w = w' := by
  obtain ⟨a, c, rfl, h1, h2, h3, hI⟩ := H
  have hi0 : i0 < l.length := by rw [List.getElem?_eq_some_iff] at hx; exact hx.1
  obtain ⟨n, hn⟩ : ∃ n, l.length = n := ⟨_, rfl⟩
  rw [hn] at h1 hl hi0 ⊢
  have HN := Lib.hid hn; have HX := Lib.hid hx; have HE := Lib.hid hne
  clear hn hx hne h1 h2 h3
  go_enter Try.func72, Try.ntmps72
  go_wp2
  go_loopg [8] n (fun gg v8 wr => ∃ i : Nat, i + gg = n ∧ v8 = .int .i64 i ∧ i ≤ i0 ∧ w = wr)
  case atStart => exact ⟨0, by omega, rfl, by omega, rfl⟩
  case round =>
    obtain ⟨i, hi, rfl, hii, rfl⟩ := hrel
    cases gk with
    | zero => omega
    | succ gg =>
      have hin : i < n := by omega
      have HI := Lib.hid hi
      obtain ⟨y, hy⟩ := get_some HN.out hin
      obtain ⟨b, off, rfl, cx⟩ := hI.at hy
      have HY := Lib.hid hy
      clear hi hy
      by_cases hie : i = i0
      · subst hie
        have hyx : y = x := by have := HX.out; rw [HY.out] at this; exact Option.some.inj this
        subst hyx
        have ty : (y == y) = true := by simp
        go_wp2_with fail
        refine (eqx y y g w hg).mono ?_
        rintro e w2 ⟨rfl, rfl⟩
        go_wp2
        go_ret
        exact ⟨rfl, rfl⟩
      · have hyx := HE.out i y (by omega) HY.out
        have ty : (y == x) = false := by simpa using hyx
        clear hyx
        go_wp2_with fail
        refine (eqx y x g w hg).mono ?_
        rintro e w2 ⟨rfl, rfl⟩
        go_wp2
        go_roundg gg
        case rel => exact ⟨i + 1, by have := HI.out; omega, by go_num, by omega, rfl⟩
        case measure => omega
theorem take_set_next {xs cj : List Value} {i0 i : Nat} {u : Value} (h0 : i0 ≤ i) (hc : i < cj.length) (ht : cj.take i = (xs.eraseIdx i0).take i) (hu : xs[i + 1]? = some u) : (cj.set i u).take (i + 1) = (xs.eraseIdx i0).take (i + 1) := by
  have e : (xs.eraseIdx i0)[i]? = some u := by rw [List.getElem?_eraseIdx, if_neg (by omega)]; exact hu
  rw [List.take_add_one, List.take_add_one, List.getElem?_set_self hc, e, List.take_set_of_le (Nat.le_refl i), ht]
/-- What deleting by a function gives. -/
def DelF (w : World) (base : Nat) (V : Value) (l : List Int) (e : Ending) (w' : World) : Prop :=
  ∃ V', e = .returned V' ∧ Own w' base V' l ∧ w.grownBy w' V.ownBlock ∧ V'.ownBlock = V.ownBlock
set_option maxRecDepth 100000 in set_option maxHeartbeats 3200000 in
theorem deleteF (base : Nat) (V : Value) (l : List Int) (x : Int) (i0 g3 : Nat) (w : World) (hO : Own w base V l) (hl : l.length ≤ 1000) (hx : l[i0]? = some x) (hnd : l.Nodup) (h3 : Blk w g3 3 [.int .i64 x]) (hlt : g3 < base) :
    Calls Try.prog 38 #[V, .func (.func 39) #[] #[.pointer (some ⟨g3, 0, none⟩)]] w (DelF w base V (l.eraseIdx i0)) := by
  have hi0 : i0 < l.length := by rw [List.getElem?_eq_some_iff] at hx; exact hx.1
  have hsl := hO.sl
  obtain ⟨g, cap, cur, rfl, hg, hB, hnc, hcm, hcl, ht, hxn⟩ := row_open hO (by omega)
  have hne : ∀ j y, j ≠ i0 → l[j]? = some y → y ≠ x := fun j y hj hy e => by
    subst e
    rw [List.getElem?_eq_some_iff] at hx hy
    exact hj ((List.getElem_inj hnd).1 (hy.2.trans hx.2.symm))
  obtain ⟨n, hn⟩ : ∃ n, l.length = n := ⟨_, rfl⟩
  rw [hn] at hnc hl hi0 hsl ht hxn ⊢
  unfold maxLen at hcm
  have c3 : w.cell? ⟨g3, 0, none⟩ = some (.int .i64 x) := by rw [h3.cell]; rfl
  have HIX := Lib.hid (idxX (.slice (some ⟨g, 0, none⟩) n cap) l x i0 g3 w (by rw [hn] at *; exact hsl) (by omega) hx (fun j y hj => hne j y (by omega)) c3)
  have hclr : ∃ i z, Try.prog.info? 3 = some i ∧ i.zero = some z ∧ z.cells.size = 1 ∧ ∀ v ∈ z.cells.toList, v.oneCell' = true := by
    obtain ⟨i, hi, hz0, hz1, hz2⟩ := info_parts (show (Try.prog.info? 3).map (fun i => (i.zero, i.size, i.bytes)) = some (some (.int .i64 0), 1, 8) by kernel_rfl)
    exact ⟨i, _, hi, hz0, rfl, by intro v hv; simp [Value.cells] at hv; subst hv; rfl⟩
  have HC := Lib.hid hclr
  have HN := Lib.hid hn; have HNE := Lib.hid hne; have HCL := Lib.hid hcl; have HXN := Lib.hid hxn
  have HNL := Lib.hid (show ∀ j y, l[j]? = some y → (nums l)[j]? = some (Value.int .i64 y) from fun j y h => by unfold nums; rw [List.getElem?_map, h]; rfl)
  have T0 := Lib.hid (show cur.take i0 = ((nums l).eraseIdx i0).take i0 from by
    rw [List.eraseIdx_eq_take_drop_succ, List.take_left' (by rw [List.length_take, hxn]; omega), ← ht, List.take_take]; congr 1; omega)
  have R0 := Lib.hid (show ∀ k, i0 < k → k < n → cur[k]? = (nums l)[k]? from fun k _ hk => by rw [← ht, List.getElem?_take, if_pos hk])
  have hge : g ≠ g3 := by omega
  clear hclr hx hnd hO hsl hn hne hcl hxn ht
  go_enter Try.func38, Try.ntmps38
  go_wp2_with fail
  refine HIX.out.mono ?_
  rintro e w2 ⟨rfl, rfl⟩
  have ti : ((i0 : Int) == -1) = false := by simp
  clear HIX
  go_wp2
  go_loopg [5, 6] (n - (i0 + 1)) (fun gg v5 v6 wr => ∃ (i : Nat) (cj : List Value), i + 1 + gg = n ∧ i0 ≤ i ∧ v5 = .int .i64 i ∧ v6 = .int .i64 ((i + 1 : Nat) : Int) ∧ Blk wr g 3 cj ∧ cj.length = cap ∧ w.grownBy wr (some g) ∧ Blk wr g3 3 [.int .i64 x] ∧ cj.take i = ((nums l).eraseIdx i0).take i ∧ ∀ k, i < k → k < n → cj[k]? = (nums l)[k]?)
  case atStart => exact ⟨i0, cur, by omega, by omega, rfl, rfl, hB, HCL.out, grown_below (Below.refl _ _), h3, T0.out, R0.out⟩
  case round =>
    clear hB T0 R0 c3 h3
    obtain ⟨i, cj, hi, hii, rfl, rfl, B1, L1, G1, H3, T1, R1⟩ := hrel
    have c3 : wr.cell? ⟨g3, 0, none⟩ = some (.int .i64 x) := by rw [H3.cell]; rfl
    have HT := Lib.hid T1; have HR := Lib.hid R1; have HL1 := Lib.hid L1
    clear T1 R1 L1
    cases gk with
    | zero =>
      have hin : i = n - 1 := by omega
      have hil : ¬ i + 1 < n := by omega
      subst hin
      have HQ := Lib.hid HR.out
      have z1 : ¬ cap = n - 1 := by omega
      have z2 : ((n - 1 : Nat) : Int) ≤ (n : Int) := by omega
      have z3 : ¬ ((n : Int) = 0) := by omega
      have z4 : n - (n - 1) = 1 := by omega
      clear hi
      go_wp2_with (refine wpList_clear_k Try.underlying28 HC.out rfl (.tmp 38) rfl g (n - 1) _ _ rfl ?d0 _ 3 B1 ?d1 ?_)
      case d0 => omega
      case d1 => rw [HL1.out]; omega
      intro w3 new hB3 hln htk hg3
      have hown := row_shut (base := base) (n := n - 1) (cap := cap) hg hB3 (by omega) (by unfold maxLen; omega) (by rw [hln, HL1.out]) rfl
      have hg4 := grown_trans G1 hg3
      have HF := Lib.hid (show new.take (n - 1) = nums (l.eraseIdx i0) from by
        rw [htk, HT.out, List.take_of_length_le (by rw [List.length_eraseIdx, if_pos (by rw [HXN.out]; omega), HXN.out]; exact Nat.le_refl _)]
        rw [← del_nums, List.eraseIdx_eq_take_drop_succ])
      clear B1 G1 H3 c3 hB3 hg3 htk
      go_wp2
      go_ret
      refine ⟨_, rfl, ?_, hg4, rfl⟩
      have hle : (l.eraseIdx i0).length = n - 1 := by rw [List.length_eraseIdx, if_pos (by rw [HN.out]; omega), HN.out]
      unfold Own
      rw [hle, ← HF.out]
      exact hown
    | succ gg =>
      have hin : i + 1 < n := by omega
      have HI := Lib.hid hi
      obtain ⟨y, hy⟩ := get_some HN.out hin
      have hyx := HNE.out (i + 1) y (by omega) hy
      have ty : (y == x) = false := by simpa using hyx
      have hj := HNL.out _ _ hy
      have cx : wr.cell? ⟨g, i + 1, none⟩ = some (.int .i64 y) := by rw [B1.cell, HR.out _ (by omega) hin]; exact hj
      have B2 := B1.set i (.int .i64 y)
      have hfz := B1.frozen i
      obtain ⟨uo, huo⟩ := get_some HL1.out (show i < cap by omega)
      have cy : wr.cell? ⟨g, i, none⟩ = some uo := by rw [B1.cell]; exact huo
      have H32 : Blk (wr.setCell ⟨g, i, none⟩ (.int .i64 y)) g3 3 [.int .i64 x] := H3.grown (grown_cell (grown_below (Below.refl _ _))) (by simpa using hge)
      have G2 := grown_cell (i := i) (u := .int .i64 y) G1
      have HT2 := Lib.hid (take_set_next (u := .int .i64 y) hii (show i < cj.length by rw [HL1.out]; omega) HT.out hj)
      have HR2 := Lib.hid (show ∀ k, i + 1 < k → k < n → (cj.set i (.int .i64 y))[k]? = (nums l)[k]? from fun k h1 h2 => by rw [List.getElem?_set_ne (by omega)]; exact HR.out k (by omega) h2)
      clear hi hy hyx hj HT HR huo
      go_wp2_with fail
      refine (eqx y x g3 wr c3).mono ?_
      rintro e w4 ⟨rfl, rfl⟩
      clear cx
      go_wp2
      obtain ⟨w5, hw5⟩ : ∃ W, W = wr.setCell ⟨g, i, none⟩ (.int .i64 y) := ⟨_, rfl⟩
      rw [← hw5] at B2 H32 G2 ⊢
      clear hw5 hfz B1 G1 H3 cy c3
      go_roundg gg
      case rel => exact ⟨i + 1, _, by have := HI.out; omega, by omega, by go_num, by go_num, B2, by rw [List.length_set]; exact HL1.out, G2, H32, HT2.out, HR2.out⟩
      case measure => omega
end Go.Proofs.Ytdddkfpcbfgocaa
namespace Go.Zn
open Go.Can
/-- Two lists of caches that share a frame are one. -/
theorem VA.same {a : A} (h : VA a) {c d z y : Nat} {L M : List (List Int)} {l m : List Int} {x : Int} (hL : a.cs[c]? = some L) (hM : a.cs[d]? = some M) (hl : L[z]? = some l) (hm : M[y]? = some m) (hx : x ∈ l) (hy : x ∈ m) : c = d ∧ z = y := by
  obtain ⟨q1, _, _, q2⟩ := h.at_ hL hl
  obtain ⟨p1, _, _, p2⟩ := h.at_ hM hm
  have hzy := h.zdis q1 p1 (q2 x hx).1 (p2 x hy).1
  subst hzy
  refine ⟨?_, rfl⟩
  by_cases e : c = d
  · exact e
  · exact absurd (by rw [lst_of hM hm]; exact hy) (h.ap c d z (lt_of hL) (lt_of hM) q1 e x (by rw [lst_of hL hl]; exact hx))
end Go.Zn
namespace Go.Proofs.Ytdddkfpcbfgocaa
open Go.RowKit Go.Over Go.Zn Go.Can Go.Seg Go.Grow
theorem own_share {W : World} {B g : Nat} {V U : Value} {l m : List Int} (h : Own W B V l) (k : Own W B U m) (hl : l ≠ []) (hm : m ≠ []) (h1 : V.ownBlock = some g) (h2 : U.ownBlock = some g) : ∃ x, x ∈ l ∧ x ∈ m := by
  obtain ⟨g1, cap1, cur1, rfl, _, b1, _, _, _, t1, _⟩ := row_open h (List.length_pos_iff.2 hl)
  obtain ⟨g2, cap2, cur2, rfl, _, b2, _, _, _, t2, _⟩ := row_open k (List.length_pos_iff.2 hm)
  obtain rfl : g1 = g := Option.some.inj h1
  obtain rfl : g2 = g1 := Option.some.inj h2
  obtain ⟨x, l', rfl⟩ := List.exists_cons_of_ne_nil hl
  obtain ⟨y, m', rfl⟩ := List.exists_cons_of_ne_nil hm
  have e1 : W.cell? ⟨g2, 0, none⟩ = some (.int .i64 x) := by
    have : (cur1.take (x :: l').length)[0]? = some (Value.int .i64 x) := by rw [t1]; rfl
    rw [b1.cell]
    rw [List.getElem?_take] at this
    simpa using this
  have e2 : W.cell? ⟨g2, 0, none⟩ = some (.int .i64 y) := by
    have : (cur2.take (y :: m').length)[0]? = some (Value.int .i64 y) := by rw [t2]; rfl
    rw [b2.cell]
    rw [List.getElem?_take] at this
    simpa using this
  rw [e1] at e2
  cases e2
  exact ⟨x, by simp, by simp⟩
theorem own_keep {W W' : World} {B g : Nat} {V : Value} {m : List Int} (h : Own W B V m) (hne : m ≠ [] → V.ownBlock ≠ some g) (hk : ∀ b bs, b ≠ g → Blk W b 3 bs → Blk W' b 3 bs) : Sl W' V m := by
  by_cases e : m = []
  · subst e
    obtain ⟨a, c, h1, h2, h3, h4⟩ := own_form h
    exact ⟨a, c, h1, h2, h3, h4, fun h0 => by simp at h0⟩
  · obtain ⟨g1, cap, cur, rfl, q1, q2, q3, q4, q5, q6, _⟩ := row_open h (List.length_pos_iff.2 e)
    have hg : g1 ≠ g := fun h => hne e (by rw [h]; rfl)
    exact (show Own W' B _ m from row_shut q1 (hk g1 cur hg q2) q3 q4 q5 q6).sl
theorem OA.list {W1 W : World} {s : Sh} {zc ccs : List Value} {a : A} {n c z : Nat} {L : List (List Int)} {l : List Int} (h : OA W1 W s zc ccs a n) (hc : c < n) (hL : a.cs[c]? = some L) (hl : L[z]? = some l) :
    ∃ lb k bs V, ccs[c]? = some (.slice (some ⟨lb, 0, none⟩) L.length k) ∧ L.length ≤ k ∧ k ≤ maxLen ∧ LO W W1.heap.size lb bs L ∧ bs[z]? = some V ∧ Own W W1.heap.size V l := by
  obtain ⟨b, k, bs, h1, h2, h3, h4⟩ := h.c c L hc hL
  obtain ⟨v, h5, h6⟩ := h4.row z l hl
  exact ⟨b, k, bs, v, h1, h2, h3, h4, h5, h6⟩
/-- A list of a cache has changed in place. -/
theorem AP.unrow {w0 W W1 W' : World} {gp : Nat} {t : Sh} {zc ccs : List Value} {a : A} {c z lb k g : Nat} {L : List (List Int)} {l l' : List Int} {bs : List Value} {V V' : Value}
    (P : AP w0 gp t zc ccs a W) (O : OA W1 W t zc ccs a t.nc) (hw : w0.heap.size ≤ W1.heap.size) (hV : VA a) (hL : a.cs[c]? = some L) (hl : L[z]? = some l) (hne : l ≠ [])
    (hcc : ccs[c]? = some (.slice (some ⟨lb, 0, none⟩) L.length k)) (k1 : L.length ≤ k) (k2 : k ≤ maxLen) (hLO : LO W W1.heap.size lb bs L) (hbz : bs[z]? = some V) (hO : Own W W1.heap.size V l)
    (hob : V.ownBlock = some g) (hO' : Own W' W1.heap.size V' l') (hg : W.grownBy W' (some g)) :
    AP w0 gp t zc ccs (setC a c z l') (W'.setCell ⟨lb, z, none⟩ V') := by
  obtain ⟨g', cap, cur, hVf, q1, q2, _⟩ := row_open hO (List.length_pos_iff.2 hne)
  have hgg : g' = g := by rw [hVf] at hob; exact Option.some.inj hob
  subst hgg
  have hzL := lt_of hl
  have hcn : c < t.nc := by rw [← P.v.ec]; exact lt_of hL
  have hx' : Blk W' lb 28 bs := hLO.x.grown hg (by simpa using (q2.ne_type hLO.x (by decide)))
  have hs : W'.grownBy (W'.setCell ⟨lb, z, none⟩ V') (some lb) := set_grown
  -- blocks that stay
  have kp : ∀ {q tt : Nat} {cs : List Value}, q ≠ g' → q ≠ lb → Blk W q tt cs → Blk (W'.setCell ⟨lb, z, none⟩ V') q tt cs := fun h1 h2 hq => (hq.grown hg (by simpa using Ne.symm h1)).grown hs (by simpa using Ne.symm h2)
  have kt : ∀ {q tt : Nat} {cs : List Value}, tt ≠ 3 → tt ≠ 28 → Blk W q tt cs → Blk (W'.setCell ⟨lb, z, none⟩ V') q tt cs := fun h1 h2 hq => kp (Ne.symm (q2.ne_type hq (Ne.symm h1))) (Ne.symm (hLO.x.ne_type hq (Ne.symm h2))) hq
  have k3 : ∀ b cs, b ≠ g' → Blk W b 3 cs → Blk (W'.setCell ⟨lb, z, none⟩ V') b 3 cs := fun b cs hb hq => kp hb (hq.ne_type hLO.x (by decide)) hq
  have ke : ∀ b cs, Blk W1 b 3 cs → Blk (W'.setCell ⟨lb, z, none⟩ V') b 3 cs := fun b cs hq => k3 b cs (by have := hq.lt; omega) (O.k b cs hq)
  have hbl : Blk (W'.setCell ⟨lb, z, none⟩ V') lb 28 (bs.set z V') := hx'.set z V'
  have hzb : z < bs.length := lt_of hbz
  have hSl' : Sl (W'.setCell ⟨lb, z, none⟩ V') V' l' := (hO'.far hx' (by decide) z V').sl
  have b1 : Below w0.heap.size w0 W' := P.b.grown hg P.b.size (fun q hq => by cases hq; omega)
  have hlb : w0.heap.size ≤ lb := Nat.le_trans hw hLO.lo
  have b2 : Below w0.heap.size w0 (W'.setCell ⟨lb, z, none⟩ V') := b1.setCell (p := ⟨lb, z, none⟩) hlb V'
  refine ⟨b2, P.lg, P.lz, P.lc, kt (by decide) (by decide) P.x, ?_⟩
  refine ⟨P.v.en, P.v.ez, by show (a.cs.set c _).length = _; rw [List.length_set]; exact P.v.ec, O.n.past ke, ⟨kt (by decide) (by decide) P.v.q.x, P.v.q.n, fun i y hy => (O.q i y hy).past ke⟩, P.v.zl, P.v.zm, ?_, P.v.cl, P.v.cm⟩
  refine ⟨kt (by decide) (by decide) P.v.c.x, by show (a.cs.set c _).length ≤ _; rw [List.length_set]; exact P.v.c.n, fun d M hM => ?_⟩
  have hM' : (a.cs.set c (L.set z l'))[d]? = some M := by
    have : (setC a c z l').cs = a.cs.set c (L.set z l') := by rw [← setC_of hL]
    rw [← this]; exact hM
  by_cases e : d = c
  · subst e
    rw [List.getElem?_set_self (lt_of hL)] at hM'
    cases hM'
    refine ⟨_, hcc, lb, k, bs.set z V', by rw [List.length_set], by rw [List.length_set]; exact k1, k2, hbl, by rw [List.length_set, List.length_set]; exact hLO.n, fun y m hm => ?_⟩
    by_cases e2 : y = z
    · subst e2
      rw [List.getElem?_set_self hzL] at hm
      cases hm
      exact ⟨V', List.getElem?_set_self hzb, hSl'⟩
    · rw [List.getElem?_set_ne (Ne.symm e2)] at hm
      obtain ⟨u, p1, p2⟩ := hLO.row y m hm
      refine ⟨u, by rw [List.getElem?_set_ne (Ne.symm e2)]; exact p1, own_keep p2 (fun hmn hu => ?_) k3⟩
      obtain ⟨x, x1, x2⟩ := own_share hO p2 hne hmn hob hu
      exact e2 (hV.same hL hL hl hm x1 x2).2.symm
  · rw [List.getElem?_set_ne (Ne.symm e)] at hM'
    obtain ⟨b', k', bs', p1, p2, p3, p4⟩ := O.c d M (by rw [← P.v.ec]; exact lt_of hM') hM'
    have hrow : ∀ (y : Nat) (m : List Int), M[y]? = some m → ∀ u, bs'[y]? = some u → Own W W1.heap.size u m → m ≠ [] → u.ownBlock ≠ some g' := fun y m hm u hu ho hmn hub => by
      obtain ⟨x, x1, x2⟩ := own_share hO ho hne hmn hob hub
      exact e (hV.same hL hM' hl hm x1 x2).1.symm
    have hbb : b' ≠ lb := fun h => by
      subst h
      have hMn : M.length = L.length := by rw [hV.cl hM', hV.cl hL]
      obtain ⟨m, hm⟩ := get_some hMn hzL
      obtain ⟨u, u1, u2⟩ := p4.row z m hm
      have huV : u = V := by
        have h1 := p4.x.cell z
        have h2 := hLO.x.cell z
        rw [h1, u1, hbz] at h2
        exact Option.some.inj h2
      subst huV
      have hml : m.length = l.length := by
        obtain ⟨a1, c1, f1, _⟩ := own_form u2
        obtain ⟨a2, c2, f2, _⟩ := own_form hO
        rw [f1] at f2
        injection f2
      have hmn : m ≠ [] := fun h => hne (List.eq_nil_of_length_eq_zero (by rw [← hml, h]; rfl))
      exact hrow z m hm u u1 u2 hmn hob
    refine ⟨_, p1, b', k', bs', rfl, p2, p3, kp (Ne.symm (q2.ne_type p4.x (by decide))) hbb p4.x, p4.n, fun y m hm => ?_⟩
    obtain ⟨u, u1, u2⟩ := p4.row y m hm
    exact ⟨u, u1, own_keep u2 (hrow y m hm u u1 u2) k3⟩
/-- A frame is taken from the blocks of a zone. -/
theorem take_zone {a : A} {z : Nat} {x : Int} {y : Z} (h : VA a) (hz : z < a.zs.length) (hp : Par (zn a z) y) (hy : Vd y.st y.ct y.fr) (hf : Cov (F (zn a z).fr) x) (hc : ∀ q, Cov (F y.fr) q ↔ Cov (F (zn a z).fr) q ∧ q ≠ x) : Less a z x (setZ a z y) := by
  obtain ⟨v, _, f⟩ := take_one h hz (l := []) ⟨List.nodup_nil, fun q hq => by simp at hq⟩ hp hy hf hc
  exact ⟨v, Sa.setZ hz hp, f, .inl hf⟩
theorem uncache_at {a : A} {c z i : Nat} {x : Int} {l : List Int} (h : VA a) (hc : c < a.cs.length) (hz : z < a.zs.length) (hl : lst a c z = l) (hi : l[i]? = some x) : Less a z x (setC a c z (l.eraseIdx i)) := by
  have hnd : l.Nodup := by rw [← hl]; exact h.nd c z hc hz
  have hx : x ∈ lst a c z := by rw [hl]; exact List.mem_of_getElem? hi
  obtain ⟨v, f⟩ := uncache h hc hz hx (l := l.eraseIdx i) (hnd.sublist (List.eraseIdx_sublist ..)) (fun q => by
    rw [hl]
    constructor
    · intro hq
      refine ⟨List.mem_of_mem_eraseIdx hq, fun e => ?_⟩
      subst e
      rw [List.mem_eraseIdx_iff_getElem?] at hq
      obtain ⟨j, hj, hq⟩ := hq
      rw [List.getElem?_eq_some_iff] at hi hq
      exact hj ((List.getElem_inj hnd).1 (hq.2.trans hi.2.symm))
    · rintro ⟨hq, hne⟩
      obtain ⟨j, hj⟩ := List.getElem?_of_mem hq
      rw [List.mem_eraseIdx_iff_getElem?]
      refine ⟨j, fun e => ?_, hj⟩
      subst e
      rw [hi] at hj
      exact hne (Option.some.inj hj).symm)
  exact ⟨v, Sa.setC, f, .inr ⟨c, hc, hx⟩⟩
end Go.Proofs.Ytdddkfpcbfgocaa
namespace Go.Proofs.Ytdddkfpcbfgocaa
open Go.RowKit Go.Over Go.Zn Go.Can Go.Seg Go.Grow
structure AT (w : World) (g g3 gr : Nat) (s : Sh) (zc ccs : List Value) (a : A) (x : Int) (W : World) : Prop where
  p : AX w g s zc ccs a W
  t : Blk W g3 3 [.int .i64 x]
  z : Blk W gr 32 nilA
  l : w.heap.size ≤ gr
theorem AT.below {w W W' : World} {g g3 gr : Nat} {s : Sh} {zc ccs : List Value} {a : A} {x : Int} (h : AT w g g3 gr s zc ccs a x W) (hb : Below W.heap.size W W') : AT w g g3 gr s zc ccs a x W' := ⟨h.p.below hb, h.t.later hb, h.z.later hb, h.l⟩
theorem AT.c3 {w W : World} {g g3 gr : Nat} {s : Sh} {zc ccs : List Value} {a : A} {x : Int} (h : AT w g g3 gr s zc ccs a x W) : W.cell? ⟨g3, 0, none⟩ = some (.int .i64 x) := by rw [h.t.cell]; rfl
theorem AT.new {w : World} {s : Sh} {zc ccs : List Value} {a : A} {x : Int} (h : AW w s zc ccs a) : AT w w.heap.size (w.heap.size + 1) (w.heap.size + 2) s zc ccs a x (((w.alloc (.cells (s.cells a.bt a.hi).toArray 32)).alloc (.cells #[.int .i64 x] 3)).alloc (.cells #[.slice none 0 0, .int .i64 0, .int .i64 0, .slice none 0 0, .slice none 0 0] 32)) := by
  have hs : (w.alloc (.cells (s.cells a.bt a.hi).toArray 32)).heap.size = w.heap.size + 1 := by simp
  have hs2 : ((w.alloc (.cells (s.cells a.bt a.hi).toArray 32)).alloc (.cells #[.int .i64 x] 3)).heap.size = w.heap.size + 2 := by simp
  have ht := (Blk.new (w.alloc (.cells (s.cells a.bt a.hi).toArray 32)) 3 #[.int .i64 x] [.int .i64 x] rfl).later (below_box _ (.cells #[.slice none 0 0, .int .i64 0, .int .i64 0, .slice none 0 0, .slice none 0 0] 32))
  have hz := Blk.new ((w.alloc (.cells (s.cells a.bt a.hi).toArray 32)).alloc (.cells #[.int .i64 x] 3)) 32 #[.slice none 0 0, .int .i64 0, .int .i64 0, .slice none 0 0, .slice none 0 0] nilA rfl
  rw [hs] at ht
  rw [hs2] at hz
  exact ⟨((AX.new h).below (below_box _ _)).below (below_box _ _), ht, hz, by omega⟩
/-- What Take gives. -/
def TakeQ (w : World) (a : A) (x : Int) (e : Ending) (w' : World) : Prop :=
  Below w.heap.size w w' ∧
    ((∃ (z : Nat) (v : Value) (b : A), z < a.zs.length ∧ e = .returned (.tuple #[v, .int .i64 0]) ∧ Ra w' v b ∧ Less a z x b) ∨
     (∃ n : Int, n ≠ 0 ∧ e = .returned (.tuple #[.agg nilA.toArray, .int .i64 n])))
/-- What the call of Take reads. -/
def CT (gp g3 : Nat) (t : Sh) (x : Int) (zc : List Value) (U : World) : Prop := U.cell? ⟨gp, 3, none⟩ = some (.slice (some ⟨t.bz, 0, none⟩) t.nz t.cz) ∧ Blk U t.bz 39 zc ∧ U.cell? ⟨g3, 0, none⟩ = some (.int .i64 x)
theorem AP.ct {w0 W : World} {gp g3 : Nat} {t : Sh} {zc ccs : List Value} {a : A} {x : Int} (h : AP w0 gp t zc ccs a W) (ht : Blk W g3 3 [.int .i64 x]) : CT gp g3 t x zc W := ⟨h.c3, h.v.q.x, by rw [ht.cell]; rfl⟩
set_option maxRecDepth 100000 in set_option maxHeartbeats 3200000 in
theorem takeA (v : Value) (a : A) (x : Int) (w : World) (H : Ra w v a) (hV : VA a) : Calls Try.prog 15 #[v, .int .i64 x] w (TakeQ w a x) := by
  have HV := Lib.hid hV
  have HZO := Lib.hid (fun W v' (h : Ra W v' a) => zoneof v' a x W h (fun z' hz' => by
      obtain ⟨i', hi'⟩ := List.getElem?_of_mem hz'
      have := hV.vz i' (lt_of hi'); rw [zn_of hi'] at this; exact this.r) hV.z6)
  have HCS := Lib.hid (zoneI_cases hV x)
  clear hV
  obtain ⟨s, zc, ccs, rfl, hW⟩ := H
  have X0 := AT.new (x := x) hW
  clear hW
  go_enter Try.func15, Try.ntmps15
  go_upto_region 1 with fail
  obtain ⟨w1, hw1⟩ : ∃ W, W = (((w.alloc (.cells (s.cells a.bt a.hi).toArray 32)).alloc (.cells #[.int .i64 x] 3)).alloc (.cells #[.slice none 0 0, .int .i64 0, .int .i64 0, .slice none 0 0, .slice none 0 0] 32)) := ⟨_, rfl⟩
  rw [← hw1] at X0 ⊢
  simp only [Nat.add_assoc, Nat.reduceAdd] at X0 ⊢
  obtain ⟨gr, hgr⟩ : ∃ g, w.heap.size + 2 = g := ⟨_, rfl⟩
  obtain ⟨g3, hg3⟩ : ∃ g, w.heap.size + 1 = g := ⟨_, rfl⟩
  obtain ⟨g, hg0⟩ : ∃ g, w.heap.size = g := ⟨_, rfl⟩
  have X1 : AT w g g3 gr s zc ccs a x w1 := by rw [← hgr, ← hg3, ← hg0]; exact X0
  rw [hgr, hg3, hg0]
  clear hw1 X0 hg0 hgr hg3
  go_wp2_with ((with_reducible refine lda ?_ X1.p.x ?_); (focus rfl))
  refine (acheck _ a w1 X1.p.ra HV.out).mono ?_
  rintro e w2 ⟨rfl, b2⟩
  have X2 := X1.below b2
  have c3 := X2.c3
  clear X1 b2
  go_wp2_with ((with_reducible refine lda ?_ X2.p.x ?_); (focus rfl))
  refine (HZO.out w2 _ X2.p.ra).mono ?_
  rintro e w3 ⟨rfl, b3⟩
  have X3 := X2.below b3
  have c3 := X3.c3
  clear X2 b3 HZO
  rcases HCS.out with ⟨z, hz, hin, hzi⟩ | ⟨hno, hzi⟩
  · rw [hzi]
    have HZ := Lib.hid hz; have HIN := Lib.hid hin
    have t2 : decide ((z : Int) < 0) = false := by simp
    clear hzi HCS hz hin
    go_wp2_with ((with_reducible refine lda ?_ X3.p.x ?_); (focus rfl))
    refine (afree _ a z x w3 X3.p.ra HV.out HZ.out HIN.out).mono ?_
    rintro e w4 ⟨⟨b, rfl, hb⟩, b4⟩
    have X4 := X3.below b4
    have c3 := X4.c3
    have HB := Lib.hid hb
    clear X3 b4 hb
    cases b with
    | false =>
      go_wp2_with ((with_reducible refine stN ?_ ?_ X4.z ?_ ?_); (focus rfl); (focus rfl); (focus rfl); intro w9 hB9 hg9)
      refine bodyPost_ret (resA1 rfl _ _ gr _ _ rfl hB9 rfl rfl) rfl ?_
      exact ⟨X4.p.b.grown hg9 X4.p.b.size (fun q hq => by cases hq; exact X4.l), .inr ⟨_, by decide, rfl⟩⟩
    | true =>
      have HFR := Lib.hid (HB.out.1 rfl)
      obtain ⟨R, hR⟩ : ∃ R, ((cntA a z : Nat) : Int) - (zn a z).mn = R := ⟨_, rfl⟩
      have HRM := Lib.hid (show Calls Try.prog 24 #[.agg (s.cells a.bt a.hi).toArray, .int .i64 z] w4 fun e w' => e = .returned (.int .i64 R) ∧ Below w4.heap.size w4 w' from by rw [← hR]; exact aroom _ a z w4 X4.p.ra HV.out HZ.out)
      clear hR HB
      go_wp2_with ((with_reducible refine lda ?_ X4.p.x ?_); (focus rfl))
      refine HRM.out.mono ?_
      rintro e w5 ⟨rfl, b5⟩
      have X5 := X4.below b5
      have c3 := X5.c3
      clear X4 b5 HRM
      by_cases hR1 : R < 1
      · have t3 : decide (R < 1) = true := decide_eq_true hR1
        go_wp2_with ((with_reducible refine stN ?_ ?_ X5.z ?_ ?_); (focus rfl); (focus rfl); (focus rfl); intro w9 hB9 hg9)
        refine bodyPost_ret (resA1 rfl _ _ gr _ _ rfl hB9 rfl rfl) rfl ?_
        exact ⟨X5.p.b.grown hg9 X5.p.b.size (fun q hq => by cases hq; exact X5.l), .inr ⟨_, by decide, rfl⟩⟩
      · have t3 : decide (R < 1) = false := decide_eq_false hR1
        clear hR1
        have hg3 : g3 < w5.heap.size := X5.t.lt
        go_wp2_with ((with_reducible refine lda ?_ X5.p.x ?_); (focus rfl))
        refine (aclone _ a w5 X5.p.ra HV.out).mono ?_
        rintro e w7 ⟨t, zc7, ccs7, W7, rfl, hW7, hlz, hlc, b7, hOA, hw7⟩
        have X7 := X5.below b7
        have hz7 := Blk.new w7 32 #[.slice none 0 0, .int .i64 0, .int .i64 0, .slice none 0 0, .slice none 0 0] nilA rfl
        have hlz := Nat.le_trans X5.p.b.size hlz
        have hlc := Nat.le_trans X5.p.b.size hlc
        have hw07 : w.heap.size ≤ W7.heap.size := Nat.le_trans X5.p.b.size hw7
        have hg37 : g3 < W7.heap.size := Nat.lt_of_lt_of_le hg3 hw7
        clear X5 b7 c3 hg3 hw7
        go_upto_region 12 with ((with_reducible refine stA (s := t) (bt := a.bt) (hi := a.hi) ?_ ?_ hz7 ?_ ?_); (focus rfl); (focus rfl); (focus rfl); intro w8 hB8 hg8)
        obtain ⟨P8, b8⟩ := AP.start X7.p.b hW7 hlz hlc hB8 hg8
        have O8 : OA W7 w8 t zc7 ccs7 a t.nc := ⟨fun b bs hb => (hOA.k b bs hb).later b8, hOA.q, hOA.n, hOA.c.later b8⟩
        have T8 := X7.t.later b8
        have Z8 := X7.z.later b8
        have hlr := X7.l
        obtain ⟨gp, hgp⟩ : ∃ z, w7.heap.size = z := ⟨_, rfl⟩
        rw [hgp] at P8 ⊢
        have c3 : w8.cell? ⟨g3, 0, none⟩ = some (.int .i64 x) := by rw [T8.cell]; rfl
        have HO8 := Lib.hid O8
        clear hgp X7 hz7 hW7 hlz hlc hB8 hg8 b8 hOA O8
        go_wp2_with ((with_reducible refine lda ?_ P8.x ?_); (focus rfl))
        refine (cachedof _ a z x w8 P8.ra HV.out HZ.out).mono ?_
        rintro e w9 ⟨hca, b9⟩
        have P9 := P8.below b9
        have T9 := T8.later b9
        have Z9 := Z8.later b9
        have O9 := Lib.hid (show OA W7 w9 t zc7 ccs7 a t.nc from ⟨fun b bs hb => (HO8.out.k b bs hb).later b9, HO8.out.q, HO8.out.n, HO8.out.c.later b9⟩)
        clear P8 T8 Z8 HO8 b9 c3
        rcases hca with ⟨c, hc, hm, rfl⟩ | ⟨hno, rfl⟩
        · have HC := Lib.hid hc
          have hct : c < t.nc := by rw [← P9.v.ec]; exact hc
          obtain ⟨L, hL⟩ := get_some (l := a.cs) rfl hc
          obtain ⟨l, hl⟩ := get_some (HV.out.cl hL) HZ.out
          have hle := lst_of hL hl
          rw [hle] at hm
          obtain ⟨lb, k, bs, V, hcc, k1, k2, hLO, hbz, hO⟩ := O9.out.list hct hL hl
          obtain ⟨i0, hi0⟩ := List.getElem?_of_mem hm
          have hnl : l ≠ [] := List.ne_nil_of_mem hm
          obtain ⟨gv, capv, curv, rfl, q1, q2, _⟩ := row_open hO (List.length_pos_iff.2 hnl)
          have hnd := (HV.out.at_ hL hl).2.2.1
          have hl256 := (HV.out.vc hL).len hl
          have HDF := Lib.hid (deleteF W7.heap.size (.slice (some ⟨gv, 0, none⟩) l.length capv) l x i0 g3 w9 hO (by omega) hi0 hnd T9 hg37)
          have HUR := Lib.hid (fun W' V' (h1 : Own W' W7.heap.size V' (l.eraseIdx i0)) (h2 : w9.grownBy W' (some gv)) => P9.unrow O9.out hw07 HV.out hL hl hnl hcc k1 k2 hLO hbz hO rfl h1 h2)
          have HLS := Lib.hid (uncache_at HV.out HC.out HZ.out hle hi0)
          have dv : w9.cell? ⟨t.bc, c, none⟩ = some (.slice (some ⟨lb, 0, none⟩) L.length k) := by rw [P9.v.c.x.cell]; exact hcc
          have dl : w9.cell? ⟨lb, z, none⟩ = some (.slice (some ⟨gv, 0, none⟩) l.length capv) := by rw [hLO.x.cell]; exact hbz
          have hzL : z < L.length := lt_of hl
          have c4 := P9.c4
          have hxl := hLO.x
          have hx3 : gv ≠ lb := q2.ne_type hLO.x (by decide)
          have hlp : 0 < l.length := List.length_pos_iff.2 hnl
          obtain ⟨nl, hnl2⟩ : ∃ n, l.length = n := ⟨_, rfl⟩
          obtain ⟨nL, hnL⟩ : ∃ n, L.length = n := ⟨_, rfl⟩
          rw [hnl2] at dl HDF hlp
          rw [hnL] at dv hzL k1
          have n3 : gr ≠ gv := Z9.ne_type q2 (by decide)
          have n4 : gr ≠ lb := Z9.ne_type hLO.x (by decide)
          clear hc hL hl hle hm hcc hLO hbz hO hi0 hnl q1 q2 hnd hl256 T9 O9 P9 hnl2 hnL k2
          go_wp2_with fail
          refine HDF.out.mono ?_
          rintro e w10 ⟨V', rfl, hO', hgw, hob⟩
          have hgw : w9.grownBy w10 (some gv) := hgw
          have hP := HUR.out w10 V' hO' hgw
          have hx10 := hxl.grown hgw (by simpa using hx3)
          have fz := hx10.frozen z
          have dz : w10.cell? ⟨lb, z, none⟩ = some (.slice (some ⟨gv, 0, none⟩) nl capv) := by rw [hx10.cell, ← hxl.cell]; exact dl
          have Z10 := Z9.grown hgw (by simpa using Ne.symm n3)
          have Z11 : Blk (w10.setCell ⟨lb, z, none⟩ V') gr 32 nilA := Z10.grown set_grown (by simpa using Ne.symm n4)
          obtain ⟨av, cv, hvf, _⟩ := own_form hO'
          obtain ⟨nv, hnv⟩ : ∃ n, (l.eraseIdx i0).length = n := ⟨_, rfl⟩
          rw [hnv] at hvf
          subst hvf
          have HPP := Lib.hid hP; have HZZ := Lib.hid Z11
          clear hO' hob hgw hP dl dv c4 hxl hx10 Z9 Z10 Z11 HDF HUR
          go_upto_region 16 with fail
          obtain ⟨w11, hw11⟩ : ∃ W, W = w10.setCell ⟨lb, z, none⟩ (.slice av nv cv) := ⟨_, rfl⟩
          have P11 := HPP.out
          have Z11 := HZZ.out
          rw [← hw11] at P11 Z11 ⊢
          clear hw11 HPP HZZ dz fz
          go_wp2_with first | ((with_reducible refine lda ?_ P11.x ?_); (focus rfl)) | ((with_reducible refine stA (s := t) (bt := a.bt) (hi := a.hi) ?_ ?_ Z11 ?_ ?_); (focus rfl); (focus rfl); (focus rfl); intro w16 hB16 hg16)
          refine bodyPost_ret (resA1 rfl _ _ gr _ _ rfl hB16 rfl rfl) rfl ?_
          have kp : ∀ {q t : Nat} {bs : List Value}, t ≠ 32 → Blk w11 q t bs → Blk w16 q t bs := fun ht hq => hq.grown hg16 (by simpa using Z11.ne_type hq (Ne.symm ht))
          exact ⟨P11.b.grown hg16 P11.b.size (fun q hq => by cases hq; exact hlr), .inl ⟨z, _, setC a c z (l.eraseIdx i0), HZ.out, rfl, ⟨t, _, _, rfl, P11.v.past (kp (by decide) P11.v.q.x) (kp (by decide) P11.v.c.x) (fun _ _ => kp (by decide)) (fun _ _ => kp (by decide))⟩, HLS.out⟩⟩
        · obtain ⟨y, hy⟩ := get_some (l := a.zs) rfl HZ.out
          have hzt : z < t.nz := by rw [← P9.v.ez]; exact HZ.out
          have hyz := zn_of hy
          have hcv : Cov (F y.fr) x := by
            rcases HFR.out with h | h
            · rw [← hyz]; exact h
            · exact absurd h hno
          have hvz : VZ y := by rw [← hyz]; exact HV.out.vz z HZ.out
          have HTK := Lib.hid (fun W (q : QV W t.bz zc7 a.zs) => take (.agg (seg zc7 (z * 10) 10).toArray) y x W ⟨_, rfl, q.row z y hy⟩ hvz hcv)
          have HLS := Lib.hid (fun (fr : Nat → List Int) (h1 : Vd y.st y.ct fr) (h2 : ∀ q, Cov (F fr) q ↔ Cov (F y.fr) q ∧ q ≠ x) => take_zone HV.out HZ.out (y := { y with fr := fr }) (by rw [hyz]; exact ⟨rfl, rfl, rfl, rfl, rfl⟩) h1 (by rw [hyz]; exact hcv) (by rw [hyz]; exact h2))
          have HY := Lib.hid hy
          have hcl0 := (P9.v.q.row z y hy).len
          have hge := P9.v.q.get hy
          have t9 : decide ((0 : Int) ≤ -1) = false := by decide
          clear hno hy hyz hcv hvz O9
          have c3 : w9.cell? ⟨g3, 0, none⟩ = some (.int .i64 x) := by rw [T9.cell]; rfl
          have c33 := P9.c3
          go_upto_region 17 with fail
          refine wp_region_plan (CT gp g3 t x zc7) (.quiet [0, 1, 2, 3, 4, 5] (.fork 6 (.quiet [7, 8, 9] (.only 10 (.only 11 (.quiet [12] .done)))) 10 (.only 6 (.quiet [7, 8, 9] (.only 11 (.quiet [12] .done)))))) 99 (by kernel_rfl) (by kernel_rfl) ⟨c33, P9.v.q.x, c3⟩ ?_
          intro W hWW hWe
          have bW : Below w9.heap.size w9 W := by rw [hWe]; exact (Below.refl _ _).drew
          clear hWe
          have P10 := P9.below bW
          have Z10 := Z9.later bW
          have T10 := T9.later bW
          simp only [wpPlan, inOrder, List.filterMap_cons, List.filterMap_nil, List.getElem?_cons_zero, List.getElem?_cons_succ]
          have q1 := fun z => (hold_ok (S0 := CT gp g3 t x zc7) hWW z).1
          have q2 := fun z => (hold_ok (S0 := CT gp g3 t x zc7) hWW z).2.1
          have q3 := fun z => (hold_ok (S0 := CT gp g3 t x zc7) hWW z).2.2
          clear P9 Z9 T9 bW c3 c33
          show wpQuiet _ _ _ _ (_ :: _ :: _ :: _ :: _ :: [_]) _
          repeat (go_big_quiet_step (fail))
          go_big_quiet_want
          rename_i K hK
          refine quiet_run (v := .agg (seg zc7 (z * 10) 10).toArray) (fun w' hw' => ?_) ?_
          · obtain ⟨u, rfl⟩ := hw'
            exact run_load_part rfl t.bz (z * 10) rfl 39 zc7 (seg zc7 (z * 10) 10) _ (q2 u) hge Try.underlying39 rfl (by rw [infoZ, hcl0])
          refine hK _ ?_
          clear hK K
          simp only [Act.put, List.setIfInBounds_toArray, List.set_cons_succ, List.set_cons_zero]
          repeat (go_big_quiet_step (fail))
          refine wpQuiet_nil ?_
          clear q1 q2 q3 hWW
          refine ⟨?_, ?_⟩
          · show wpList _ _ _ [_] _ _
            go_wp2_with fail
            refine (HTK.out W P10.v.q).mono ?_
            rintro e w12 ⟨cs, fr, rfl, hO, hvd, hcv, b12⟩
            have P12 := P10.below b12
            have T12 := T10.later b12
            have hz13 := Blk.new w12 39 #[.int .i64 0, .int .i64 0, .int .i64 0, .int .i64 0, .int .i64 0, .slice none 0 0, .slice none 0 0, .slice none 0 0, .slice none 0 0, .slice none 0 0] zP rfl
            have b13 := below_box w12 (.cells #[.int .i64 0, .int .i64 0, .int .i64 0, .int .i64 0, .int .i64 0, .slice none 0 0, .slice none 0 0, .slice none 0 0, .slice none 0 0, .slice none 0 0] 39)
            have P13 := P12.below b13
            have T13 := T12.later b13
            have hzv : ZV w12 cs { y with fr := fr } := hO.zv
            have hzv13 := hzv.below b13
            have bb := below_then b12 b13
            have hgW := b12.size
            go_wp2
            refine ⟨hold_of (P12.ct T12), ?_⟩
            show wpQuiet _ _ _ _ (_ :: _ :: [_]) _
            repeat (go_big_quiet_step (fail))
            refine wpQuiet_nil ?_
            show wpList _ _ _ [_] _ _
            go_wp2
            refine ⟨hold_of (P13.ct T13), ?_⟩
            obtain ⟨w13, hw13⟩ : ∃ W, W = w12.alloc (.cells #[.int .i64 0, .int .i64 0, .int .i64 0, .int .i64 0, .int .i64 0, .slice none 0 0, .slice none 0 0, .slice none 0 0, .slice none 0 0, .slice none 0 0] 39) := ⟨_, rfl⟩
            obtain ⟨gk, hgk⟩ : ∃ g, w12.heap.size = g := ⟨_, rfl⟩
            rw [← hw13] at hz13 hzv13 bb ⊢
            rw [hgk] at hz13 hgW ⊢
            clear hw13 hgk P12 P13 T12 T13 hzv hO b12 b13 HTK
            have hcl := hzv13.len
            have h1c := hzv13.one
            show wpList _ _ _ [_] _ _
            go_wp2_with ((with_reducible refine stZ (cs := cs) ?_ ?_ hz13 zP_len hcl h1c ?_); (focus rfl); (focus rfl); intro w14 hB14 hg14)
            have kp : ∀ {q t : Nat} {bs : List Value}, t ≠ 39 → Blk w13 q t bs → Blk w14 q t bs := fun ht hq => hq.grown hg14 (by simpa using hz13.ne_type hq (Ne.symm ht))
            have hzv14 := hzv13.past fun _ _ => kp (by decide)
            have b14 : Below W.heap.size W w14 := bb.grown hg14 bb.size (fun k hk => by cases hk; exact hgW)
            have P14 := P10.below b14
            have Z14 := Z10.later b14
            have T14 := T10.later b14
            clear kp hg14 bb b14 P10 Z10 T10 hz13 hzv13 hgW
            refine ⟨hold_of (P14.ct T14), ?_⟩
            simp only [Act.put]
            show wpQuiet _ _ _ _ [_] _
            repeat (go_big_quiet_step (fail))
            refine wpQuiet_nil ?_
            refine NoPanic.normal ?_
            have hiz : (Try.prog.info? 39).map (·.size) = some cs.length := by rw [infoZ, hcl]
            have hxz := P14.v.q.x
            have hfit : z * 10 + cs.length ≤ zc7.length := by have := P14.v.q.n; rw [P14.v.ez] at this; omega
            have c3 := P14.c3
            have HL := Lib.hid (HLS.out fr hvd hcv)
            have HYV := Lib.hid hzv14
            clear hvd hcv hzv14 T14
            go_upto_region 21 with first | ((with_reducible refine ld ?_ hB14 hcl ?_); (focus rfl)) | ((with_reducible refine wpList_store_part (off := z * 10) (cs := cs) hiz ?_ ?_ hxz hfit h1c ?_); (focus rfl); (focus rfl); intro w15 hB15 hg15)
            have P15 := P14.zset hzt hg15 hB15 HYV.out
            have Z15 : Blk w15 gr 32 nilA := Z14.grown hg15 (by simpa using Ne.symm (Z14.ne_type hxz (by decide)))
            clear P14 Z14 c3 hiz hxz hfit hB15 hg15 hB14 HYV
            go_wp2_with first | ((with_reducible refine lda ?_ P15.x ?_); (focus rfl)) | ((with_reducible refine stA (s := t) (bt := a.bt) (hi := a.hi) ?_ ?_ Z15 ?_ ?_); (focus rfl); (focus rfl); (focus rfl); intro w16 hB16 hg16)
            refine bodyPost_end (resA1 rfl _ _ gr _ _ rfl hB16 rfl rfl) rfl ?_
            have kp : ∀ {q t : Nat} {bs : List Value}, t ≠ 32 → Blk w15 q t bs → Blk w16 q t bs := fun ht hq => hq.grown hg16 (by simpa using Z15.ne_type hq (Ne.symm ht))
            exact ⟨P15.b.grown hg16 P15.b.size (fun q hq => by cases hq; exact hlr), .inl ⟨z, _, setZ a z { y with fr := fr }, HZ.out, rfl, ⟨t, _, _, rfl, P15.v.past (kp (by decide) P15.v.q.x) (kp (by decide) P15.v.c.x) (fun _ _ => kp (by decide)) (fun _ _ => kp (by decide))⟩, HL.out⟩⟩
          · show wpList _ _ _ [_] _ _
            have hz12 := Blk.new W 39 #[.int .i64 0, .int .i64 0, .int .i64 0, .int .i64 0, .int .i64 0, .slice none 0 0, .slice none 0 0, .slice none 0 0, .slice none 0 0, .slice none 0 0] zP rfl
            have b12 := below_box W (.cells #[.int .i64 0, .int .i64 0, .int .i64 0, .int .i64 0, .int .i64 0, .slice none 0 0, .slice none 0 0, .slice none 0 0, .slice none 0 0, .slice none 0 0] 39)
            have P12 := P10.below b12
            have T12 := T10.later b12
            go_wp2
            refine ⟨hold_of (P12.ct T12), ?_⟩
            obtain ⟨w12, hw12⟩ : ∃ U, U = W.alloc (.cells #[.int .i64 0, .int .i64 0, .int .i64 0, .int .i64 0, .int .i64 0, .slice none 0 0, .slice none 0 0, .slice none 0 0, .slice none 0 0, .slice none 0 0] 39) := ⟨_, rfl⟩
            obtain ⟨gk, hgk⟩ : ∃ g, W.heap.size = g := ⟨_, rfl⟩
            have hgW : W.heap.size ≤ gk := by omega
            rw [← hw12] at hz12 b12 P12 T12 ⊢
            rw [hgk] at hz12 ⊢
            clear hw12 hgk
            show wpList _ _ _ [_] _ _
            go_wp2_with fail
            refine (HTK.out w12 P12.v.q).mono ?_
            rintro e w13 ⟨cs, fr, rfl, hO, hvd, hcv, b13⟩
            have P13 := P12.below b13
            have T13 := T12.later b13
            have bb := below_then b12 b13
            have hz13 := hz12.later b13
            have hzv13 : ZV w13 cs { y with fr := fr } := hO.zv
            go_wp2
            refine ⟨hold_of (P13.ct T13), ?_⟩
            show wpQuiet _ _ _ _ (_ :: _ :: [_]) _
            repeat (go_big_quiet_step (fail))
            refine wpQuiet_nil ?_
            clear P12 P13 T12 T13 hO b12 b13 HTK hz12
            have hcl := hzv13.len
            have h1c := hzv13.one
            show wpList _ _ _ [_] _ _
            go_wp2_with ((with_reducible refine stZ (cs := cs) ?_ ?_ hz13 zP_len hcl h1c ?_); (focus rfl); (focus rfl); intro w14 hB14 hg14)
            have kp : ∀ {q t : Nat} {bs : List Value}, t ≠ 39 → Blk w13 q t bs → Blk w14 q t bs := fun ht hq => hq.grown hg14 (by simpa using hz13.ne_type hq (Ne.symm ht))
            have hzv14 := hzv13.past fun _ _ => kp (by decide)
            have b14 : Below W.heap.size W w14 := bb.grown hg14 bb.size (fun k hk => by cases hk; exact hgW)
            have P14 := P10.below b14
            have Z14 := Z10.later b14
            have T14 := T10.later b14
            clear kp hg14 bb b14 P10 Z10 T10 hz13 hzv13 hgW
            refine ⟨hold_of (P14.ct T14), ?_⟩
            simp only [Act.put]
            show wpQuiet _ _ _ _ [_] _
            repeat (go_big_quiet_step (fail))
            refine wpQuiet_nil ?_
            refine NoPanic.normal ?_
            have hiz : (Try.prog.info? 39).map (·.size) = some cs.length := by rw [infoZ, hcl]
            have hxz := P14.v.q.x
            have hfit : z * 10 + cs.length ≤ zc7.length := by have := P14.v.q.n; rw [P14.v.ez] at this; omega
            have c3 := P14.c3
            have HL := Lib.hid (HLS.out fr hvd hcv)
            have HYV := Lib.hid hzv14
            clear hvd hcv hzv14 T14
            go_upto_region 21 with first | ((with_reducible refine ld ?_ hB14 hcl ?_); (focus rfl)) | ((with_reducible refine wpList_store_part (off := z * 10) (cs := cs) hiz ?_ ?_ hxz hfit h1c ?_); (focus rfl); (focus rfl); intro w15 hB15 hg15)
            have P15 := P14.zset hzt hg15 hB15 HYV.out
            have Z15 : Blk w15 gr 32 nilA := Z14.grown hg15 (by simpa using Ne.symm (Z14.ne_type hxz (by decide)))
            clear P14 Z14 c3 hiz hxz hfit hB15 hg15 hB14 HYV
            go_wp2_with first | ((with_reducible refine lda ?_ P15.x ?_); (focus rfl)) | ((with_reducible refine stA (s := t) (bt := a.bt) (hi := a.hi) ?_ ?_ Z15 ?_ ?_); (focus rfl); (focus rfl); (focus rfl); intro w16 hB16 hg16)
            refine bodyPost_end (resA1 rfl _ _ gr _ _ rfl hB16 rfl rfl) rfl ?_
            have kp : ∀ {q t : Nat} {bs : List Value}, t ≠ 32 → Blk w15 q t bs → Blk w16 q t bs := fun ht hq => hq.grown hg16 (by simpa using Z15.ne_type hq (Ne.symm ht))
            exact ⟨P15.b.grown hg16 P15.b.size (fun q hq => by cases hq; exact hlr), .inl ⟨z, _, setZ a z { y with fr := fr }, HZ.out, rfl, ⟨t, _, _, rfl, P15.v.past (kp (by decide) P15.v.q.x) (kp (by decide) P15.v.c.x) (fun _ _ => kp (by decide)) (fun _ _ => kp (by decide))⟩, HL.out⟩⟩
  · rw [hzi]
    clear hzi hno HCS
    go_wp2_with ((with_reducible refine stN ?_ ?_ X3.z ?_ ?_); (focus rfl); (focus rfl); (focus rfl); intro w9 hB9 hg9)
    refine bodyPost_ret (resA1 rfl _ _ gr _ _ rfl hB9 rfl rfl) rfl ?_
    exact ⟨X3.p.b.grown hg9 X3.p.b.size (fun q hq => by cases hq; exact X3.l), .inr ⟨_, by decide, rfl⟩⟩
end Go.Proofs.Ytdddkfpcbfgocaa
namespace Go.Seg
section
variable {P : Program} {md : Region.Mode} {S : World → Prop} {Q : Exit → Act → World → Prop}
inductive PlanT where
  | done
  | quiet (ks : List Nat) (p : PlanT)
  | only (k : Nat) (p : PlanT)
  | last (k : Nat)
  | fork (k1 : Nat) (p1 : PlanT) (k2 : Nat) (p2 : PlanT)
  | fork3 (k1 : Nat) (p1 : PlanT) (k2 : Nat) (p2 : PlanT) (k3 : Nat) (p3 : PlanT)
def PlanT.size : PlanT → Nat
  | .done => 0
  | .quiet ks p => p.size + ks.length
  | .only _ p => p.size + 1
  | .last _ => 1
  | .fork _ p1 _ p2 => max p1.size p2.size + 1
  | .fork3 _ p1 _ p2 _ p3 => max p1.size (max p2.size p3.size) + 1
def planTB (md : Region.Mode) (l : List Oper) (lst : Nat) : PlanT → Array Bool → Bool
  | .done, listed => (Region.ready md l.toArray listed).isEmpty
  | .quiet ks p, listed => quietB md l.toArray ks listed && (inOrder l ks).all (fun o => valueOp o.op) && ks.all (fun k => decide (k < l.length)) && decide (∀ k ∈ ks, k ≠ lst) && planTB md l lst p (setAll listed ks)
  | .only k p, listed => decide (Region.ready md l.toArray listed = [k]) && decide (k < l.length) && planTB md l lst p (listed.setIfInBounds k true)
  | .last k, listed => decide (k = lst) && decide (Region.ready md l.toArray listed = [k]) && decide (k < l.length) && (Region.ready md l.toArray (listed.setIfInBounds k true)).isEmpty
  | .fork k1 p1 k2 p2, listed => decide (Region.ready md l.toArray listed = [k1, k2]) && decide (k1 < l.length) && decide (k2 < l.length) && planTB md l lst p1 (listed.setIfInBounds k1 true) && planTB md l lst p2 (listed.setIfInBounds k2 true)
  | .fork3 k1 p1 k2 p2 k3 p3, listed => decide (Region.ready md l.toArray listed = [k1, k2, k3]) && (decide (k1 < l.length) && decide (k2 < l.length) && decide (k3 < l.length)) && planTB md l lst p1 (listed.setIfInBounds k1 true) && planTB md l lst p2 (listed.setIfInBounds k2 true) && planTB md l lst p3 (listed.setIfInBounds k3 true)
def wpPlanT (P : Program) (l : List Oper) (S : World → Prop) (Q : Exit → Act → World → Prop) : PlanT → Act → World → Prop
  | .done, a, w => Q .normal a w
  | .quiet ks p, a, w => wpQuiet P l.toArray S (fun a' => wpPlanT P l S Q p a' w) (inOrder l ks) a
  | .only k p, a, w => wpList P l.toArray (Kept S fun a' w' => wpPlanT P l S Q p a' w') (inOrder l [k]) a w
  | .last k, a, w => wpList P l.toArray (Kept (fun _ => True) fun a' w' => Q .normal a' w') (inOrder l [k]) a w
  | .fork k1 p1 k2 p2, a, w => wpList P l.toArray (Kept S fun a' w' => wpPlanT P l S Q p1 a' w') (inOrder l [k1]) a w ∧ wpList P l.toArray (Kept S fun a' w' => wpPlanT P l S Q p2 a' w') (inOrder l [k2]) a w
  | .fork3 k1 p1 k2 p2 k3 p3, a, w => wpList P l.toArray (Kept S fun a' w' => wpPlanT P l S Q p1 a' w') (inOrder l [k1]) a w ∧ wpList P l.toArray (Kept S fun a' w' => wpPlanT P l S Q p2 a' w') (inOrder l [k2]) a w ∧ wpList P l.toArray (Kept S fun a' w' => wpPlanT P l S Q p3 a' w') (inOrder l [k3]) a w
theorem anyL_planT {l : List Oper} {lst : Nat} (hlast : Lasts md l.toArray lst) (hs : Region.noSelect l.toArray = true) (hQ : ∀ c a d v w, Q (.panic c) (Act.put a d v) w → Q (.panic c) a w) :
    ∀ (p : PlanT) (x : Nat) (listed : Array Bool) (a : Act) (w : World), planTB md l lst p listed = true → S w → wpPlanT P l S Q p a w → wpAnyL P md l.toArray lst S Q (p.size + x) listed a w
  | .done, x, listed, a, w, hB, hS, h => by
    have he : Region.ready md l.toArray listed = [] := by simpa [planTB] using hB
    cases x with
    | zero => exact ⟨he, h⟩
    | succ x => exact ⟨fun _ => h, fun i hi => by rw [he] at hi; cases hi⟩
  | .quiet ks p, x, listed, a, w, hB, hS, h => by
    simp only [planTB, Bool.and_eq_true, decide_eq_true_eq] at hB
    obtain ⟨⟨⟨⟨b1, b2⟩, b3⟩, b4⟩, b5⟩ := hB
    obtain ⟨i0, j0⟩ := inOrder_map ks b3
    have g := anyL_of_quiets (P := P) (S := S) (Q := Q) hlast hs hQ (f := p.size + x) (inOrder l ks) ks listed a w i0 b1 b4 hS
      (eachF_of_quiet (inOrder l ks) a (fun o ho => List.all_eq_true.1 b2 o ho) (wpQuiet_imp (fun a' hh => anyL_planT hlast hs hQ p x _ a' w b5 hS hh) _ _ h))
    rw [j0] at g
    show wpAnyL P md l.toArray lst S Q (p.size + ks.length + x) listed a w
    rw [show p.size + ks.length + x = p.size + x + ks.length by omega]
    exact g
  | .only k p, x, listed, a, w, hB, hS, h => by
    simp only [planTB, Bool.and_eq_true, decide_eq_true_eq] at hB
    obtain ⟨⟨b1, b2⟩, b3⟩ := hB
    obtain ⟨o, m1, m2⟩ := one_of b2
    simp only [wpPlanT, m1] at h
    show wpAnyL P md l.toArray lst S Q (p.size + 1 + x) listed a w
    rw [show p.size + 1 + x = p.size + x + 1 by omega]
    refine ⟨fun h1 => (by rw [b1] at h1; cases h1), fun i hi => ?_⟩
    rw [b1] at hi
    obtain rfl := List.mem_singleton.1 hi
    exact op_of_list m2 hS h fun a' w' hs' hk => ⟨fun _ => hs', anyL_planT hlast hs hQ p x _ a' w' b3 hs' hk⟩
  | .last k, x, listed, a, w, hB, hS, h => by
    simp only [planTB, Bool.and_eq_true, decide_eq_true_eq] at hB
    obtain ⟨⟨⟨b0, b1⟩, b2⟩, b3⟩ := hB
    obtain ⟨o, m1, m2⟩ := one_of b2
    simp only [wpPlanT, m1] at h
    show wpAnyL P md l.toArray lst S Q (1 + x) listed a w
    rw [show 1 + x = x + 1 by omega]
    refine ⟨fun h1 => (by rw [b1] at h1; cases h1), fun i hi => ?_⟩
    rw [b1] at hi
    obtain rfl := List.mem_singleton.1 hi
    have he : Region.ready md l.toArray (listed.setIfInBounds i true) = [] := by simpa using b3
    refine op_of_list m2 trivial h fun a' w' _ hk => ⟨fun hne => absurd b0 hne, ?_⟩
    cases x with
    | zero => exact ⟨he, hk⟩
    | succ x => exact ⟨fun _ => hk, fun i hi => by rw [he] at hi; cases hi⟩
  | .fork k1 p1 k2 p2, x, listed, a, w, hB, hS, h => by
    simp only [planTB, Bool.and_eq_true, decide_eq_true_eq] at hB
    obtain ⟨⟨⟨⟨b1, b2⟩, b3⟩, b4⟩, b5⟩ := hB
    obtain ⟨o1, m1, n1⟩ := one_of b2
    obtain ⟨o2, m2, n2⟩ := one_of b3
    simp only [wpPlanT, m1, m2] at h
    show wpAnyL P md l.toArray lst S Q (max p1.size p2.size + 1 + x) listed a w
    rw [show max p1.size p2.size + 1 + x = max p1.size p2.size + x + 1 by omega]
    refine ⟨fun h1 => (by rw [b1] at h1; cases h1), fun i hi => ?_⟩
    rw [b1] at hi
    rcases List.mem_cons.1 hi with rfl | hi
    · refine op_of_list n1 hS h.1 fun a' w' hs' hk => ⟨fun _ => hs', ?_⟩
      have := anyL_planT hlast hs hQ p1 (max p1.size p2.size - p1.size + x) _ a' w' b4 hs' hk
      rwa [show p1.size + (max p1.size p2.size - p1.size + x) = max p1.size p2.size + x by omega] at this
    · obtain rfl := List.mem_singleton.1 hi
      refine op_of_list n2 hS h.2 fun a' w' hs' hk => ⟨fun _ => hs', ?_⟩
      have := anyL_planT hlast hs hQ p2 (max p1.size p2.size - p2.size + x) _ a' w' b5 hs' hk
      rwa [show p2.size + (max p1.size p2.size - p2.size + x) = max p1.size p2.size + x by omega] at this
  | .fork3 k1 p1 k2 p2 k3 p3, x, listed, a, w, hB, hS, h => by
    simp only [planTB, Bool.and_eq_true, decide_eq_true_eq] at hB
    obtain ⟨⟨⟨⟨b1, ⟨b2, b3⟩, b4⟩, c1⟩, c2⟩, c3⟩ := hB
    obtain ⟨o1, m1, n1⟩ := one_of b2
    obtain ⟨o2, m2, n2⟩ := one_of b3
    obtain ⟨o3, m3, n3⟩ := one_of b4
    simp only [wpPlanT, m1, m2, m3] at h
    show wpAnyL P md l.toArray lst S Q (max p1.size (max p2.size p3.size) + 1 + x) listed a w
    rw [show max p1.size (max p2.size p3.size) + 1 + x = max p1.size (max p2.size p3.size) + x + 1 by omega]
    refine ⟨fun h1 => (by rw [b1] at h1; cases h1), fun i hi => ?_⟩
    rw [b1] at hi
    rcases List.mem_cons.1 hi with rfl | hi
    · refine op_of_list n1 hS h.1 fun a' w' hs' hk => ⟨fun _ => hs', ?_⟩
      have := anyL_planT hlast hs hQ p1 (max p1.size (max p2.size p3.size) - p1.size + x) _ a' w' c1 hs' hk
      rwa [show p1.size + (max p1.size (max p2.size p3.size) - p1.size + x) = max p1.size (max p2.size p3.size) + x by omega] at this
    rcases List.mem_cons.1 hi with rfl | hi
    · refine op_of_list n2 hS h.2.1 fun a' w' hs' hk => ⟨fun _ => hs', ?_⟩
      have := anyL_planT hlast hs hQ p2 (max p1.size (max p2.size p3.size) - p2.size + x) _ a' w' c2 hs' hk
      rwa [show p2.size + (max p1.size (max p2.size p3.size) - p2.size + x) = max p1.size (max p2.size p3.size) + x by omega] at this
    · obtain rfl := List.mem_singleton.1 hi
      refine op_of_list n3 hS h.2.2 fun a' w' hs' hk => ⟨fun _ => hs', ?_⟩
      have := anyL_planT hlast hs hQ p3 (max p1.size (max p2.size p3.size) - p3.size + x) _ a' w' c3 hs' hk
      rwa [show p3.size + (max p1.size (max p2.size p3.size) - p3.size + x) = max p1.size (max p2.size p3.size) + x by omega] at this
def planTRB (l : List Oper) (lst : Nat) (p : PlanT) : Bool := Region.noSelect l.toArray && lastsB .any l.toArray lst && decide (p.size ≤ l.length) && planTB .any l lst p (Array.replicate l.toArray.size false)
/-- THE REGION, ALONG A PLAN. S0: what every operation but the last keeps of the world. -/
theorem wp_region_plan3 {id : Nat} {a : Act} {w : World} {l : List Oper} (S0 : World → Prop) (p : PlanT) (lst : Nat) (hm : P.follows .mixedOrders = true) (hB : planTRB l lst p = true) (h0 : S0 { w with drawn := w.drawn + 1 })
    (h : ∀ W, S0 W → W = { w with drawn := w.drawn + 1 } → wpPlanT P l (fun w' => ∃ u, w' = hold S0 W u) (NoPanic Q) p a W) : (Code.region id l.toArray true).wp P Q a w := by
  refine wp_region_noPanic (wp_region_any hm ?_)
  simp only [planTRB, Bool.and_eq_true, decide_eq_true_eq] at hB
  obtain ⟨⟨⟨b1, b2⟩, b3⟩, b4⟩ := hB
  have g := anyL_planT (md := .any) (lastsB_spec b2) b1 (fun c a d v w h => h) p (l.length - p.size) _ a _ b4 (hold_of h0) (h _ h0 rfl)
  rw [show p.size + (l.length - p.size) = l.length by omega] at g
  have g4 := wpAnyL_any _ _ _ _ g
  simpa using g4
end
end Go.Seg
namespace Go.Zn
open Go.Can
/-- Where the zone i of a list of sizes begins. -/
def stS (ps : List Z) (i : Nat) : Int := ((ps.take i).map (·.ct)).sum
/-- Sizes and kinds of zones, as a call is given them. -/
structure PS (ps : List Z) : Prop where
  l1 : 1 ≤ ps.length
  l6 : ps.length ≤ 6
  nd : ∀ z ∈ ps, 0 ≤ z.nd ∧ z.nd < 4
  kd : ∀ z ∈ ps, z.kd = 0 ∨ z.kd = 1
  ct : ∀ z ∈ ps, 1 ≤ z.ct
  mn : ∀ z ∈ ps, 0 ≤ z.mn ∧ z.mn ≤ z.ct
  sm : stS ps ps.length ≤ 256
theorem stS_next {ps : List Z} {i : Nat} {p : Z} (h : ps[i]? = some p) : stS ps (i + 1) = stS ps i + p.ct := by
  unfold stS
  rw [List.take_add_one, h]
  simp
theorem stS_nn {ps : List Z} (h : ∀ z ∈ ps, 1 ≤ z.ct) : ∀ i, 0 ≤ stS ps i
  | 0 => by simp [stS]
  | i + 1 => by
    have := stS_nn h i
    cases hp : ps[i]? with
    | none => unfold stS at this ⊢; rw [List.take_add_one, hp]; simpa using this
    | some p => rw [stS_next hp]; have := h p (List.mem_of_getElem? hp); omega
theorem stS_le {ps : List Z} (h : ∀ z ∈ ps, 1 ≤ z.ct) : ∀ {d i : Nat}, stS ps i ≤ stS ps (i + d)
  | 0, i => Int.le_refl _
  | d + 1, i => by
    refine Int.le_trans (stS_le h (d := d) (i := i)) ?_
    rw [← Nat.add_assoc]
    cases hp : ps[i + d]? with
    | none => unfold stS; rw [List.take_add_one, hp]; simp
    | some p => rw [stS_next hp]; have := h p (List.mem_of_getElem? hp); omega
theorem PS.end_le {ps : List Z} (h : PS ps) {i : Nat} {p : Z} (hp : ps[i]? = some p) : stS ps i + p.ct ≤ 256 := by
  have hi : i < ps.length := by rw [List.getElem?_eq_some_iff] at hp; exact hp.1
  rw [← stS_next hp]
  have := stS_le h.ct (d := ps.length - (i + 1)) (i := i + 1)
  rw [show i + 1 + (ps.length - (i + 1)) = ps.length by omega] at this
  exact Int.le_trans this h.sm
/-- A zone as it was asked for, all of it free. -/
def Gd (ps : List Z) (j : Nat) (y : Z) : Prop := ∃ p, ps[j]? = some p ∧ y.nd = p.nd ∧ y.kd = p.kd ∧ y.st = stS ps j ∧ y.ct = p.ct ∧ y.mn = p.mn ∧ Vd y.st y.ct y.fr ∧ ∀ x, Cov (F y.fr) x ↔ inZ y x
theorem Gd.rng {ps : List Z} (hP : PS ps) {j : Nat} {y : Z} (h : Gd ps j y) : Rng y := by
  obtain ⟨p, hp, e1, e2, e3, e4, e5, _, _⟩ := h
  have hm := List.mem_of_getElem? hp
  have h1 := hP.nd p hm; have h2 := hP.kd p hm; have h3 := hP.ct p hm; have h4 := hP.mn p hm
  have h5 := stS_nn hP.ct j; have h6 := hP.end_le hp
  exact ⟨by rw [e1]; exact h1.1, by rw [e1]; exact h1.2, by rw [e2]; exact h2, by rw [e3]; exact h5, by rw [e4]; exact h3, by rw [e3, e4]; exact h6, by rw [e5]; exact h4.1, by rw [e5, e4]; exact h4.2⟩
/-- An allocator in which all frames are free. -/
def nA (nodes : List Int) (bt hi : Nat) (zs : List Z) : A := ⟨nodes, bt, hi, zs, List.replicate nodes.length (List.replicate zs.length [])⟩
theorem nA_lst {nodes : List Int} {bt hi : Nat} {zs : List Z} (c z : Nat) : lst (nA nodes bt hi zs) c z = [] := by
  unfold lst nA
  simp only [List.getD_eq_getElem?_getD, List.getElem?_replicate]
  split
  · simp only [Option.getD_some, List.getElem?_replicate]
    split <;> rfl
  · simp
theorem VA.fresh {nodes : List Int} {bt hi : Nat} {ps zs : List Z} (hP : PS ps) (n0 : 1 ≤ nodes.length) (n4 : nodes.length ≤ 4) (nr : ∀ x ∈ nodes, 0 ≤ x ∧ x < 4) (b1 : 1 ≤ bt) (bh : bt ≤ hi) (h64 : hi ≤ 64) (hl : zs.length = ps.length) (hg : ∀ j y, zs[j]? = some y → Gd ps j y) :
    VA (nA nodes bt hi zs) := by
  have hz : ∀ z, z < zs.length → zs[z]? = some (zn (nA nodes bt hi zs) z) := fun z h => by
    show _ = some (zs.getD z noZ)
    rw [List.getD_eq_getElem?_getD, List.getElem?_eq_getElem h]; rfl
  have hg' : ∀ z, z < zs.length → Gd ps z (zn (nA nodes bt hi zs) z) := fun z h => hg z _ (hz z h)
  refine ⟨n0, n4, nr, b1, bh, h64, by show 1 ≤ zs.length; rw [hl]; exact hP.l1, by show zs.length ≤ 6; rw [hl]; exact hP.l6, fun z h => ?_, ?_, fun z h => ?_, by simp [nA], fun c hc => ?_, fun c z _ _ => by rw [nA_lst]; exact Nat.zero_le _, fun c z _ _ x hx => (by rw [nA_lst] at hx; cases hx), fun c z _ _ => (by rw [nA_lst]; exact List.nodup_nil), fun c d z _ _ _ _ x hx => (by rw [nA_lst] at hx; cases hx)⟩
  · obtain ⟨p, hp, e1, e2, e3, e4, e5, hv, _⟩ := id (hg' z h)
    exact ⟨(hg' z h).rng hP, hv⟩
  · have h0 : 0 < zs.length := by have := hP.l1; omega
    obtain ⟨p, hp, e1, e2, e3, _⟩ := hg' 0 h0
    rw [e3]
    simp [stS]
  · have h : z + 1 < zs.length := h
    obtain ⟨p, hp, e1, e2, e3, _⟩ := hg' (z + 1) h
    obtain ⟨q, hq, d1, d2, d3, d4, _⟩ := hg' z (by omega)
    rw [e3, d3, d4, stS_next hq]
  · have hc : c < nodes.length := by simpa [nA] using hc
    show ((List.replicate nodes.length (List.replicate zs.length [])).getD c []).length = zs.length
    rw [List.getD_eq_getElem?_getD, List.getElem?_replicate, if_pos hc]
    simp
end Go.Zn
namespace Go.Proofs.Ytdddkfpcbfgocaa
open Go.RowKit Go.Over Go.Zn Go.Can Go.Seg Go.Grow
section
variable {ops : Array Oper} {rest : List Oper} {d i j : Nat} {ty : TypeId} {pos : String} {af : Array Edge} {a : Act} {w : World} {Q : Exit → Act → World → Prop}
/-- A row of zones is made. -/
theorem wpList_mkZ {n : Nat} (hl : a.eval (.tmp i) = .int .i64 (n : Int)) (h6 : n ≤ 6)
    (hK : ∀ W zc, zc.length = n * 10 → Blk W w.heap.size 39 zc → Below w.heap.size w W → wpList Try.prog ops Q rest (a.put (some d) (.slice (some ⟨w.heap.size, 0, none⟩) n n)) W) :
    wpList Try.prog ops Q ({ dst := some d, op := .makeSlice 29 (.tmp i) (.tmp i), type := ty, pos := pos, after := af, guard := none } :: rest) a w := by
  have hinfo : (Try.prog.info? 39).map (fun i => (i.zero, i.size, i.bytes)) = some (some (.agg #[.int .i64 0, .int .i64 0, .int .i64 0, .int .i64 0, .int .i64 0, .slice none 0 0, .slice none 0 0, .slice none 0 0, .slice none 0 0, .slice none 0 0]), 10, 160) := by kernel_rfl
  obtain ⟨inf, hi, hzz⟩ := Option.map_eq_some_iff.1 hinfo
  simp only [Prod.mk.injEq] at hzz
  obtain ⟨hz, hs, hby⟩ := hzz
  have hr := run_make (P := Try.prog) w 29 39 inf (.agg #[.int .i64 0, .int .i64 0, .int .i64 0, .int .i64 0, .int .i64 0, .slice none 0 0, .slice none 0 0, .slice none 0 0, .slice none 0 0, .slice none 0 0]) Try.underlying29 hi hz .i64 .i64 (n : Int) (n : Int) (by omega) (by omega) (by rw [hby]; omega) (by omega)
  simp only [Int.toNat_natCast, hs] at hr
  refine wpList_plain rfl fun K hK' => ?_
  unfold Oper.wp
  simp only [execOp, hl, Sem.run_bind, hr, Result.andThen_ok, Sem.run_pure]
  exact hK' _ _ (hK _ (madeCells (Value.agg #[.int .i64 0, .int .i64 0, .int .i64 0, .int .i64 0, .int .i64 0, .slice none 0 0, .slice none 0 0, .slice none 0 0, .slice none 0 0, .slice none 0 0]).cells (n * 10)).toList (by rw [Array.length_toList, size_madeCells]) (Blk.new _ _ _ _ (by rw [Array.toArray_toList])) (below_box _ _))
/-- An allocator under way is stored, and loaded. -/
theorem stG {g : Nat} {cs zs : List Value} (hx : a.eval (.tmp i) = .pointer (some ⟨g, 0, none⟩)) (hy : a.eval (.tmp j) = .agg cs.toArray) (hB : Blk w g 32 zs) (hz : zs.length = 5) (hl : cs.length = 5) (h1 : ∀ v ∈ cs, v.oneCell' = true)
    (h : ∀ W, Blk W g 32 cs → w.grownBy W (some g) → wpList Try.prog ops Q rest (a.put none undef) W) :
    wpList Try.prog ops Q ({ dst := none, op := .store 32 (.tmp i) (.tmp j), type := ty, pos := pos, after := af, guard := none } :: rest) a w := by
  have e : lay zs 0 cs = cs := by
    unfold lay
    rw [hl, List.take_zero, List.nil_append, List.drop_eq_nil_of_le (by omega), List.append_nil]
  refine wpList_store_part (cs := cs) (by rw [infoA, hl]) hx hy hB (by rw [hz, hl]; exact Nat.le_refl _) h1 fun W q1 q2 => h W (by rw [← e]; exact q1) q2
theorem ldG {g : Nat} {cs : List Value} (hx : a.eval (.tmp i) = .pointer (some ⟨g, 0, none⟩)) (hB : Blk w g 32 cs) (hl : cs.length = 5) (h : wpList Try.prog ops Q rest (a.put (some d) (.agg cs.toArray)) w) :
    wpList Try.prog ops Q ({ dst := some d, op := .load 32 (.tmp i), type := ty, pos := pos, after := af, guard := none } :: rest) a w :=
  wpList_load_row rfl 32 (.tmp i) rfl g hx 32 cs.toArray (0, 0) _ hB Try.underlying32 rfl (by rw [infoA]; simp [hl]) h
end
/-- The cells of an allocator under way. -/
def nC (v : Value) (bt hi bz n : Nat) (u : Value) : List Value := [v, .int .i64 bt, .int .i64 hi, .slice (some ⟨bz, 0, none⟩) n n, u]
/-- What a call is given of the zones. -/
structure SV (w : World) (b : Nat) (pc : List Value) (ps : List Z) : Prop where
  x : Blk w b 51 pc
  row : ∀ (i : Nat) (z : Z), ps[i]? = some z → pc[i * 4]? = some (.int .i64 z.nd) ∧ pc[i * 4 + 1]? = some (.int .i64 z.kd) ∧ pc[i * 4 + 2]? = some (.int .i64 z.ct) ∧ pc[i * 4 + 3]? = some (.int .i64 z.mn)
theorem SV.below {w w' : World} {b : Nat} {pc : List Value} {ps : List Z} (h : SV w b pc ps) (hb : Below w.heap.size w w') : SV w' b pc ps := ⟨h.x.later hb, h.row⟩
/-- What New gives. -/
def NewQ (w : World) (nodes : List Int) (bt hi : Nat) (ps : List Z) (e : Ending) (w' : World) : Prop :=
  ∃ v a, e = .returned (.tuple #[v, .int .i64 0]) ∧ Ra w' v a ∧ VA a ∧ Below w.heap.size w w' ∧ a.nodes = nodes ∧ a.bt = bt ∧ a.hi = hi ∧ a.zs.length = ps.length ∧
    (∀ i p, ps[i]? = some p → (zn a i).nd = p.nd ∧ (zn a i).kd = p.kd ∧ (zn a i).st = stS ps i ∧ (zn a i).ct = p.ct ∧ (zn a i).mn = p.mn) ∧
    (∀ i x, i < ps.length → inZ (zn a i) x → Cov (F (zn a i).fr) x) ∧ ∀ c z, lst a c z = []
/-- What a call of New keeps of its world. -/
structure NX (w : World) (gr : Nat) (vn : Value) (nodes : List Int) (b : Nat) (pc : List Value) (ps : List Z) (W : World) : Prop where
  bl : Below w.heap.size w W
  z : Blk W gr 32 nilA
  n : Sl W vn nodes
  s : SV W b pc ps
theorem NX.below {w W W' : World} {gr b : Nat} {vn : Value} {nodes : List Int} {pc : List Value} {ps : List Z} (h : NX w gr vn nodes b pc ps W) (hb : Below W.heap.size W W') : NX w gr vn nodes b pc ps W' :=
  ⟨below_then h.bl hb, h.z.later hb, h.n.below hb, h.s.below hb⟩
theorem NX.grown {w W W' : World} {gr gp b : Nat} {vn : Value} {nodes : List Int} {pc cs : List Value} {ps : List Z} (h : NX w gr vn nodes b pc ps W) (hB : Blk W gp 32 cs) (hg : W.grownBy W' (some gp)) (hne : gr ≠ gp) (hl : w.heap.size ≤ gp) : NX w gr vn nodes b pc ps W' :=
  ⟨h.bl.grown hg h.bl.size (fun q hq => by cases hq; exact hl), h.z.grown hg (by simpa using Ne.symm hne), h.n.grown hB (by decide) hg, ⟨h.s.x.grown hg (by simpa using hB.ne_type h.s.x (by decide)), h.s.row⟩⟩
/-- The allocator that New makes, under way. -/
structure NG (w : World) (gp gr bz : Nat) (v u : Value) (bt hi n : Nat) (zc : List Value) (vn : Value) (nodes : List Int) (b : Nat) (pc : List Value) (ps : List Z) (W : World) : Prop where
  lp : w.heap.size ≤ gp
  lz : w.heap.size ≤ bz
  ne : gr ≠ gp
  lr : w.heap.size ≤ gr
  X : NX w gr vn nodes b pc ps W
  B : Blk W gp 32 (nC v bt hi bz n u)
  M : Blk W bz 39 zc
  L : zc.length = n * 10
  N : Sl W v nodes
section
variable {w W W' : World} {gp gr bz bt hi n b : Nat} {v u vn : Value} {nodes : List Int} {zc pc : List Value} {ps : List Z}
theorem NG.below (h : NG w gp gr bz v u bt hi n zc vn nodes b pc ps W) (hb : Below W.heap.size W W') : NG w gp gr bz v u bt hi n zc vn nodes b pc ps W' :=
  ⟨h.lp, h.lz, h.ne, h.lr, h.X.below hb, h.B.later hb, h.M.later hb, h.L, h.N.below hb⟩
theorem NG.c3 (h : NG w gp gr bz v u bt hi n zc vn nodes b pc ps W) : W.cell? ⟨gp, 3, none⟩ = some (.slice (some ⟨bz, 0, none⟩) n n) := by rw [h.B.cell]; rfl
theorem NG.c4 (h : NG w gp gr bz v u bt hi n zc vn nodes b pc ps W) : W.cell? ⟨gp, 4, none⟩ = some u := by rw [h.B.cell]; rfl
theorem NG.past (h : NG w gp gr bz v u bt hi n zc vn nodes b pc ps W) (hb : Below w.heap.size w W') (kp : ∀ {q t : Nat} {bs : List Value}, t ≠ 77 → Blk W q t bs → Blk W' q t bs) : NG w gp gr bz v u bt hi n zc vn nodes b pc ps W' :=
  ⟨h.lp, h.lz, h.ne, h.lr, ⟨hb, kp (by decide) h.X.z, h.X.n.past fun _ _ => kp (by decide), ⟨kp (by decide) h.X.s.x, h.X.s.row⟩⟩, kp (by decide) h.B, kp (by decide) h.M, h.L, h.N.past fun _ _ => kp (by decide)⟩
theorem NG.zset {zc' : List Value} (h : NG w gp gr bz v u bt hi n zc vn nodes b pc ps W) (hB : Blk W' bz 39 zc') (hg : W.grownBy W' (some bz)) (hl : zc'.length = n * 10) : NG w gp gr bz v u bt hi n zc' vn nodes b pc ps W' := by
  have kp : ∀ {q t : Nat} {bs : List Value}, t ≠ 39 → Blk W q t bs → Blk W' q t bs := fun ht hq => hq.grown hg (by simpa using Ne.symm (hq.ne_type h.M ht))
  exact ⟨h.lp, h.lz, h.ne, h.lr, ⟨h.X.bl.grown hg h.X.bl.size (fun q hq => by cases hq; exact h.lz), kp (by decide) h.X.z, h.X.n.past fun _ _ => kp (by decide), ⟨kp (by decide) h.X.s.x, h.X.s.row⟩⟩, kp (by decide) h.B, hB, hl, h.N.past fun _ _ => kp (by decide)⟩
theorem NG.cset {u' : Value} (h : NG w gp gr bz v u bt hi n zc vn nodes b pc ps W) : NG w gp gr bz v u' bt hi n zc vn nodes b pc ps (W.setCell ⟨gp, 4, none⟩ u') := by
  have kp : ∀ {q t : Nat} {bs : List Value}, t ≠ 32 → Blk W q t bs → Blk (W.setCell ⟨gp, 4, none⟩ u') q t bs := fun ht hq => hq.far (p := ⟨gp, 4, none⟩) (hq.ne_type h.B ht) u'
  exact ⟨h.lp, h.lz, h.ne, h.lr, ⟨h.X.bl.setCell (p := ⟨gp, 4, none⟩) h.lp u', h.X.z.far (p := ⟨gp, 4, none⟩) h.ne u', h.X.n.past fun _ _ => kp (by decide), ⟨kp (by decide) h.X.s.x, h.X.s.row⟩⟩, h.B.set 4 u', kp (by decide) h.M, h.L, h.N.past fun _ _ => kp (by decide)⟩
theorem own_far {base e size k : Nat} {y : Value} {xs : List Value} {g t : Nat} {bs : List Value} (h : W.ownsRow base e size y k xs) (hB : Blk W g t bs) (ht : e ≠ t) (hg : W.grownBy W' (some g)) : W'.ownsRow base e size y k xs := by
  refine ⟨h.1, ?_⟩
  rcases h.2 with h2 | ⟨g', cap, cur, h1, h2, h3, h4⟩
  · exact .inl h2
  · have hc : Blk W g' e cur.toList := by unfold Blk; simpa using h3
    have hc' := hc.grown hg (by simpa using Ne.symm (hc.ne_type hB ht))
    exact .inr ⟨g', cap, cur, h1, h2, by unfold Blk at hc'; simpa using hc', h4⟩
theorem Lc.past {y : Value} {L : List (List Int)} (h : Lc W y L) (hk : ∀ b bs, Blk W b 3 bs → Blk W' b 3 bs) (hi : ∀ b bs, Blk W b 28 bs → Blk W' b 28 bs) : Lc W' y L := by
  obtain ⟨b', c', bs, h2, h3, h4, h5⟩ := h
  exact ⟨b', c', bs, h2, h3, h4, hi b' bs h5.x, h5.n, fun i l hl => by obtain ⟨u, q1, q2⟩ := h5.row i l hl; exact ⟨u, q1, q2.past hk⟩⟩
/-- A zone is put behind those that lie in a block. -/
theorem QV.snoc {zs : List Z} {cs : List Value} {i : Nat} {y : Z} (h : QV W bz zc zs) (hl : zs.length = i) (hfit : i * 10 + 10 ≤ zc.length) (hcs : ZV W cs y) (hB : Blk W' bz 39 (lay zc (i * 10) cs)) (hg : W.grownBy W' (some bz)) : QV W' bz (lay zc (i * 10) cs) (zs ++ [y]) := by
  have kp : ∀ {q t : Nat} {bs : List Value}, t ≠ 39 → Blk W q t bs → Blk W' q t bs := fun ht hq => hq.grown hg (by simpa using Ne.symm (hq.ne_type h.x ht))
  have hf : i * 10 + cs.length ≤ zc.length := by rw [hcs.len]; exact hfit
  refine ⟨hB, by rw [lay_len hf, List.length_append, hl]; simp; omega, fun j z hz => ?_⟩
  rcases Nat.lt_or_ge j i with hj | hj
  · rw [List.getElem?_append_left (by omega)] at hz
    rw [lay_other hf (.inl (by omega))]
    exact (h.row j z hz).past fun _ _ => kp (by decide)
  · rw [List.getElem?_append_right (by omega), hl] at hz
    have hji : j = i := by
      have := lt_of hz
      simp at this
      omega
    subst hji
    rw [Nat.sub_self] at hz
    cases hz
    have := lay_same hf
    rw [hcs.len] at this
    rw [this]
    exact hcs.past fun _ _ => kp (by decide)
end
theorem infoSp : (Try.prog.info? 51).map (·.size) = some 4 := by kernel_rfl
def spC (p : Z) : List Value := [.int .i64 p.nd, .int .i64 p.kd, .int .i64 p.ct, .int .i64 p.mn]
def sp0 : List Value := [.int .i64 0, .int .i64 0, .int .i64 0, .int .i64 0]
section
variable {ops : Array Oper} {rest : List Oper} {d i j : Nat} {ty : TypeId} {pos : String} {af : Array Edge} {a : Act} {w : World} {Q : Exit → Act → World → Prop}
theorem ldSp {b k : Nat} {pc : List Value} {ps : List Z} {p : Z} (hx : a.eval (.tmp i) = .pointer (some ⟨b, k * 4, none⟩)) (h : SV w b pc ps) (hp : ps[k]? = some p) (hK : wpList Try.prog ops Q rest (a.put (some d) (.agg (spC p).toArray)) w) :
    wpList Try.prog ops Q ({ dst := some d, op := .load 51 (.tmp i), type := ty, pos := pos, after := af, guard := none } :: rest) a w := by
  obtain ⟨p0, p1, p2, p3⟩ := h.row k p hp
  refine wpList_load_part (cs := spC p) Try.underlying51 rfl (by rw [infoSp]; rfl) hx h.x (fun j v hj => ?_) hK
  match j, hj with
  | 0, hj => cases hj; exact p0
  | 1, hj => cases hj; exact p1
  | 2, hj => cases hj; exact p2
  | 3, hj => cases hj; exact p3
  | j + 4, hj => simp [spC] at hj
theorem stSp {g : Nat} {p : Z} {zs : List Value} (hx : a.eval (.tmp i) = .pointer (some ⟨g, 0, none⟩)) (hy : a.eval (.tmp j) = .agg (spC p).toArray) (hB : Blk w g 51 zs) (hz : zs.length = 4)
    (h : ∀ W, Blk W g 51 (spC p) → w.grownBy W (some g) → wpList Try.prog ops Q rest (a.put none undef) W) :
    wpList Try.prog ops Q ({ dst := none, op := .store 51 (.tmp i) (.tmp j), type := ty, pos := pos, after := af, guard := none } :: rest) a w := by
  have e : lay zs 0 (spC p) = spC p := by
    have hl : (spC p).length = 4 := rfl
    unfold lay
    rw [hl, List.take_zero, List.nil_append, List.drop_eq_nil_of_le (by omega), List.append_nil]
  refine wpList_store_part (cs := spC p) (by rw [infoSp]; rfl) hx hy hB (by rw [hz]; exact Nat.le_refl _) ?_ fun W q1 q2 => h W (by rw [← e]; exact q1) q2
  intro u hu
  simp [spC] at hu
  rcases hu with rfl | rfl | rfl | rfl <;> rfl
/-- A zone is stored into a row of zones. -/
theorem stQ {bz k : Nat} {zc cs : List Value} (hx : a.eval (.tmp i) = .pointer (some ⟨bz, k * 10, none⟩)) (hy : a.eval (.tmp j) = .agg cs.toArray) (hB : Blk w bz 39 zc) (hl : cs.length = 10) (hfit : k * 10 + 10 ≤ zc.length) (h1 : ∀ v ∈ cs, v.oneCell' = true)
    (h : ∀ W, Blk W bz 39 (lay zc (k * 10) cs) → w.grownBy W (some bz) → wpList Try.prog ops Q rest (a.put none undef) W) :
    wpList Try.prog ops Q ({ dst := none, op := .store 39 (.tmp i) (.tmp j), type := ty, pos := pos, after := af, guard := none } :: rest) a w :=
  wpList_store_part (cs := cs) (by rw [infoZ, hl]) hx hy hB (by rw [hl]; exact hfit) h1 h
/-- One cache is appended to a row of a call's own. -/
theorem wpList_appC {base b n : Nat} {v x : Value} {l : List Value} (hs : a.eval (.tmp i) = v) (hx : a.eval (.tmp j) = .slice (some ⟨b, 0, none⟩) 1 1) (hO : w.ownsRow base 77 1 v n l) (hB : Blk w b 77 [x]) (h1 : x.oneCell' = true) (hl : n ≤ 900000) (hb : base ≤ w.heap.size)
    (h : ∀ v' w', w'.ownsRow base 77 1 v' (n + 1) (l ++ [x]) → w.grownBy w' v.ownBlock → wpList Try.prog ops Q rest (a.put (some d) v') w') :
    wpList Try.prog ops Q ({ dst := some d, op := .call { callee := .builtin .append, args := #[.tmp i, .tmp j], argTypes := #[30, 30] }, type := ty, pos := pos, after := af, guard := none } :: rest) a w := by
  refine wpList_append_k KC rfl (.tmp i) (.tmp j) rfl v n l hs hO (some ⟨b, 0, none⟩) 1 1 [x] hx ⟨rfl, by simpa using h1, .inr ⟨_, rfl, fun k u hk => ?_⟩⟩ (by omega) hb fun v' w' q1 q2 _ => h v' w' q1 q2
  rw [add_off, Nat.zero_add, hB.cell]; exact hk
end
end Go.Proofs.Ytdddkfpcbfgocaa
