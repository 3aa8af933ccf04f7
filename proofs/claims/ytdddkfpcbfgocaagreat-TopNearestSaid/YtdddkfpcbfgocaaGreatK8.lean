/- The law of the two operations on slabs that every statement ends with. Walks: what every statement on slabs ends with. What is common to the statements on slabs. Walks: the statement on the frames of slabs. A new allocator is all that is left when all is given back. Walks: the statement on slabs that are all given back. -/
import Derived.Test.YtdddkfpcbfgocaaGreatK7
import Derived.Test.YtdddkfpcbfgocaaGreatK6
namespace Go.Zn
open Go.Slb
theorem len2 {u : List Bool} (h : (u.length : Int) = 2) : ∃ a b, u = [a, b] := by
  match u, h with
  | [a, b], _ => exact ⟨a, b, rfl⟩
  | [], h => simp at h
  | [_], h => simp at h
  | _ :: _ :: _ :: _, h => simp at h; omega
theorem three {l : List S} {q : Int} (h : Ok 2 l) (hl : l.length = 3) (hu : used l = 5) (hq : (objs 2 true l)[1]? = some q) : (freeL 2 l q).length = 3 ∧ used (freeL 2 l q) = 4 := by
  match l, hl with
  | [⟨f1, u1⟩, ⟨f2, u2⟩, ⟨f3, u3⟩], _ =>
    obtain ⟨a1, b1, rfl⟩ := len2 (h.len (f1, u1) (by simp))
    obtain ⟨a2, b2, rfl⟩ := len2 (h.len (f2, u2) (by simp))
    obtain ⟨a3, b3, rfl⟩ := len2 (h.len (f3, u3) (by simp))
    have k0 : (f1 * 2 + 0) / 2 = f1 ∧ ((f1 * 2 + 0) % 2).toNat = 0 := by omega
    have k1 : (f1 * 2 + 1) / 2 = f1 ∧ ((f1 * 2 + 1) % 2).toNat = 1 := by omega
    have m0 : (f2 * 2 + 0) / 2 = f2 ∧ ((f2 * 2 + 0) % 2).toNat = 0 := by omega
    have m1 : (f2 * 2 + 1) / 2 = f2 ∧ ((f2 * 2 + 1) % 2).toNat = 1 := by omega
    cases a1 <;> cases b1 <;> cases a2 <;> cases b2 <;> cases a3 <;> cases b3 <;> first
      | (exfalso; revert hu; simp [used, cnt]; done)
      | (have e : q = f1 * 2 + 1 := by simp [objs, offs] at hq; omega
         subst e
         rw [(h.free_at (i := 0) (s := (f1, _)) rfl k1.1.symm).1, k1.2]
         simp [full, used, cnt])
      | (have e : q = f2 * 2 + 0 := by simp [objs, offs] at hq; omega
         subst e
         rw [(h.free_at (i := 1) (s := (f2, _)) rfl m0.1.symm).1, m0.2]
         simp [full, used, cnt])
/-- What is known behind each of the two operations. -/
def twoP (i : Nat) (l : List S) : Prop := (i = 0 → l = []) ∧ (i = 1 → l.length = 3 ∧ used l = 5) ∧ (i = 2 → l.length = 3 ∧ used l = 4)
theorem two_steps : SSteps 2 [(4, 0), (0, 1)] twoP := by
  refine ⟨⟨fun _ => rfl, by omega, by omega⟩, fun i x y l l' h1 h2 h3 _ _ h4 => ?_, fun i x y l h1 h2 h3 _ h4 => ?_, fun i x y l n k q h1 h2 h3 h4 h5 h6 h7 => ?_⟩
  · match i, h1 with
    | 0, h1 =>
      simp at h1
      obtain ⟨rfl, rfl⟩ := h1
      obtain rfl := h3.1 rfl
      have hn : needL 2 [] (1 + 4 % 9) = 3 := by decide
      rw [Grew, hn] at h4
      rcases h4 with ⟨h5, _⟩ | ⟨_, h5, h6⟩
      · simp at h5
      · refine ⟨by omega, fun _ => ⟨by simp at h6; omega, h5⟩, by omega⟩
    | 1, h1 =>
      simp at h1
      omega
    | i + 2, h1 => simp at h1
  · match i, h1 with
    | 0, h1 => simp at h1; omega
    | 1, h1 =>
      have h5 := objs_len 2 l
      rw [h4] at h5
      have := h3.2.1 rfl
      simp at h5
      omega
    | i + 2, h1 => simp at h1
  · match i, h1 with
    | 0, h1 => simp at h1; omega
    | 1, h1 =>
      simp at h1
      obtain ⟨rfl, rfl⟩ := h1
      obtain ⟨q1, q2⟩ := h3.2.1 rfl
      rw [objs_len, q2] at h5
      subst h5
      have : k = 1 := by omega
      subst this
      obtain ⟨r1, r2⟩ := three h4 q1 q2 h7
      exact ⟨by omega, by omega, fun _ => ⟨r1, r2⟩⟩
    | i + 2, h1 => simp at h1
end Go.Zn
namespace Go.Proofs.YtdddkfpcbfgocaaGreat
open Go.RowKit Go.Over Go.Zn Go.Can Go.Seg Go.Grow
theorem sops_two (w : World) : SOps (w.alloc (.cells #[.int .u8 4, .int .u8 0, .int .u8 0, .int .u8 1] 79)) (some ⟨w.heap.size, 0, none⟩) [(4, 0), (0, 1)] := fun _ => by
  have NB := Blk.new w 79 #[.int .u8 4, .int .u8 0, .int .u8 0, .int .u8 1] [.int .u8 4, .int .u8 0, .int .u8 0, .int .u8 1] rfl
  refine ⟨w.heap.size, 0, rfl, fun i x y h => ?_⟩
  rw [NB.cell, NB.cell]
  match i, h with
  | 0, h => cases h; exact ⟨rfl, rfl, by decide, by decide⟩
  | 1, h => cases h; exact ⟨rfl, rfl, by decide, by decide⟩
  | i + 2, h => simp at h
set_option maxRecDepth 100000 in set_option maxHeartbeats 3200000 in
theorem dslabbed (w : World) : Calls Tryz.prog 7 #[] w fun e w' => e = .returned (.bool true) ∧ Below w.heap.size w w' := by
  have HSO := Lib.hid (sops_two w)
  have b0 := below_box w (.cells #[.int .u8 4, .int .u8 0, .int .u8 0, .int .u8 1] 79)
  have HT := Lib.hid two_steps
  go_enter Tryz.func7, Tryz.ntmps7
  go_wp2_with fail
  refine (dslabs 2 twoP _ [(4, 0), (0, 1)] 2 2 _ HSO.out rfl HT.out (by omega) (by omega) (by omega)).mono ?_
  rintro e w2 ⟨s, zc, ccs, a, V, rs, rfl, AV, CV', hD, b2, hP⟩
  obtain ⟨h3, h4⟩ := hP.2.2 rfl
  have hrl : rs.length = 3 := by rw [List.length_map] at h3; exact h3
  obtain ⟨aV, cV, rfl, _, _, _, hsl⟩ := CV'.slabs hrl
  have B2 := below_then b0 b2
  have hck := Go.Slb.check_ok.2 hD.k
  have HAC := Lib.hid (show ∀ W, Below w2.heap.size w2 W → Calls Tryz.prog 16 #[.agg (scC 2 (.slice aV 3 cV)).toArray] W (fun e w' => e = .returned (.tuple #[.int .i64 3, .int .i64 4, .int .i64 2]) ∧ Below W.heap.size W w') from fun W hb => by
    have := Sb.account_27 2 aV (rs.map Sb.sl) 3 cV W (hsl.below hb) h3 (by omega)
    rw [Sb.acc_ok hck h3, h4] at this
    exact this)
  have hct := hD.cnt0
  rw [h3] at hct
  have hc13 : cntA a 0 = 13 := by simp at hct; omega
  have HCN := Lib.hid (fun W (h : Ra W (.agg (s.cells a.bt a.hi).toArray) a) => countP _ a 0 W h hD.v (by rw [hD.s.nz]; omega))
  rw [hc13] at HCN
  have s5 : (w2.alloc (.cells #[.slice none 0 0, .int .i64 0, .int .i64 0, .slice none 0 0, .slice none 0 0] 28)).heap.size = w2.heap.size + 1 := by simp
  have hz1 := (Blk.new w2 28 #[.slice none 0 0, .int .i64 0, .int .i64 0, .slice none 0 0, .slice none 0 0] nilA rfl).later (below_box (w2.alloc (.cells #[.slice none 0 0, .int .i64 0, .int .i64 0, .slice none 0 0, .slice none 0 0] 28)) (.cells #[.int .i64 0, .slice none 0 0] 31))
  have hz2 := Blk.new (w2.alloc (.cells #[.slice none 0 0, .int .i64 0, .int .i64 0, .slice none 0 0, .slice none 0 0] 28)) 31 #[.int .i64 0, .slice none 0 0] (scC 0 (.slice none 0 0)) rfl
  have b5 := below_then (below_box w2 (.cells #[.slice none 0 0, .int .i64 0, .int .i64 0, .slice none 0 0, .slice none 0 0] 28)) (below_box (w2.alloc (.cells #[.slice none 0 0, .int .i64 0, .int .i64 0, .slice none 0 0, .slice none 0 0] 28)) (.cells #[.int .i64 0, .slice none 0 0] 31))
  rw [s5] at hz2
  have HV1 := CV'.one
  clear HSO b0 HT b2 hP h3 h4 hrl hsl hck hct hc13 hD CV' s5
  go_upto_region 2 with first | ((with_reducible refine stA (s := s) (bt := a.bt) (hi := a.hi) ?_ ?_ hz1 rfl ?_); (focus rfl); (focus rfl); intro w6 hB6 hg6; have hz3 := hz2.grown hg6 (by simp)) | ((with_reducible refine stSC (o := 2) (V := .slice aV 3 cV) ?_ ?_ hz3 rfl HV1 ?_); (focus rfl); (focus rfl); intro w7 hB7 hg7)
  have b6 := b5.grown hg6 b5.size (fun k hk => by cases hk; exact Nat.le_refl _)
  have b7 := b6.grown hg7 b6.size (fun k hk => by cases hk; omega)
  have A7 := hB6.grown hg7 (by simp)
  have AV7 := AV.below b7
  have B7 := below_then B2 b7
  obtain ⟨g1, hg1⟩ : ∃ g, w2.heap.size = g := ⟨_, rfl⟩
  obtain ⟨g2, hg2⟩ : ∃ g, w2.heap.size + 1 = g := ⟨_, rfl⟩
  rw [hg2] at hB7 ⊢
  have A7 : Blk w7 g1 28 (s.cells a.bt a.hi) := by rw [← hg1]; exact A7
  rw [hg1]
  have HB7 := Lib.hid b7
  clear b5 b6 b7 hg6 hg7 hB6 hz1 hz2 hz3 AV B2 hg1 hg2 HV1
  go_wp2_with ((with_reducible refine ldSC ?_ hB7 ?_); (focus rfl))
  refine (HAC.out w7 HB7.out).mono ?_
  rintro e w8 ⟨rfl, b8⟩
  have A8 := A7.later b8
  have AV8 := AV7.below b8
  have B8 := below_then B7 b8
  clear A7 AV7 B7 b8 hB7 HAC HB7
  go_wp2_with ((with_reducible refine ldaW ?_ ?_ A8 ?_); (focus rfl); (focus rfl))
  refine (HCN.out w8 ⟨s, zc, ccs, rfl, AV8⟩).mono ?_
  rintro e w9 ⟨rfl, b9⟩
  have B9 := below_then B8 b9
  clear B8 b9
  go_wp2
  go_ret
  exact ⟨rfl, B9⟩
end Go.Proofs.YtdddkfpcbfgocaaGreat
namespace Go.Zn
open Go.Slb
def p14 (_ : Nat) (l : List S) : Prop := l.length ≤ 14
theorem free_len {o q : Int} {l : List S} (h : Ok o l) (hq : q ∈ objs o true l) : (freeL o l q).length ≤ l.length := by
  rcases h.free_frames hq with ⟨_, h2⟩ | ⟨_, _, _, h2, _⟩
  · have := congrArg List.length h2
    simp at this
    omega
  · omega
theorem p14_steps (o : Int) (os : List (Int × Int)) : SSteps o os p14 := by
  refine ⟨by simp [p14], fun i x y l l' h1 h2 h3 _ _ h4 => ?_, fun i x y l h1 h2 h3 _ h4 => h3, fun i x y l n k q h1 h2 h3 h4 h5 h6 h7 => ?_⟩
  · unfold p14 at h3 ⊢
    rcases h4 with ⟨_, h5⟩ | ⟨h5, _, h6⟩
    · rw [h5]; exact h3
    · omega
  · unfold p14 at h3 ⊢
    have := free_len h4 (List.mem_of_getElem? h7)
    omega
end Go.Zn
namespace Go.Proofs.YtdddkfpcbfgocaaGreat
open Go.RowKit Go.Over Go.Zn Go.Can Go.Seg Go.Grow
section
variable {ops : Array Oper} {rest : List Oper} {d i j : Nat} {ty : TypeId} {pos : String} {af : Array Edge} {a : Act} {w : World} {g : Nat} {S : World → Prop} {R : Act → Prop}
/-- An allocator is loaded whole, in a quiet piece, where a guard says so. -/
theorem ldQAW {cs : List Value} {n : Nat} {gd : Nat × Bool} (hw : Region.wanted { dst := some d, op := .load 28 (.tmp i), type := ty, pos := pos, after := af, guard := some gd } (yielded ops a.tmps) = true) (hn : (Tryz.prog.info? 28).map (·.size) = some n) (hl : cs.length = n) (hx : a.eval (.tmp i) = .pointer (some ⟨g, 0, none⟩)) (hB : ∀ w, S w → Blk w g 28 cs) (h : wpQuiet Tryz.prog ops S R rest (a.put (some d) (.agg cs.toArray))) :
    wpQuiet Tryz.prog ops S R ({ dst := some d, op := .load 28 (.tmp i), type := ty, pos := pos, after := af, guard := some gd } :: rest) a := by
  refine BigFrame.wpQuiet_want hw fun K hK => ⟨_, fun w hS => ?_, hK _ h⟩
  unfold Oper.quietAt execOp
  simp only [hx, Instr.loadAt, Instr.sureAddr, Sem.run_bind, Sem.run_pure, Result.andThen_ok, run_loadVar_row w g 28 28 cs.toArray (0, 0) _ (hB w hS) Tryz.underlying28 rfl (by rw [hn]; simp [hl])]
  exact ⟨rfl, rfl⟩
end
/-- An allocator and a cache of slabs in variables. -/
structure KF (w : World) (gA gC : Nat) (s : Sh) (zc ccs : List Value) (a : A) (o : Int) (V : Value) (rs : List Sb.R) (W : World) : Prop where
  b : Below w.heap.size w W
  lA : w.heap.size ≤ gA
  lC : w.heap.size ≤ gC
  xA : Blk W gA 28 (s.cells a.bt a.hi)
  xC : Blk W gC 31 (scC o V)
  v : AW W s zc ccs a
  c : Sb.OwnC W w.heap.size V rs
section
variable {w W W' : World} {gA gC : Nat} {s s' : Sh} {zc ccs zc' ccs' : List Value} {a a' : A} {o : Int} {V V' : Value} {rs rs' : List Sb.R}
theorem KF.below (h : KF w gA gC s zc ccs a o V rs W) (hb : Below W.heap.size W W') : KF w gA gC s zc ccs a o V rs W' :=
  ⟨below_then h.b hb, h.lA, h.lC, h.xA.later hb, h.xC.later hb, h.v.below hb, h.c.later hb⟩
theorem KF.aput (h : KF w gA gC s zc ccs a o V rs W) (hB : Blk W' gA 28 (s'.cells a'.bt a'.hi)) (hv : AW W s' zc' ccs' a') (hg : W.grownBy W' (some gA)) : KF w gA gC s' zc' ccs' a' o V rs W' := by
  have kp : ∀ {q t : Nat} {bs : List Value}, t ≠ 28 → Blk W q t bs → Blk W' q t bs := fun ht hq => hq.grown hg (by simpa using h.xA.ne_type hq (Ne.symm ht))
  exact ⟨h.b.grown hg h.b.size (fun q hq => by cases hq; exact h.lA), h.lA, h.lC, hB, kp (by decide) h.xC, hv.past (kp (by decide) hv.q.x) (kp (by decide) hv.c.x) (fun _ _ => kp (by decide)) (fun _ _ => kp (by decide)), h.c.past h.xA (by decide) (by decide) hg⟩
theorem KF.cput (h : KF w gA gC s zc ccs a o V rs W) (hB : Blk W' gC 31 (scC o V')) (hc : Sb.OwnC W w.heap.size V' rs') (hg : W.grownBy W' (some gC)) : KF w gA gC s zc ccs a o V' rs' W' := by
  have kp : ∀ {q t : Nat} {bs : List Value}, t ≠ 31 → Blk W q t bs → Blk W' q t bs := fun ht hq => hq.grown hg (by simpa using h.xC.ne_type hq (Ne.symm ht))
  exact ⟨h.b.grown hg h.b.size (fun q hq => by cases hq; exact h.lC), h.lA, h.lC, kp (by decide) h.xA, hB, h.v.past (kp (by decide) h.v.q.x) (kp (by decide) h.v.c.x) (fun _ _ => kp (by decide)) (fun _ _ => kp (by decide)), hc.past h.xC (by decide) (by decide) hg⟩
end
theorem two_vars (w : World) : Blk ((w.alloc (.cells #[.slice none 0 0, .int .i64 0, .int .i64 0, .slice none 0 0, .slice none 0 0] 28)).alloc (.cells #[.int .i64 0, .slice none 0 0] 31)) w.heap.size 28 nilA ∧ Blk ((w.alloc (.cells #[.slice none 0 0, .int .i64 0, .int .i64 0, .slice none 0 0, .slice none 0 0] 28)).alloc (.cells #[.int .i64 0, .slice none 0 0] 31)) (w.heap.size + 1) 31 (scC 0 (.slice none 0 0)) ∧ Below w.heap.size w ((w.alloc (.cells #[.slice none 0 0, .int .i64 0, .int .i64 0, .slice none 0 0, .slice none 0 0] 28)).alloc (.cells #[.int .i64 0, .slice none 0 0] 31)) := by
  have s5 : (w.alloc (.cells #[.slice none 0 0, .int .i64 0, .int .i64 0, .slice none 0 0, .slice none 0 0] 28)).heap.size = w.heap.size + 1 := by simp
  have hz1 := (Blk.new w 28 #[.slice none 0 0, .int .i64 0, .int .i64 0, .slice none 0 0, .slice none 0 0] nilA rfl).later (below_box (w.alloc (.cells #[.slice none 0 0, .int .i64 0, .int .i64 0, .slice none 0 0, .slice none 0 0] 28)) (.cells #[.int .i64 0, .slice none 0 0] 31))
  have hz2 := Blk.new (w.alloc (.cells #[.slice none 0 0, .int .i64 0, .int .i64 0, .slice none 0 0, .slice none 0 0] 28)) 31 #[.int .i64 0, .slice none 0 0] (scC 0 (.slice none 0 0)) rfl
  have b5 := below_then (below_box w (.cells #[.slice none 0 0, .int .i64 0, .int .i64 0, .slice none 0 0, .slice none 0 0] 28)) (below_box (w.alloc (.cells #[.slice none 0 0, .int .i64 0, .int .i64 0, .slice none 0 0, .slice none 0 0] 28)) (.cells #[.int .i64 0, .slice none 0 0] 31))
  rw [s5] at hz2
  exact ⟨hz1, hz2, b5⟩
theorem KF.start {w w2 w6 w7 : World} {s : Sh} {zc ccs : List Value} {a : A} {o : Int} {V : Value} {rs : List Sb.R} (b2 : Below w.heap.size w w2) (AV : AW w2 s zc ccs a) (CV : Sb.OwnC w2 w.heap.size V rs) (hB6 : Blk w6 w2.heap.size 28 (s.cells a.bt a.hi)) (hg6 : ((w2.alloc (.cells #[.slice none 0 0, .int .i64 0, .int .i64 0, .slice none 0 0, .slice none 0 0] 28)).alloc (.cells #[.int .i64 0, .slice none 0 0] 31)).grownBy w6 (some w2.heap.size)) (hB7 : Blk w7 (w2.heap.size + 1) 31 (scC o V)) (hg7 : w6.grownBy w7 (some (w2.heap.size + 1))) :
    KF w w2.heap.size (w2.heap.size + 1) s zc ccs a o V rs w7 := by
  have b5 := (two_vars w2).2.2
  have b6 := b5.grown hg6 b5.size (fun k hk => by cases hk; exact Nat.le_refl _)
  have b7 := b6.grown hg7 b6.size (fun k hk => by cases hk; omega)
  exact ⟨below_then b2 b7, b2.size, Nat.le_trans b2.size (Nat.le_succ _), hB6.grown hg7 (by simp), hB7, AV.below b7, CV.later b7⟩
end Go.Proofs.YtdddkfpcbfgocaaGreat
namespace Go.Proofs.YtdddkfpcbfgocaaGreat
open Go.RowKit Go.Over Go.Zn Go.Can Go.Seg Go.Grow
def S7 (gA gC : Nat) (cs : List Value) (u : Value) (U : World) : Prop := Blk U gA 28 cs ∧ U.cell? ⟨gC, 1, none⟩ = some u
def S12 (gA gC : Nat) (cs : List Value) (u : Value) (vb vk : Nat) (f : Int) (U : World) : Prop := Blk U gA 28 cs ∧ U.cell? ⟨gC, 1, none⟩ = some u ∧ U.cell? ⟨vb, vk, none⟩ = some (.int .i64 f)
set_option maxRecDepth 100000 in set_option maxHeartbeats 3200000 in
theorem slabFrames (o : Int) (oa : Option Addr) (os : List (Int × Int)) (n c : Nat) (w : World) (hOS : SOps w oa os) (hn : os.length = n) (o0 : 0 ≤ o) (o1 : o < 256) : Calls Tryz.prog 4 #[.slice oa n c, .int .u8 o] w fun e w' => e = .returned (.bool true) ∧ Below w.heap.size w w' := by
  have HO := Lib.hid hOS; have HN := Lib.hid hn
  clear hOS hn
  go_enter Tryz.func4, Tryz.ntmps4
  by_cases h40 : n ≤ 40
  · have t40 : decide ((40 : Int) < (n : Int)) = false := by simp; omega
    obtain ⟨O, hO⟩ : ∃ O : Int, 1 + o % 6 = O := ⟨_, rfl⟩
    have hOa : 1 ≤ O := by omega
    have hOb : O ≤ 6 := by omega
    go_upto_region 4 with fail
    clear hO t40
    have HDS := Lib.hid (dslabs O p14 oa os n c w HO.out HN.out (p14_steps O os) (by omega) (by omega) h40)
    clear o0 o1
    go_wp2_with fail
    refine HDS.out.mono ?_
    rintro e w2 ⟨s, zc, ccs, a, V, rs, rfl, AV, CV', hD, b2, hP⟩
    have hz1 := (two_vars w2).1
    have hz2 := (two_vars w2).2.1
    have HV1 := CV'.one
    have HD := Lib.hid hD; have HP := Lib.hid hP
    clear HDS hD hP
    go_upto_region 5 with first | ((with_reducible refine stA (s := s) (bt := a.bt) (hi := a.hi) ?_ ?_ hz1 rfl ?_); (focus rfl); (focus rfl); intro w6 hB6 hg6; have hz3 := hz2.grown hg6 (by simp)) | ((with_reducible refine stSC (o := O) (V := V) ?_ ?_ hz3 rfl HV1 ?_); (focus rfl); (focus rfl); intro w7 hB7 hg7)
    have K7 := KF.start b2 AV CV' hB6 hg6 hB7 hg7
    obtain ⟨gA, hgA⟩ : ∃ g, w2.heap.size = g := ⟨_, rfl⟩
    obtain ⟨gC, hgC⟩ : ∃ g, w2.heap.size + 1 = g := ⟨_, rfl⟩
    rw [hgC] at K7 ⊢
    have K7 : KF w gA gC s zc ccs a O V rs w7 := by rw [← hgA]; exact K7
    rw [hgA]
    clear hz1 hz2 hz3 HV1 hB6 hB7 hg6 hg7 b2 AV CV' hgA hgC
    obtain ⟨nl, hnl⟩ : ∃ m, rs.length = m := ⟨_, rfl⟩
    obtain ⟨aV, cV, rfl, _, _, _, _⟩ := K7.c.slabs hnl
    obtain ⟨l, hl⟩ : ∃ l, rs.map Sb.sl = l := ⟨_, rfl⟩
    have hln : l.length = nl := by rw [← hl, List.length_map]; exact hnl
    rw [hl] at HD HP
    have HSL := Lib.hid (fun W (h : Sb.OwnC W w.heap.size (.slice aV nl cV) rs) => (show Sb.Slabs W aV l from by
      obtain ⟨aV', cV', e, _, _, _, hs⟩ := h.slabs hnl
      cases e
      rw [hl] at hs
      exact hs))
    have n14 : nl ≤ 14 := by rw [← hln]; exact HP.out
    obtain ⟨U, hU⟩ : ∃ U, Go.Slb.used l = U := ⟨_, rfl⟩
    obtain ⟨M, hM⟩ : ∃ M : Int, (nl : Int) * O = M := ⟨_, rfl⟩
    have hUM : (U : Int) ≤ M := by have := Go.Slb.used_le (l := l) HD.out.k.len; rw [hU, hln, hM] at this; exact this
    have hM84 : M ≤ 84 := by rw [← hM]; have := Int.mul_le_mul (show (nl : Int) ≤ 14 by omega) hOb (by omega) (by omega); omega
    obtain ⟨FR, hFR⟩ : ∃ F : Int, (U : Int) + F = M := ⟨M - U, by omega⟩
    have hF0 : 0 ≤ FR ∧ FR ≤ 84 := by omega
    obtain ⟨hF0, hF1⟩ := hF0
    have HAC := Lib.hid (show ∀ W, Sb.Slabs W aV l → Calls Tryz.prog 16 #[.agg (scC O (.slice aV nl cV)).toArray] W (fun e w' => e = .returned (.tuple #[.int .i64 nl, .int .i64 U, .int .i64 FR]) ∧ Below W.heap.size W w') from fun W hs => by
      have := Sb.account_27 O aV l nl cV W hs hln (by omega)
      rw [Sb.acc_ok (Go.Slb.check_ok.2 HD.out.k) hln, hU, hM, show M - (U : Int) = FR by omega] at this
      exact this)
    have hhd := HD.out.hd
    simp only [List.length_nil, Int.natCast_zero, Int.sub_zero, hln] at hhd
    obtain ⟨H1, hH1⟩ : ∃ H : Int, 14 - (nl : Int) = H := ⟨_, rfl⟩
    have tH : decide (H1 < 0) = false := by simp; omega
    have HHD := Lib.hid (headroom (.agg (s.cells a.bt a.hi).toArray) a)
    obtain ⟨H2, hH2⟩ : ∃ H, hdA a a.zs.length = H := ⟨_, rfl⟩
    rw [hhd, hH2, hH1] at HHD
    have hc0 := HD.out.cnt0
    simp only [List.length_nil, Int.natCast_zero, Int.sub_zero, hln] at hc0
    obtain ⟨C, hC⟩ : ∃ C, cntA a 0 = C := ⟨_, rfl⟩
    have HC0 := Lib.hid (fun W (h : Ra W (.agg (s.cells a.bt a.hi).toArray) a) => countP _ a 0 W h HD.out.v (by rw [HD.out.s.nz]; omega))
    have HC1 := Lib.hid (fun W (h : Ra W (.agg (s.cells a.bt a.hi).toArray) a) => countP _ a 1 W h HD.out.v (by rw [HD.out.s.nz]; omega))
    rw [hC] at HC0 hc0
    rw [HD.out.cnt1] at HC1
    have hC16 : C ≤ 16 := by omega
    have hsum : (C : Int) + 8 + (nl : Int) = 24 := by omega
    have HLN := Lib.hid hln; have HL := Lib.hid hl; have HNR := Lib.hid hnl
    have HSUM := Lib.hid hsum; have HFR := Lib.hid hFR; have HM := Lib.hid hM
    have HH1 := Lib.hid hH1
    clear hnl hl hln hU hM hFR hhd hH1 hH2 hC hc0 hsum HP
    go_wp2_with ((with_reducible refine ldSC ?_ K7.xC ?_); (focus rfl))
    refine (HAC.out w7 (HSL.out w7 K7.c)).mono ?_
    rintro e w8 ⟨rfl, b8⟩
    have K8 := K7.below b8
    clear K7 b8 HAC
    go_wp2_with ((with_reducible refine lda ?_ K8.xA ?_); (focus rfl))
    refine (HHD.out w8 ⟨s, zc, ccs, rfl, K8.v⟩ HD.out.v).mono ?_
    rintro e w9 ⟨rfl, b9⟩
    have K9 := K8.below b9
    clear K8 b9 HHD
    have hFR := HFR.out
    have hM := HM.out
    go_upto_region 7 with fail
    go_cut [72] from 41 to 72 (fun v72 W => v72 = .bool false ∧ KF w gA gC s zc ccs a O (.slice aV nl cV) rs W)
    case first =>
      have c9 : w9.cell? ⟨gC, 1, none⟩ = some (.slice aV nl cV) := by rw [K9.xC.cell]; rfl
      refine wp_region_plan (S7 gA gC (s.cells a.bt a.hi) (.slice aV nl cV)) (.quiet [0, 1, 2, 3, 4, 5, 6, 7, 8, 9, 10, 11, 12, 13, 14, 15, 16, 17, 18, 19, 20, 21, 22, 23, 25, 28] (.only 24 (.only 26 (.quiet [27, 29, 30, 31] .done)))) 99 (by kernel_rfl) (by kernel_rfl) ⟨K9.xA.later (Below.refl _ _).drew, cell_later (Below.refl _ _).drew c9⟩ ?_
      intro W1 hWW hWe
      have bW : Below w9.heap.size w9 W1 := by rw [hWe]; exact (Below.refl _ _).drew
      clear hWe
      have X1 := K9.below bW
      clear K9 bW c9
      simp only [wpPlan, inOrder, List.filterMap_cons, List.filterMap_nil, List.getElem?_cons_zero, List.getElem?_cons_succ]
      have q1 := fun z => (hold_ok (S0 := S7 gA gC (s.cells a.bt a.hi) (.slice aV nl cV)) hWW z).1
      have q2 := fun z => (hold_ok (S0 := S7 gA gC (s.cells a.bt a.hi) (.slice aV nl cV)) hWW z).2
      show wpQuiet _ _ _ _ (_ :: _ :: _ :: _ :: _ :: _ :: _ :: _ :: _ :: _ :: _ :: _ :: _ :: _ :: _ :: _ :: _ :: _ :: _ :: _ :: _ :: _ :: _ :: _ :: _ :: [_]) _
      repeat (go_big_quiet_step (fail))
      refine ldQAW rfl infoA rfl rfl (fun U ⟨z, hz⟩ => by rw [hz]; exact q1 z) ?_
      simp only [Act.put, List.setIfInBounds_toArray, List.set_cons_succ, List.set_cons_zero]
      refine ldQAW rfl infoA rfl rfl (fun U ⟨z, hz⟩ => by rw [hz]; exact q1 z) ?_
      simp only [Act.put, List.setIfInBounds_toArray, List.set_cons_succ, List.set_cons_zero]
      repeat (go_big_quiet_step (fail))
      refine wpQuiet_nil ?_
      clear q1 q2 hWW
      show wpList _ _ _ [_] _ _
      go_wp2_with fail
      refine (HC0.out W1 ⟨s, zc, ccs, rfl, X1.v⟩).mono ?_
      rintro e W2 ⟨rfl, bC⟩
      have X2 := X1.below bC
      have c2 : W2.cell? ⟨gC, 1, none⟩ = some (.slice aV nl cV) := by rw [X2.xC.cell]; rfl
      clear X1 bC
      go_wp2
      refine ⟨hold_of (S0 := S7 gA gC (s.cells a.bt a.hi) (.slice aV nl cV)) ⟨X2.xA, c2⟩, ?_⟩
      show wpList _ _ _ [_] _ _
      go_wp2_with fail
      refine (HC1.out W2 ⟨s, zc, ccs, rfl, X2.v⟩).mono ?_
      rintro e W3 ⟨rfl, bD⟩
      have X3 := X2.below bD
      have c3 : W3.cell? ⟨gC, 1, none⟩ = some (.slice aV nl cV) := by rw [X3.xC.cell]; rfl
      clear X2 bD c2
      go_wp2
      refine ⟨hold_of (S0 := S7 gA gC (s.cells a.bt a.hi) (.slice aV nl cV)) ⟨X3.xA, c3⟩, ?_⟩
      have hsum := HSUM.out
      clear c3
      show wpQuiet _ _ _ _ (_ :: _ :: _ :: [_]) _
      repeat (go_big_quiet_step (fail))
      refine wpQuiet_nil ?_
      refine NoPanic.normal ?_
      clear hsum
      go_wp2
      go_meet
      case rel => exact ⟨rfl, X3⟩
    case rest =>
      clear K9 tH
      obtain ⟨rfl, KC⟩ := hcut
      clear hFR hM
      have c1 := show wc.cell? ⟨gC, 1, none⟩ = some (.slice aV nl cV) by rw [KC.xC.cell]; rfl
      go_wp2
      go_loopg [14] nl (fun gg v14 wr => ∃ i : Nat, i + gg = nl ∧ v14 = .int .i64 i ∧ KF w gA gC s zc ccs a O (.slice aV nl cV) rs wr)
      case atStart => exact ⟨0, by omega, rfl, KC⟩
      case round =>
        clear KC c1
        obtain ⟨i, hi, rfl, K1⟩ := hrel
        have c1 := show wr.cell? ⟨gC, 1, none⟩ = some (.slice aV nl cV) by rw [K1.xC.cell]; rfl
        cases gk with
        | zero =>
          obtain rfl : i = nl := by omega
          have hin : ¬ i < i := by omega
          clear hi
          go_wp2_with fail
          refine (dslabbed wr).mono ?_
          rintro e w5 ⟨rfl, b5⟩
          have B5 := below_then K1.b b5
          clear K1 b5 c1
          go_wp2
          go_ret
          exact ⟨rfl, B5⟩
        | succ gg =>
          have hin : i < nl := by omega
          have HI := Lib.hid hi
          obtain ⟨x, hx⟩ := get_some HLN.out hin
          obtain ⟨f, u⟩ := x
          obtain ⟨vb, vo, rfl, hat⟩ := HSL.out wr K1.c (by rw [HLN.out]; omega)
          have d1 := (hat i _ hx).1
          have hfm : f ∈ frs l := List.mem_map.2 ⟨(f, u), List.mem_of_getElem? hx, rfl⟩
          obtain ⟨f0, f1⟩ := HD.out.fr f hfm
          have hnf : ¬ Fr a 0 f := fun h => ((HD.out.z0 f f0 f1).1 h).1 hfm
          have HIF := Lib.hid (fun W (h : Ra W (.agg (s.cells a.bt a.hi).toArray) a) => isfreeP _ a 0 f W h HD.out.v (by rw [HD.out.s.nz]; omega) (HD.out.s.in0.2 ⟨f0, f1⟩))
          have HZN := Lib.hid (fun W (h : Ra W (.agg (s.cells a.bt a.hi).toArray) a) => zoneP _ a 0 f W h HD.out.v (by rw [HD.out.s.nz]; omega) (HD.out.s.in0.2 ⟨f0, f1⟩))
          have HNF := Lib.hid hnf
          clear hi hx hat hfm hnf
          go_upto_region 12 with fail
          go_cut [98] from 73 to 98 (fun v98 W => v98 = .bool false ∧ KF w gA gC s zc ccs a O (.slice (some ⟨vb, vo, none⟩) nl cV) rs W)
          case first =>
            refine wp_region_plan (S12 gA gC (s.cells a.bt a.hi) (.slice (some ⟨vb, vo, none⟩) nl cV) vb (vo + i * 2) f) (.quiet [0, 1, 2, 3, 4, 5, 6] (.only 7 (.quiet [8, 9, 10, 11, 12, 13, 14, 15] (.only 16 (.quiet [17, 18] .done))))) 99 (by kernel_rfl) (by kernel_rfl) ⟨K1.xA.later (Below.refl _ _).drew, cell_later (Below.refl _ _).drew c1, cell_later (Below.refl _ _).drew d1⟩ ?_
            intro W1 hWW hWe
            have bW : Below wr.heap.size wr W1 := by rw [hWe]; exact (Below.refl _ _).drew
            clear hWe
            have X1 := K1.below bW
            replace d1 := cell_later bW d1
            clear K1 bW c1
            simp only [wpPlan, inOrder, List.filterMap_cons, List.filterMap_nil, List.getElem?_cons_zero, List.getElem?_cons_succ]
            have q1 := fun z => (hold_ok (S0 := S12 gA gC (s.cells a.bt a.hi) (.slice (some ⟨vb, vo, none⟩) nl cV) vb (vo + i * 2) f) hWW z).1
            have q2 := fun z => (hold_ok (S0 := S12 gA gC (s.cells a.bt a.hi) (.slice (some ⟨vb, vo, none⟩) nl cV) vb (vo + i * 2) f) hWW z).2.1
            have q3 := fun z => (hold_ok (S0 := S12 gA gC (s.cells a.bt a.hi) (.slice (some ⟨vb, vo, none⟩) nl cV) vb (vo + i * 2) f) hWW z).2.2
            show wpQuiet _ _ _ _ (_ :: _ :: _ :: _ :: _ :: _ :: [_]) _
            refine ldQA infoA rfl rfl (fun U ⟨z, hz⟩ => by rw [hz]; exact q1 z) ?_
            simp only [Act.put, List.setIfInBounds_toArray, List.set_cons_succ, List.set_cons_zero]
            repeat (go_big_quiet_step (fail))
            refine wpQuiet_nil ?_
            have HQ1 := Lib.hid q1; have HQ2 := Lib.hid q2; have HQ3 := Lib.hid q3
            clear q1 q2 q3 hWW
            show wpList _ _ _ [_] _ _
            go_wp2_with fail
            refine (HIF.out W1 ⟨s, zc, ccs, rfl, X1.v⟩).mono ?_
            rintro e W2 ⟨⟨b, rfl, hb⟩, bC⟩
            have hbf : b = false := by
              cases b with
              | false => rfl
              | true => exact absurd (hb.1 rfl) HNF.out
            subst hbf
            have X2 := X1.below bC
            replace d1 := cell_later bC d1
            have c2 : W2.cell? ⟨gC, 1, none⟩ = some (.slice (some ⟨vb, vo, none⟩) nl cV) := by rw [X2.xC.cell]; rfl
            clear X1 bC hb
            go_wp2
            refine ⟨hold_of (S0 := S12 gA gC (s.cells a.bt a.hi) (.slice (some ⟨vb, vo, none⟩) nl cV) vb (vo + i * 2) f) ⟨X2.xA, c2, d1⟩, ?_⟩
            have q1 := HQ1.out; have q2 := HQ2.out; have q3 := HQ3.out
            show wpQuiet _ _ _ _ (_ :: _ :: _ :: _ :: _ :: _ :: _ :: [_]) _
            repeat (go_big_quiet_step (fail))
            refine ldQAW rfl infoA rfl rfl (fun U ⟨z, hz⟩ => by rw [hz]; exact q1 z) ?_
            simp only [Act.put, List.setIfInBounds_toArray, List.set_cons_succ, List.set_cons_zero]
            repeat (go_big_quiet_step (fail))
            refine wpQuiet_nil ?_
            clear q1 q2 q3
            show wpList _ _ _ [_] _ _
            go_wp2_with fail
            refine (HZN.out W2 ⟨s, zc, ccs, rfl, X2.v⟩).mono ?_
            rintro e W3 ⟨rfl, bD⟩
            have X3 := X2.below bD
            replace d1 := cell_later bD d1
            have c3 : W3.cell? ⟨gC, 1, none⟩ = some (.slice (some ⟨vb, vo, none⟩) nl cV) := by rw [X3.xC.cell]; rfl
            clear X2 bD c2
            go_wp2
            refine ⟨hold_of (S0 := S12 gA gC (s.cells a.bt a.hi) (.slice (some ⟨vb, vo, none⟩) nl cV) vb (vo + i * 2) f) ⟨X3.xA, c3, d1⟩, ?_⟩
            clear d1 c3
            show wpQuiet _ _ _ _ (_ :: [_]) _
            repeat (go_big_quiet_step (fail))
            refine wpQuiet_nil ?_
            refine NoPanic.normal ?_
            go_wp2
            go_meet
            case rel => exact ⟨rfl, X3⟩
          case rest =>
            clear K1 HIF HZN HNF d1 c1
            obtain ⟨rfl, K2⟩ := hcut
            go_wp2
            go_roundg gg
            case rel => exact ⟨i + 1, by have := HI.out; omega, by go_num, K2⟩
            case measure => omega
  · have t40 : decide ((40 : Int) < (n : Int)) = true := by simp; omega
    go_wp2_with fail
    refine (dslabbed w).mono ?_
    rintro e w2 ⟨rfl, b2⟩
    go_wp2
    go_ret
    exact ⟨rfl, b2⟩
end Go.Proofs.YtdddkfpcbfgocaaGreat
namespace Go.Zn
open Go.Can Go.Slb
/-- All frames are free, no cache holds one. -/
structure Fresh (a : A) : Prop where
  v : VA a
  s : Sh2 a
  e : ∀ c z, c < 2 → z < 2 → lst a c z = []
  f : ∀ z x, z < 2 → inZ (zn a z) x → Fr a z x
theorem Fresh.cov {a : A} (h : Fresh a) {z : Nat} (hz : z < 2) (x : Int) : Cov (F (zn a z).fr) x ↔ inZ (zn a z) x := by
  constructor
  · exact fun hc => h.v.fr_in (by rw [h.s.nz]; exact hz) (.inl hc)
  · intro hx
    rcases h.f z x hz hx with h1 | ⟨c, hc, hm⟩
    · exact h1
    · rw [h.s.nc] at hc
      rw [h.e c z hc hz] at hm
      cases hm
theorem Fresh.cs {a : A} (h : Fresh a) : a.cs = [[[], []], [[], []]] := by
  have key : ∀ c, c < 2 → a.cs[c]? = some [[], []] := fun c hc => by
    obtain ⟨L, hL⟩ := Go.Proofs.YtdddkfpcbfgocaaGreat.get_some h.s.nc hc
    have hl : L.length = 2 := by rw [h.v.cl hL]; exact h.s.nz
    match L, hl with
    | [x, y], _ =>
      have h0 := lst_of hL (z := 0) (l := x) rfl
      have h1 := lst_of hL (z := 1) (l := y) rfl
      rw [h.e c 0 hc (by omega)] at h0
      rw [h.e c 1 hc (by omega)] at h1
      rw [hL, ← h0, ← h1]
  have h0 := key 0 (by omega)
  have h1 := key 1 (by omega)
  have hn := h.s.nc
  match ha : a.cs, hn with
  | [x, y], _ =>
    rw [ha] at h0 h1
    simp at h0 h1
    rw [h0, h1]
theorem Fresh.par {a b : A} (h : Fresh a) (h' : Fresh b) {z : Nat} (hz : z < 2) : Par (zn a z) (zn b z) := by
  rcases (show z = 0 ∨ z = 1 by omega) with rfl | rfl
  · have p := h.s.p0; have q := h'.s.p0
    exact ⟨q.nd.trans p.nd.symm, q.kd.trans p.kd.symm, q.st.trans p.st.symm, q.ct.trans p.ct.symm, q.mn.trans p.mn.symm⟩
  · have p := h.s.p1; have q := h'.s.p1
    exact ⟨q.nd.trans p.nd.symm, q.kd.trans p.kd.symm, q.st.trans p.st.symm, q.ct.trans p.ct.symm, q.mn.trans p.mn.symm⟩
theorem Fresh.zeq {a b : A} (h : Fresh a) (h' : Fresh b) {i : Nat} {y y' : Z} (hy : a.zs[i]? = some y) (hy' : b.zs[i]? = some y') : Go.Proofs.YtdddkfpcbfgocaaGreat.ZEq y y' := by
  have hi : i < 2 := by have := lt_of hy; rw [h.s.nz] at this; exact this
  have e := zn_of hy; have e' := zn_of hy'
  have p := h.par h' hi
  have v := h.v.vz i (by rw [h.s.nz]; exact hi)
  have v' := h'.v.vz i (by rw [h'.s.nz]; exact hi)
  have c := h.cov hi; have c' := h'.cov hi
  rw [e] at p v c
  rw [e'] at p v' c'
  refine ⟨p.nd, p.kd, p.st, p.ct, p.mn, vd_uniq v.l (by have := v'.l; rw [p.st, p.ct] at this; exact this) fun x => ?_⟩
  rw [c x, c' x]
  unfold inZ
  rw [p.st, p.ct]
theorem objs_none {o : Int} {l : List S} (h : Ok o l) (hn : ∀ y, y ∉ objs o true l) : l = [] := by
  match l, h, hn with
  | [], _, _ => rfl
  | s :: r, h, hn =>
    obtain ⟨j, hj⟩ := List.getElem?_of_mem (h.used s (by simp))
    exact absurd (mem_objs.2 ⟨s, by simp, j, hj, rfl⟩) (hn _)
theorem objs_nodup {o : Int} {l : List S} (h : Ok o l) : (objs o true l).Nodup := ascI_nodup (objs_asc h.o1 h.asc h.len)
/-- One object less. -/
theorem drop_next {X : List Int} {i : Nat} {x : Int} (hn : X.Nodup) (hx : X[i]? = some x) (y : Int) : y ∈ X.drop (i + 1) ↔ y ∈ X.drop i ∧ y ≠ x := by
  have e : X.drop i = x :: X.drop (i + 1) := Go.Proofs.YtdddkfpcbfgocaaGreat.drop_get hx
  have hd : (X.drop i).Nodup := hn.sublist (List.drop_sublist _ _)
  rw [e] at hd ⊢
  obtain ⟨h1, _⟩ := List.nodup_cons.1 hd
  rw [List.mem_cons]
  constructor
  · intro h; exact ⟨.inr h, fun h2 => h1 (h2 ▸ h)⟩
  · rintro ⟨h | h, h2⟩
    · exact absurd h h2
    · exact h
/-- Behind the release of all, the drained allocator is a new one. -/
theorem DG.fresh {a d : A} {o : Int} (h : DG a o [] []) (hd : Go.Proofs.YtdddkfpcbfgocaaGreat.Drained a d) : Fresh d := by
  have hs := h.s.of hd.s
  refine ⟨hd.v, hs, fun c z hc hz => hd.e c z (by rw [h.s.nc]; exact hc) (by rw [h.s.nz]; exact hz), fun z x hz hx => (hd.f z x).2 ?_⟩
  rcases (show z = 0 ∨ z = 1 by omega) with rfl | rfl
  · have hr := hs.in0.1 hx
    exact (h.z0 x hr.1 hr.2).2 ⟨by simp [frs], by simp⟩
  · have hr := hs.in1.1 hx
    exact h.z1 x hr.1 hr.2
end Go.Zn
namespace Go.Proofs.YtdddkfpcbfgocaaGreat
open Go.RowKit Go.Over Go.Zn Go.Can Go.Seg Go.Grow
/-- Another variable for a cache changes. -/
theorem KF.cset {w W W' : World} {gA gC g : Nat} {s : Sh} {zc ccs cs : List Value} {a : A} {o : Int} {V : Value} {rs : List Sb.R} (h : KF w gA gC s zc ccs a o V rs W) (hB : Blk W g 31 cs) (h5 : g ≠ gC) (hl : w.heap.size ≤ g) (hg : W.grownBy W' (some g)) : KF w gA gC s zc ccs a o V rs W' := by
  have kp : ∀ {q t : Nat} {bs : List Value}, t ≠ 31 → Blk W q t bs → Blk W' q t bs := fun ht hq => hq.grown hg (by simpa using hB.ne_type hq (Ne.symm ht))
  exact ⟨h.b.grown hg h.b.size (fun q hq => by cases hq; exact hl), h.lA, h.lC, kp (by decide) h.xA, h.xC.grown hg (by simpa using h5), h.v.past (kp (by decide) h.v.q.x) (kp (by decide) h.v.c.x) (fun _ _ => kp (by decide)) (fun _ _ => kp (by decide)), h.c.past hB (by decide) (by decide) hg⟩
end Go.Proofs.YtdddkfpcbfgocaaGreat
namespace Go.Proofs.YtdddkfpcbfgocaaGreat
open Go.RowKit Go.Over Go.Zn Go.Can Go.Seg Go.Grow
def S10 (gC : Nat) (ds : List Value) (vb vk : Nat) (q : Int) (U : World) : Prop := Blk U gC 31 ds ∧ U.cell? ⟨vb, vk, none⟩ = some (.int .i64 q)
/-- What the last region reads. -/
def S19 (gA gB gC : Nat) (cs ds : List Value) (u : Value) (U : World) : Prop := Blk U gA 28 cs ∧ Blk U gB 28 ds ∧ U.cell? ⟨gC, 1, none⟩ = some u
set_option maxRecDepth 100000 in set_option maxHeartbeats 3200000 in
theorem slabBack (o : Int) (oa : Option Addr) (os : List (Int × Int)) (n c : Nat) (w : World) (hOS : SOps w oa os) (hn : os.length = n) (o0 : 0 ≤ o) (o1 : o < 256) : Calls Tryz.prog 3 #[.slice oa n c, .int .u8 o] w fun e w' => e = .returned (.bool true) ∧ Below w.heap.size w w' := by
  have HO := Lib.hid hOS; have HN := Lib.hid hn
  clear hOS hn
  go_enter Tryz.func3, Tryz.ntmps3
  by_cases h40 : n ≤ 40
  · have t40 : decide ((40 : Int) < (n : Int)) = false := by simp; omega
    obtain ⟨O, hO⟩ : ∃ O : Int, 1 + o % 6 = O := ⟨_, rfl⟩
    have hOa : 1 ≤ O := by omega
    have hOb : O ≤ 6 := by omega
    go_upto_region 3 with fail
    clear t40
    have HDS := Lib.hid (dslabs O p14 oa os n c w HO.out HN.out (p14_steps O os) (by omega) (by omega) h40)
    go_wp2_with fail
    refine HDS.out.mono ?_
    rintro e w2 ⟨s, zc, ccs, a, V, rs, rfl, AV, CV', hD, b2, hP⟩
    have hz1 := (two_vars w2).1
    have hz2 := (two_vars w2).2.1
    have HV1 := CV'.one
    have HD := Lib.hid hD; have HP := Lib.hid hP
    clear HDS hD hP hO o0 o1
    go_upto_region 4 with first | ((with_reducible refine stA (s := s) (bt := a.bt) (hi := a.hi) ?_ ?_ hz1 rfl ?_); (focus rfl); (focus rfl); intro w6 hB6 hg6; have hz3 := hz2.grown hg6 (by simp)) | ((with_reducible refine stSC (o := O) (V := V) ?_ ?_ hz3 rfl HV1 ?_); (focus rfl); (focus rfl); intro w7 hB7 hg7)
    have K7 := KF.start b2 AV CV' hB6 hg6 hB7 hg7
    have nAC : w2.heap.size ≠ w2.heap.size + 1 := by omega
    obtain ⟨gA, hgA⟩ : ∃ g, w2.heap.size = g := ⟨_, rfl⟩
    obtain ⟨gC, hgC⟩ : ∃ g, w2.heap.size + 1 = g := ⟨_, rfl⟩
    rw [hgC] at K7 nAC ⊢
    have K7 : KF w gA gC s zc ccs a O V rs w7 := by rw [← hgA]; exact K7
    rw [hgA] at nAC ⊢
    clear hz1 hz2 hz3 HV1 hB6 hB7 hg6 hg7 b2 AV CV' hgA hgC
    obtain ⟨nl, hnl⟩ : ∃ m, rs.length = m := ⟨_, rfl⟩
    obtain ⟨aV, cV, rfl, _, _, _, hsl⟩ := K7.c.slabs hnl
    have hln : (rs.map Sb.sl).length = nl := by rw [List.length_map]; exact hnl
    have n14 : nl ≤ 14 := by rw [← hln]; exact HP.out
    obtain ⟨X, hX⟩ : ∃ X, Go.Slb.objs O true (rs.map Sb.sl) = X := ⟨_, rfl⟩
    obtain ⟨m, hm⟩ : ∃ m, X.length = m := ⟨_, rfl⟩
    have hm84 : m ≤ 84 := by
      have h1 := Go.Slb.used_le (l := rs.map Sb.sl) HD.out.k.len
      have h2 := Go.Slb.objs_len O (rs.map Sb.sl)
      rw [hX, hm] at h2
      rw [← h2, hln] at h1
      have := Int.mul_le_mul (show (nl : Int) ≤ 14 by omega) hOb (by omega) (by omega)
      omega
    have hnd := objs_nodup HD.out.k
    rw [hX] at hnd
    have HOB := Lib.hid (show Calls Tryz.prog 9 #[.agg (scC O (.slice aV nl cV)).toArray] w7 (fun e w' => ∃ v, e = .returned v ∧ Sb.OwnI w' w7.heap.size v X ∧ Below w7.heap.size w7 w') from by
      have := Sb.objects_30 O aV (rs.map Sb.sl) nl cV w7 hsl hln (by omega)
      rw [if_pos (Go.Slb.check_ok.2 HD.out.k), hX] at this
      exact this)
    have HXE := Lib.hid (show ∀ y, y ∈ Go.Slb.objs O true (rs.map Sb.sl) ↔ y ∈ X.drop 0 from fun y => by rw [hX]; simp)
    have HND := Lib.hid hnd; have HM := Lib.hid hm
    clear hnl hsl hln hX hm hnd HP
    go_wp2_with ((with_reducible refine ldSC ?_ K7.xC ?_); (focus rfl))
    refine HOB.out.mono ?_
    rintro e w8 ⟨v, rfl, OX, b8⟩
    have K8 := K7.below b8
    have OX := own_weaken OX K7.b.size
    obtain ⟨av, cv, hav, _, _, _, _⟩ := Sb.OwnI.ints (show Sb.OwnI w8 w.heap.size v X from OX) HM.out
    subst hav
    clear K7 b8 HOB
    go_wp2
    go_loopg [9] m (fun gg v9 wr => ∃ (i : Nat) (s : Sh) (zc ccs : List Value) (a : A) (V : Value) (rs : List Sb.R), i + gg = m ∧ v9 = .int .i64 i ∧ KF w gA gC s zc ccs a O V rs wr ∧ DG a O (rs.map Sb.sl) [] ∧ (∀ y, y ∈ Go.Slb.objs O true (rs.map Sb.sl) ↔ y ∈ X.drop i) ∧ wr.ownsRow w.heap.size 3 1 (.slice av m cv) X.length (X.map (Value.int .i64)))
    case atStart => exact ⟨0, s, zc, ccs, a, _, rs, by omega, rfl, K8, HD.out, HXE.out, OX⟩
    case round =>
      clear K8 HD HXE OX
      obtain ⟨i, s, zc, ccs, a, V, rs, hi, rfl, K9, hd, hx, OX⟩ := hrel
      have HD := Lib.hid hd; have HXE := Lib.hid hx
      clear hd hx
      cases gk with
      | zero =>
        obtain rfl : i = m := by omega
        have hin : ¬ i < i := by omega
        have hnil : rs.map Sb.sl = [] := objs_none HD.out.k fun y hy => by
          have := (HXE.out y).1 hy
          rw [List.drop_eq_nil_of_le (by rw [HM.out]; exact Nat.le_refl _)] at this
          cases this
        have hrl : rs.length = 0 := by have := congrArg List.length hnil; simpa using this
        rw [hnil] at HD
        obtain ⟨aV, cV, rfl, _, _, _, _⟩ := K9.c.slabs hrl
        clear hi hnil hrl HXE OX
        have HS := Lib.hid (sl_two wr 0 1)
        have bs := below_box wr (.cells #[.int .i64 0, .int .i64 1] 3)
        go_wp2_with fail
        refine (dzones (wr.alloc (.cells #[.int .i64 0, .int .i64 1] 3))).mono ?_
        rintro e w2 ⟨gz, pc, rfl, hSV, b2⟩
        have HS2 := Lib.hid (HS.out.below b2)
        have K2 := (K9.below bs).below b2
        clear K9 bs b2 HS
        go_wp2_with fail
        refine ((newA _ [0, 1] 2 3 gz 2 2 pc [dp0, dp1] w2 HS2.out (by decide) (by decide) (by decide) (by decide) (by decide) (by decide) hSV rfl ps_D).mono fun e w' h => NewQ.d h).mono ?_
        rintro e w3 ⟨_, b, rfl, ⟨s3, zc3, ccs3, rfl, hB3⟩, hV3, hsh3, b3, hfr3, hls3⟩
        have HFB := Lib.hid (show Fresh b from ⟨hV3, hsh3, fun c z _ _ => hls3 c z, hfr3⟩)
        have K3 := K2.below b3
        have hz := Blk.new w3 28 #[.slice none 0 0, .int .i64 0, .int .i64 0, .slice none 0 0, .slice none 0 0] nilA rfl
        clear hSV K2 hV3 hsh3 b3 hfr3 hls3 HS2
        go_upto_region 19 with ((with_reducible refine stA (s := s3) (bt := b.bt) (hi := b.hi) ?_ ?_ hz rfl ?_); (focus rfl); (focus rfl); intro w4 hB4 hg4)
        have b4 : Below w3.heap.size w3 w4 := (below_box w3 (.cells #[.slice none 0 0, .int .i64 0, .int .i64 0, .slice none 0 0, .slice none 0 0] 28)).grown hg4 (below_box w3 _).size (fun k hk => by cases hk; exact Nat.le_refl _)
        have K4 := K3.below b4
        have B4 := hB3.below b4
        obtain ⟨g13, hg13⟩ : ∃ g, w3.heap.size = g := ⟨_, rfl⟩
        rw [hg13] at hB4 ⊢
        have c4 : w4.cell? ⟨gC, 1, none⟩ = some (.slice aV 0 cV) := by rw [K4.xC.cell]; rfl
        clear hz hg4 b4 K3 hB3 hg13
        refine wp_region_plan (S19 gA g13 gC (s.cells a.bt a.hi) (s3.cells b.bt b.hi) (.slice aV 0 cV)) (.quiet [0, 1, 2, 3, 4, 5, 7] (.only 6 (.only 8 (.quiet [9, 10] (.only 11 (.quiet [12, 13] .done)))))) 99 (by kernel_rfl) (by kernel_rfl) ⟨K4.xA.later (Below.refl _ _).drew, hB4.later (Below.refl _ _).drew, cell_later (Below.refl _ _).drew c4⟩ ?_
        intro W1 hWW hWe
        have bW : Below w4.heap.size w4 W1 := by rw [hWe]; exact (Below.refl _ _).drew
        clear hWe
        have X1 := K4.below bW
        have Y1 := hB4.later bW
        have Z1 := B4.below bW
        clear K4 hB4 B4 bW c4
        simp only [wpPlan, inOrder, List.filterMap_cons, List.filterMap_nil, List.getElem?_cons_zero, List.getElem?_cons_succ]
        have q1 := fun z => (hold_ok (S0 := S19 gA g13 gC (s.cells a.bt a.hi) (s3.cells b.bt b.hi) (.slice aV 0 cV)) hWW z).1
        have q2 := fun z => (hold_ok (S0 := S19 gA g13 gC (s.cells a.bt a.hi) (s3.cells b.bt b.hi) (.slice aV 0 cV)) hWW z).2.1
        have q3 := fun z => (hold_ok (S0 := S19 gA g13 gC (s.cells a.bt a.hi) (s3.cells b.bt b.hi) (.slice aV 0 cV)) hWW z).2.2
        show wpQuiet _ _ _ _ (_ :: _ :: _ :: _ :: _ :: _ :: [_]) _
        repeat (go_big_quiet_step (fail))
        refine ldQAW rfl infoA rfl rfl (fun U ⟨z, hz⟩ => by rw [hz]; exact q1 z) ?_
        simp only [Act.put, List.setIfInBounds_toArray, List.set_cons_succ, List.set_cons_zero]
        refine ldQAW rfl infoA rfl rfl (fun U ⟨z, hz⟩ => by rw [hz]; exact q2 z) ?_
        simp only [Act.put, List.setIfInBounds_toArray, List.set_cons_succ, List.set_cons_zero]
        refine wpQuiet_nil ?_
        clear q1 q2 q3 hWW
        have HDR := Lib.hid (drainA _ a W1 ⟨s, zc, ccs, rfl, X1.v⟩ HD.out.v)
        show wpList _ _ _ [_] _ _
        go_wp2_with fail
        refine HDR.out.mono ?_
        rintro e W2 ⟨_, d, rfl, ⟨s5, zc5, ccs5, rfl, D2⟩, hdr, bC⟩
        have HFD := Lib.hid (HD.out.fresh hdr)
        have X2 := X1.below bC
        have Y2 := Y1.later bC
        have Z2 := Z1.below bC
        have c2 : W2.cell? ⟨gC, 1, none⟩ = some (.slice aV 0 cV) := by rw [X2.xC.cell]; rfl
        clear X1 Y1 Z1 hdr bC HDR
        go_wp2
        refine ⟨hold_of (S0 := S19 gA g13 gC (s.cells a.bt a.hi) (s3.cells b.bt b.hi) (.slice aV 0 cV)) ⟨X2.xA, Y2, c2⟩, ?_⟩
        have HSM := Lib.hid (sameAl _ _ d b W2 ⟨s5, zc5, ccs5, rfl, D2⟩ ⟨s3, zc3, ccs3, rfl, Z2⟩ (by rw [HFD.out.s.nodes, HFB.out.s.nodes]) (by rw [HFD.out.s.bt, HFB.out.s.bt]) (by rw [HFD.out.s.hi, HFB.out.s.hi]) (by rw [HFD.out.s.nz, HFB.out.s.nz]) (fun i y y' h1 h2 => HFD.out.zeq HFB.out h1 h2) (by rw [HFD.out.cs, HFB.out.cs]) (by rw [HFD.out.s.nz]; omega) (by rw [HFD.out.s.nc]; omega) (fun L hL => by rw [HFD.out.cs] at hL; simp at hL; subst hL; simp))
        clear D2 Z2
        show wpList _ _ _ [_] _ _
        go_wp2_with fail
        refine HSM.out.mono ?_
        rintro e W3 ⟨rfl, bD⟩
        have X3 := X2.below bD
        have Y3 := Y2.later bD
        have c3 : W3.cell? ⟨gC, 1, none⟩ = some (.slice aV 0 cV) := by rw [X3.xC.cell]; rfl
        clear X2 Y2 bD c2 HSM
        go_wp2
        refine ⟨hold_of (S0 := S19 gA g13 gC (s.cells a.bt a.hi) (s3.cells b.bt b.hi) (.slice aV 0 cV)) ⟨X3.xA, Y3, c3⟩, ?_⟩
        show wpQuiet _ _ _ _ (_ :: [_]) _
        repeat (go_big_quiet_step (fail))
        refine wpQuiet_nil ?_
        show wpList _ _ _ [_] _ _
        go_wp2_with fail
        refine (dslabbed W3).mono ?_
        rintro e W4 ⟨rfl, bE⟩
        have X4 := X3.below bE
        have Y4 := Y3.later bE
        have c5 : W4.cell? ⟨gC, 1, none⟩ = some (.slice aV 0 cV) := by rw [X4.xC.cell]; rfl
        clear X3 Y3 bE c3
        go_wp2
        refine ⟨hold_of (S0 := S19 gA g13 gC (s.cells a.bt a.hi) (s3.cells b.bt b.hi) (.slice aV 0 cV)) ⟨X4.xA, Y4, c5⟩, ?_⟩
        show wpQuiet _ _ _ _ (_ :: [_]) _
        repeat (go_big_quiet_step (fail))
        refine wpQuiet_nil ?_
        refine NoPanic.normal ?_
        clear Y4 c5
        go_wp2
        go_ret
        exact ⟨rfl, X4.b⟩
      | succ gg =>
        have hin : i < m := by omega
        have HI := Lib.hid hi
        obtain ⟨q, hq⟩ := get_some HM.out hin
        have HIN0 := Lib.hid (show ∃ vb vo, av = some ⟨vb, vo, none⟩ ∧ ∀ W : World, W.ownsRow w.heap.size 3 1 (.slice av m cv) X.length (X.map (Value.int .i64)) → W.cell? ⟨vb, vo + i, none⟩ = some (.int .i64 q) from by
          obtain ⟨av', cv', e1, _, _, _, hI⟩ := Sb.OwnI.ints (show Sb.OwnI wr w.heap.size (.slice av m cv) X from OX) HM.out
          cases e1
          obtain ⟨vb, vo, rfl, _⟩ := hI (by rw [HM.out]; omega)
          refine ⟨vb, vo, rfl, fun W h => ?_⟩
          obtain ⟨av', cv', e1, _, _, _, hI⟩ := Sb.OwnI.ints (show Sb.OwnI W w.heap.size _ X from h) HM.out
          cases e1
          obtain ⟨vb', vo', e2, hc⟩ := hI (by rw [HM.out]; omega)
          cases e2
          rw [hc i (by rw [HM.out]; exact hin), getD_of hq])
        obtain ⟨vb, vo, hav, hin9⟩ := HIN0.out
        subst hav
        have d1 := hin9 wr OX
        have HIN := Lib.hid hin9
        clear hin9 HIN0
        have hqm : q ∈ Go.Slb.objs O true (rs.map Sb.sl) := (HXE.out q).2 (by rw [drop_get hq]; simp)
        have hq0 : 0 ≤ q ∧ q ≤ 16384 := by
          obtain ⟨_, s0, h1, h2, h3, _⟩ := HD.out.k.slab hqm
          have hf := HD.out.k.fr s0 (List.mem_of_getElem? h1)
          have h4 := Int.lt_ediv_add_one_mul_self q (show 0 < O by omega)
          have h5 : (q / O + 1) * O ≤ 256 * 6 := Int.mul_le_mul (by omega) hOb (by omega) (by omega)
          exact ⟨h3, by omega⟩
        obtain ⟨nl, hnl⟩ : ∃ n, rs.length = n := ⟨_, rfl⟩
        obtain ⟨aV, cV, rfl, _, _, _, _⟩ := K9.c.slabs hnl
        obtain ⟨l, hl⟩ : ∃ l, rs.map Sb.sl = l := ⟨_, rfl⟩
        have hln : l.length = nl := by rw [← hl, List.length_map]; exact hnl
        rw [hl] at HD HXE hqm
        have hlm : nl ≤ 256 := by rw [← hln]; exact Sb.ok_count HD.out.k
        obtain ⟨ff, hff⟩ : ∃ f, Go.Slb.freeF O l q = f := ⟨_, rfl⟩
        have HFR := Lib.hid (show ∀ W, Sb.OwnC W w.heap.size (.slice aV nl cV) rs → Calls Tryz.prog 10 #[.agg (scC O (.slice aV nl cV)).toArray, .int .i64 q] W (fun e w' => ∃ V' rs', e = .returned (.tuple #[.agg (scC O V').toArray, .int .i64 ff, .int .i64 0]) ∧ Sb.OwnC w' W.heap.size V' rs' ∧ rs'.map Sb.sl = Go.Slb.freeL O l q ∧ Below W.heap.size W w') from fun W h => by
          have hs : Sb.Slabs W aV l := by
            obtain ⟨aV', cV', e, _, _, _, hs⟩ := h.slabs hnl
            cases e
            rw [hl] at hs
            exact hs
          refine (Sb.free_22 O aV l nl cV q W hs hln (by omega) (by omega) (by omega)).mono fun e w' hh => ?_
          rw [Sb.freeP_ok (Go.Slb.check_ok.2 HD.out.k) hqm, hff] at hh
          obtain ⟨V', rs', rfl, h1, h2, h3⟩ := hh
          exact ⟨V', rs', by simp [scC], h1, h2, h3⟩)
        have HNX := Lib.hid (show ∀ y, y ∈ Go.Slb.objs O true (Go.Slb.freeL O l q) ↔ y ∈ X.drop (i + 1) from fun y => by rw [HD.out.k.free_mem hqm y, HXE.out y, drop_next HND.out hq y])
        have HQ := Lib.hid hqm; have HFF := Lib.hid hff
        clear hi hq hqm hff hq0 hnl hl hln HXE
        go_upto_region 10 with fail
        go_cut [10, 11, 12] from 39 to 48 (fun v10 v11 v12 W => ∃ (g10 : Nat) (V' : Value) (rs' : List Sb.R), v10 = .pointer (some ⟨g10, 0, none⟩) ∧ v11 = .int .i64 ff ∧ v12 = .int .i64 0 ∧ KF w gA gC s zc ccs a O (.slice aV nl cV) rs W ∧ Blk W g10 31 (scC O V') ∧ Sb.OwnC W w.heap.size V' rs' ∧ rs'.map Sb.sl = Go.Slb.freeL O l q ∧ g10 ≠ gC ∧ W.ownsRow w.heap.size 3 1 (.slice (some ⟨vb, vo, none⟩) m cv) X.length (X.map (Value.int .i64)))
        case first =>
          refine wp_region_plan3 (S10 gC (scC O (.slice aV nl cV)) vb (vo + i) q) (.quiet [0, 1, 2, 3, 4] (.fork 5 (.quiet [6, 7, 8, 9] (.only 10 (.only 11 (.quiet [12, 13] .done)))) 10 (.only 5 (.quiet [6, 7, 8, 9] (.only 11 (.quiet [12, 13] .done)))))) 99 (by kernel_rfl) (by kernel_rfl) ⟨K9.xC.later (Below.refl _ _).drew, cell_later (Below.refl _ _).drew d1⟩ ?_
          intro W1 hWW hWe
          have bW : Below wr.heap.size wr W1 := by rw [hWe]; exact (Below.refl _ _).drew
          clear hWe
          have X1 := K9.below bW
          replace d1 := cell_later bW d1
          replace OX := own_later OX bW
          clear K9 bW
          simp only [wpPlanT, inOrder, List.filterMap_cons, List.filterMap_nil, List.getElem?_cons_zero, List.getElem?_cons_succ]
          have q1 := fun z => (hold_ok (S0 := S10 gC (scC O (.slice aV nl cV)) vb (vo + i) q) hWW z).1
          have q2 := fun z => (hold_ok (S0 := S10 gC (scC O (.slice aV nl cV)) vb (vo + i) q) hWW z).2
          show wpQuiet _ _ _ _ (_ :: _ :: _ :: _ :: [_]) _
          refine ldQC infoSC rfl rfl (fun U ⟨z, hz⟩ => by rw [hz]; exact q1 z) ?_
          simp only [Act.put, List.setIfInBounds_toArray, List.set_cons_succ, List.set_cons_zero]
          repeat (go_big_quiet_step (fail))
          refine wpQuiet_nil ?_
          clear q1 q2 hWW
          refine ⟨?_, ?_⟩
          · skip
            show wpList _ _ _ [_] _ _
            go_wp2_with fail
            refine (HFR.out W1 X1.c).mono ?_
            rintro e W2 ⟨V', rs', rfl, CV', hsl', bC⟩
            have X2 := X1.below bC
            have HS := Lib.hid hsl'
            have HV1 := CV'.one
            replace CV' := CV'.weaken X1.b.size
            replace OX := own_later OX bC
            replace d1 := cell_later bC d1
            clear hsl'
            go_wp2
            refine ⟨hold_of (S0 := S10 gC (scC O (.slice aV nl cV)) vb (vo + i) q) ⟨X2.xC, d1⟩, ?_⟩
            show wpQuiet _ _ _ _ (_ :: _ :: _ :: [_]) _
            repeat (go_big_quiet_step (fail))
            refine wpQuiet_nil ?_
            show wpList _ _ _ [_] _ _
            have A10 := Blk.new W2 31 #[.int .i64 0, .slice none 0 0] (scC 0 (.slice none 0 0)) rfl
            have bB := below_box W2 (.cells #[.int .i64 0, .slice none 0 0] 31)
            have X3 := X2.below bB
            replace OX := own_later OX bB
            replace d1 := cell_later bB d1
            go_wp2
            refine ⟨hold_of (S0 := S10 gC (scC O (.slice aV nl cV)) vb (vo + i) q) ⟨X3.xC, d1⟩, ?_⟩
            obtain ⟨W3, hwA⟩ : ∃ U, U = W2.alloc (.cells #[.int .i64 0, .slice none 0 0] 31) := ⟨_, rfl⟩
            obtain ⟨g10, hgp⟩ : ∃ g, W2.heap.size = g := ⟨_, rfl⟩
            rw [← hwA] at A10 bB X3 d1 OX ⊢
            rw [hgp] at A10 ⊢
            have l10 : w.heap.size ≤ g10 := by rw [← hgp]; exact X2.b.size
            have n10 : g10 ≠ gC := by have := X2.xC.lt; omega
            clear hwA hgp
            replace CV' := CV'.later bB
            show wpList _ _ _ [_] _ _
            go_wp2_with ((with_reducible refine stSC (o := O) (V := V') ?_ ?_ A10 rfl HV1 ?_); (focus rfl); (focus rfl); intro w6 hB6 hg6)
            have X6 := X3.cset A10 n10 l10 hg6
            replace CV' := CV'.past A10 (by decide) (by decide) hg6
            replace OX := OX.kept hg6 (.inr (A10.not_own OX (by decide)))
            clear A10 hg6 X3 d1
            have d6 := (HIN.out w6 OX)
            refine ⟨hold_of (S0 := S10 gC (scC O (.slice aV nl cV)) vb (vo + i) q) ⟨X6.xC, d6⟩, ?_⟩
            show wpQuiet _ _ _ _ (_ :: [_]) _
            simp only [Act.put]
            repeat (go_big_quiet_step (fail))
            refine wpQuiet_nil ?_
            refine NoPanic.normal ?_
            clear d6
            go_wp2
            go_meet
            case rel => exact ⟨g10, V', rs', rfl, rfl, rfl, X6, hB6, CV', HS.out, n10, OX⟩
          · skip
            show wpList _ _ _ [_] _ _
            have A10 := Blk.new W1 31 #[.int .i64 0, .slice none 0 0] (scC 0 (.slice none 0 0)) rfl
            have bB := below_box W1 (.cells #[.int .i64 0, .slice none 0 0] 31)
            have X2 := X1.below bB
            replace OX := own_later OX bB
            replace d1 := cell_later bB d1
            go_wp2
            refine ⟨hold_of (S0 := S10 gC (scC O (.slice aV nl cV)) vb (vo + i) q) ⟨X2.xC, d1⟩, ?_⟩
            obtain ⟨W2, hwA⟩ : ∃ U, U = W1.alloc (.cells #[.int .i64 0, .slice none 0 0] 31) := ⟨_, rfl⟩
            obtain ⟨g10, hgp⟩ : ∃ g, W1.heap.size = g := ⟨_, rfl⟩
            rw [← hwA] at A10 bB X2 d1 OX ⊢
            rw [hgp] at A10 ⊢
            have l10 : w.heap.size ≤ g10 := by rw [← hgp]; exact X1.b.size
            have n10 : g10 ≠ gC := by have := X1.xC.lt; omega
            clear hwA hgp
            show wpList _ _ _ [_] _ _
            go_wp2_with fail
            refine (HFR.out W2 X2.c).mono ?_
            rintro e W3 ⟨V', rs', rfl, CV', hsl', bC⟩
            have X3 := X2.below bC
            have HS := Lib.hid hsl'
            have HV1 := CV'.one
            replace CV' := CV'.weaken X2.b.size
            replace OX := own_later OX bC
            replace d1 := cell_later bC d1
            clear hsl'
            go_wp2
            refine ⟨hold_of (S0 := S10 gC (scC O (.slice aV nl cV)) vb (vo + i) q) ⟨X3.xC, d1⟩, ?_⟩
            show wpQuiet _ _ _ _ (_ :: _ :: _ :: [_]) _
            repeat (go_big_quiet_step (fail))
            refine wpQuiet_nil ?_
            replace A10 := A10.later bC
            show wpList _ _ _ [_] _ _
            go_wp2_with ((with_reducible refine stSC (o := O) (V := V') ?_ ?_ A10 rfl HV1 ?_); (focus rfl); (focus rfl); intro w6 hB6 hg6)
            have X6 := X3.cset A10 n10 l10 hg6
            replace CV' := CV'.past A10 (by decide) (by decide) hg6
            replace OX := OX.kept hg6 (.inr (A10.not_own OX (by decide)))
            clear A10 hg6 X3 d1
            have d6 := (HIN.out w6 OX)
            refine ⟨hold_of (S0 := S10 gC (scC O (.slice aV nl cV)) vb (vo + i) q) ⟨X6.xC, d6⟩, ?_⟩
            show wpQuiet _ _ _ _ (_ :: [_]) _
            simp only [Act.put]
            repeat (go_big_quiet_step (fail))
            refine wpQuiet_nil ?_
            refine NoPanic.normal ?_
            clear d6
            go_wp2
            go_meet
            case rel => exact ⟨g10, V', rs', rfl, rfl, rfl, X6, hB6, CV', HS.out, n10, OX⟩
        case rest =>
          clear K9 HFR d1 OX
          obtain ⟨g10, V', rs', rfl, rfl, rfl, KX, X10, CV', hs', n10, OX⟩ := hcut
          have HV1 := CV'.one
          have HSF := Lib.hid hs'
          clear hs'
          go_upto_region 14 with first | ((with_reducible refine ldSC ?_ X10 ?_); (focus rfl)) | ((with_reducible refine stSC (o := O) (V := V') ?_ ?_ KX.xC rfl HV1 ?_); (focus rfl); (focus rfl); intro w6 hB6 hg6)
          have K6 := KX.cput hB6 CV' hg6
          replace OX := OX.kept hg6 (.inr (KX.xC.not_own OX (by decide)))
          clear KX X10 CV' hB6 hg6 n10
          by_cases hk1 : ff = -1
          · have HDK := Lib.hid (HD.out.keep HQ.out (by rw [HFF.out]; exact hk1))
            have tk : decide ((0 : Int) ≤ ff) = false := by simp; omega
            clear hk1
            go_wp2
            go_roundg gg
            case rel => exact ⟨i + 1, s, zc, ccs, a, V', rs', by have := HI.out; omega, by go_num, K6, by rw [HSF.out]; exact HDK.out, by rw [HSF.out]; exact HNX.out, OX⟩
            case measure => omega
          · obtain ⟨⟨f1, f2, f3⟩, f4⟩ := HD.out.leave HQ.out (by rw [HFF.out]; exact hk1)
            rw [HFF.out] at f1 f2 f3 f4
            have HDL := Lib.hid f4
            have tk : decide ((0 : Int) ≤ ff) = true := by simp; omega
            have HFA := Lib.hid (freeA (.agg (s.cells a.bt a.hi).toArray) a 0 0 ff w6 ⟨s, zc, ccs, rfl, K6.v⟩ HD.out.v (by rw [HD.out.s.nc]; omega) (by rw [HD.out.s.nz]; omega) (HD.out.s.in0.2 ⟨f1, f2⟩) f3)
            clear hk1 f3 f4
            go_wp2_with ((with_reducible refine lda ?_ K6.xA ?_); (focus rfl))
            refine HFA.out.mono ?_
            rintro e w7 ⟨_, a7, rfl, ⟨s7, zc7, ccs7, rfl, A7⟩, hmore, b7⟩
            have HD7 := Lib.hid (HDL.out a7 hmore)
            have K7 := K6.below b7
            replace OX := own_later OX b7
            clear K6 b7 hmore HFA HDL
            go_upto_region 16 with ((with_reducible refine stA (s := s7) (bt := a7.bt) (hi := a7.hi) ?_ ?_ K7.xA rfl ?_); (focus rfl); (focus rfl); intro w8 hB8 hg8)
            have K8 := K7.aput hB8 A7 hg8
            replace OX := OX.kept hg8 (.inr (K7.xA.not_own OX (by decide)))
            clear K7 hB8 hg8 A7
            go_wp2
            go_roundg gg
            case rel => exact ⟨i + 1, s7, zc7, ccs7, a7, V', rs', by have := HI.out; omega, by go_num, K8, by rw [HSF.out]; exact HD7.out, by rw [HSF.out]; exact HNX.out, OX⟩
            case measure => omega
  · have t40 : decide ((40 : Int) < (n : Int)) = true := by simp; omega
    go_wp2_with fail
    refine (dslabbed w).mono ?_
    rintro e w2 ⟨rfl, b2⟩
    go_wp2
    go_ret
    exact ⟨rfl, b2⟩
end Go.Proofs.YtdddkfpcbfgocaaGreat
