/- Walks: a script of frames. -/
import Derived.Test.YtdddkfpcbfgocaaG6
namespace Go.Proofs.Ytdddkfpcbfgocaa
open Go.RowKit Go.Over Go.Zn Go.Can Go.Seg Go.Grow
/-- What a script gives. -/
def ScrQ (w : World) (e : Ending) (w' : World) : Prop :=
  ∃ (s : Sh) (zc ccs : List Value) (a : A) (hs : List Bool), e = .returned (.tuple #[.agg (s.cells a.bt a.hi).toArray, .agg (hvs hs).toArray, .bool true]) ∧ AW w' s zc ccs a ∧ HI a hs ∧ Below w.heap.size w w'
theorem start4 (w : World) (mc : List Value) :
    Below w.heap.size w ((((w.alloc (.cells mc.toArray 25)).alloc (.cells #[.slice none 0 0, .int .i64 0, .int .i64 0, .slice none 0 0, .slice none 0 0] 32)).alloc (.cells #[.bool false, .bool false, .bool false, .bool false, .bool false, .bool false, .bool false, .bool false, .bool false, .bool false, .bool false, .bool false, .bool false, .bool false, .bool false, .bool false, .bool false, .bool false, .bool false, .bool false, .bool false, .bool false, .bool false, .bool false, .bool false, .bool false, .bool false, .bool false, .bool false, .bool false, .bool false, .bool false, .bool false, .bool false, .bool false, .bool false, .bool false, .bool false, .bool false, .bool false, .bool false, .bool false, .bool false, .bool false, .bool false, .bool false, .bool false, .bool false, .bool false, .bool false, .bool false, .bool false, .bool false, .bool false, .bool false, .bool false, .bool false, .bool false, .bool false, .bool false, .bool false, .bool false, .bool false, .bool false] 33)).alloc (.cells #[.bool false, .bool false, .bool false, .bool false, .bool false, .bool false, .bool false, .bool false, .bool false, .bool false, .bool false, .bool false, .bool false, .bool false, .bool false, .bool false, .bool false, .bool false, .bool false, .bool false, .bool false, .bool false, .bool false, .bool false, .bool false, .bool false, .bool false, .bool false, .bool false, .bool false, .bool false, .bool false, .bool false, .bool false, .bool false, .bool false, .bool false, .bool false, .bool false, .bool false, .bool false, .bool false, .bool false, .bool false, .bool false, .bool false, .bool false, .bool false, .bool false, .bool false, .bool false, .bool false, .bool false, .bool false, .bool false, .bool false, .bool false, .bool false, .bool false, .bool false, .bool false, .bool false, .bool false, .bool false] 33)) ∧
    Blk ((((w.alloc (.cells mc.toArray 25)).alloc (.cells #[.slice none 0 0, .int .i64 0, .int .i64 0, .slice none 0 0, .slice none 0 0] 32)).alloc (.cells #[.bool false, .bool false, .bool false, .bool false, .bool false, .bool false, .bool false, .bool false, .bool false, .bool false, .bool false, .bool false, .bool false, .bool false, .bool false, .bool false, .bool false, .bool false, .bool false, .bool false, .bool false, .bool false, .bool false, .bool false, .bool false, .bool false, .bool false, .bool false, .bool false, .bool false, .bool false, .bool false, .bool false, .bool false, .bool false, .bool false, .bool false, .bool false, .bool false, .bool false, .bool false, .bool false, .bool false, .bool false, .bool false, .bool false, .bool false, .bool false, .bool false, .bool false, .bool false, .bool false, .bool false, .bool false, .bool false, .bool false, .bool false, .bool false, .bool false, .bool false, .bool false, .bool false, .bool false, .bool false] 33)).alloc (.cells #[.bool false, .bool false, .bool false, .bool false, .bool false, .bool false, .bool false, .bool false, .bool false, .bool false, .bool false, .bool false, .bool false, .bool false, .bool false, .bool false, .bool false, .bool false, .bool false, .bool false, .bool false, .bool false, .bool false, .bool false, .bool false, .bool false, .bool false, .bool false, .bool false, .bool false, .bool false, .bool false, .bool false, .bool false, .bool false, .bool false, .bool false, .bool false, .bool false, .bool false, .bool false, .bool false, .bool false, .bool false, .bool false, .bool false, .bool false, .bool false, .bool false, .bool false, .bool false, .bool false, .bool false, .bool false, .bool false, .bool false, .bool false, .bool false, .bool false, .bool false, .bool false, .bool false, .bool false, .bool false] 33)) w.heap.size 25 mc ∧
    Blk ((((w.alloc (.cells mc.toArray 25)).alloc (.cells #[.slice none 0 0, .int .i64 0, .int .i64 0, .slice none 0 0, .slice none 0 0] 32)).alloc (.cells #[.bool false, .bool false, .bool false, .bool false, .bool false, .bool false, .bool false, .bool false, .bool false, .bool false, .bool false, .bool false, .bool false, .bool false, .bool false, .bool false, .bool false, .bool false, .bool false, .bool false, .bool false, .bool false, .bool false, .bool false, .bool false, .bool false, .bool false, .bool false, .bool false, .bool false, .bool false, .bool false, .bool false, .bool false, .bool false, .bool false, .bool false, .bool false, .bool false, .bool false, .bool false, .bool false, .bool false, .bool false, .bool false, .bool false, .bool false, .bool false, .bool false, .bool false, .bool false, .bool false, .bool false, .bool false, .bool false, .bool false, .bool false, .bool false, .bool false, .bool false, .bool false, .bool false, .bool false, .bool false] 33)).alloc (.cells #[.bool false, .bool false, .bool false, .bool false, .bool false, .bool false, .bool false, .bool false, .bool false, .bool false, .bool false, .bool false, .bool false, .bool false, .bool false, .bool false, .bool false, .bool false, .bool false, .bool false, .bool false, .bool false, .bool false, .bool false, .bool false, .bool false, .bool false, .bool false, .bool false, .bool false, .bool false, .bool false, .bool false, .bool false, .bool false, .bool false, .bool false, .bool false, .bool false, .bool false, .bool false, .bool false, .bool false, .bool false, .bool false, .bool false, .bool false, .bool false, .bool false, .bool false, .bool false, .bool false, .bool false, .bool false, .bool false, .bool false, .bool false, .bool false, .bool false, .bool false, .bool false, .bool false, .bool false, .bool false] 33)) (w.heap.size + 1) 32 nilA ∧
    Blk ((((w.alloc (.cells mc.toArray 25)).alloc (.cells #[.slice none 0 0, .int .i64 0, .int .i64 0, .slice none 0 0, .slice none 0 0] 32)).alloc (.cells #[.bool false, .bool false, .bool false, .bool false, .bool false, .bool false, .bool false, .bool false, .bool false, .bool false, .bool false, .bool false, .bool false, .bool false, .bool false, .bool false, .bool false, .bool false, .bool false, .bool false, .bool false, .bool false, .bool false, .bool false, .bool false, .bool false, .bool false, .bool false, .bool false, .bool false, .bool false, .bool false, .bool false, .bool false, .bool false, .bool false, .bool false, .bool false, .bool false, .bool false, .bool false, .bool false, .bool false, .bool false, .bool false, .bool false, .bool false, .bool false, .bool false, .bool false, .bool false, .bool false, .bool false, .bool false, .bool false, .bool false, .bool false, .bool false, .bool false, .bool false, .bool false, .bool false, .bool false, .bool false] 33)).alloc (.cells #[.bool false, .bool false, .bool false, .bool false, .bool false, .bool false, .bool false, .bool false, .bool false, .bool false, .bool false, .bool false, .bool false, .bool false, .bool false, .bool false, .bool false, .bool false, .bool false, .bool false, .bool false, .bool false, .bool false, .bool false, .bool false, .bool false, .bool false, .bool false, .bool false, .bool false, .bool false, .bool false, .bool false, .bool false, .bool false, .bool false, .bool false, .bool false, .bool false, .bool false, .bool false, .bool false, .bool false, .bool false, .bool false, .bool false, .bool false, .bool false, .bool false, .bool false, .bool false, .bool false, .bool false, .bool false, .bool false, .bool false, .bool false, .bool false, .bool false, .bool false, .bool false, .bool false, .bool false, .bool false] 33)) (w.heap.size + 1 + 1) 33 (hvs (List.replicate 64 false)) ∧
    Blk ((((w.alloc (.cells mc.toArray 25)).alloc (.cells #[.slice none 0 0, .int .i64 0, .int .i64 0, .slice none 0 0, .slice none 0 0] 32)).alloc (.cells #[.bool false, .bool false, .bool false, .bool false, .bool false, .bool false, .bool false, .bool false, .bool false, .bool false, .bool false, .bool false, .bool false, .bool false, .bool false, .bool false, .bool false, .bool false, .bool false, .bool false, .bool false, .bool false, .bool false, .bool false, .bool false, .bool false, .bool false, .bool false, .bool false, .bool false, .bool false, .bool false, .bool false, .bool false, .bool false, .bool false, .bool false, .bool false, .bool false, .bool false, .bool false, .bool false, .bool false, .bool false, .bool false, .bool false, .bool false, .bool false, .bool false, .bool false, .bool false, .bool false, .bool false, .bool false, .bool false, .bool false, .bool false, .bool false, .bool false, .bool false, .bool false, .bool false, .bool false, .bool false] 33)).alloc (.cells #[.bool false, .bool false, .bool false, .bool false, .bool false, .bool false, .bool false, .bool false, .bool false, .bool false, .bool false, .bool false, .bool false, .bool false, .bool false, .bool false, .bool false, .bool false, .bool false, .bool false, .bool false, .bool false, .bool false, .bool false, .bool false, .bool false, .bool false, .bool false, .bool false, .bool false, .bool false, .bool false, .bool false, .bool false, .bool false, .bool false, .bool false, .bool false, .bool false, .bool false, .bool false, .bool false, .bool false, .bool false, .bool false, .bool false, .bool false, .bool false, .bool false, .bool false, .bool false, .bool false, .bool false, .bool false, .bool false, .bool false, .bool false, .bool false, .bool false, .bool false, .bool false, .bool false, .bool false, .bool false] 33)) (w.heap.size + 1 + 1 + 1) 33 (hvs (List.replicate 64 false)) := by
  obtain ⟨h64, hh⟩ : ∃ a : Array Value, a = #[.bool false, .bool false, .bool false, .bool false, .bool false, .bool false, .bool false, .bool false, .bool false, .bool false, .bool false, .bool false, .bool false, .bool false, .bool false, .bool false, .bool false, .bool false, .bool false, .bool false, .bool false, .bool false, .bool false, .bool false, .bool false, .bool false, .bool false, .bool false, .bool false, .bool false, .bool false, .bool false, .bool false, .bool false, .bool false, .bool false, .bool false, .bool false, .bool false, .bool false, .bool false, .bool false, .bool false, .bool false, .bool false, .bool false, .bool false, .bool false, .bool false, .bool false, .bool false, .bool false, .bool false, .bool false, .bool false, .bool false, .bool false, .bool false, .bool false, .bool false, .bool false, .bool false, .bool false, .bool false] := ⟨_, rfl⟩
  have hh' : h64 = (hvs (List.replicate 64 false)).toArray := by rw [hh]; rfl
  rw [← hh]
  clear hh
  have s1 : (w.alloc (.cells mc.toArray 25)).heap.size = w.heap.size + 1 := by simp
  have s2 : ((w.alloc (.cells mc.toArray 25)).alloc (.cells #[.slice none 0 0, .int .i64 0, .int .i64 0, .slice none 0 0, .slice none 0 0] 32)).heap.size = w.heap.size + 1 + 1 := by simp
  have s3 : (((w.alloc (.cells mc.toArray 25)).alloc (.cells #[.slice none 0 0, .int .i64 0, .int .i64 0, .slice none 0 0, .slice none 0 0] 32)).alloc (.cells h64 33)).heap.size = w.heap.size + 1 + 1 + 1 := by simp
  have b1 := below_box w (.cells mc.toArray 25)
  have b2 := below_box (w.alloc (.cells mc.toArray 25)) (.cells #[.slice none 0 0, .int .i64 0, .int .i64 0, .slice none 0 0, .slice none 0 0] 32)
  have b3 := below_box ((w.alloc (.cells mc.toArray 25)).alloc (.cells #[.slice none 0 0, .int .i64 0, .int .i64 0, .slice none 0 0, .slice none 0 0] 32)) (.cells h64 33)
  have b4 := below_box (((w.alloc (.cells mc.toArray 25)).alloc (.cells #[.slice none 0 0, .int .i64 0, .int .i64 0, .slice none 0 0, .slice none 0 0] 32)).alloc (.cells h64 33)) (.cells h64 33)
  have x1 := Blk.new w 25 mc.toArray mc rfl
  have x2 := Blk.new (w.alloc (.cells mc.toArray 25)) 32 #[.slice none 0 0, .int .i64 0, .int .i64 0, .slice none 0 0, .slice none 0 0] nilA rfl
  have x3 := Blk.new ((w.alloc (.cells mc.toArray 25)).alloc (.cells #[.slice none 0 0, .int .i64 0, .int .i64 0, .slice none 0 0, .slice none 0 0] 32)) 33 h64 _ hh'
  have x4 := Blk.new (((w.alloc (.cells mc.toArray 25)).alloc (.cells #[.slice none 0 0, .int .i64 0, .int .i64 0, .slice none 0 0, .slice none 0 0] 32)).alloc (.cells h64 33)) 33 h64 _ hh'
  rw [s1] at x2
  rw [s2] at x3
  rw [s3] at x4
  exact ⟨below_then (below_then (below_then b1 b2) b3) b4, x1.later (below_then (below_then b2 b3) b4), x2.later (below_then b3 b4), x3.later b4, x4⟩
theorem infoM : (Try.prog.info? 25).map (·.size) = some 11 := by kernel_rfl
section
variable {ops : Array Oper} {rest : List Oper} {d i : Nat} {ty : TypeId} {pos : String} {af : Array Edge} {a : Act} {w : World} {Q : Exit → Act → World → Prop} {g : Nat} {cs : List Value}
/-- A machine is loaded whole. -/
theorem ldM (hx : a.eval (.tmp i) = .pointer (some ⟨g, 0, none⟩)) (hB : Blk w g 25 cs) (hl : cs.length = 11) (h : wpList Try.prog ops Q rest (a.put (some d) (.agg cs.toArray)) w) :
    wpList Try.prog ops Q ({ dst := some d, op := .load 25 (.tmp i), type := ty, pos := pos, after := af, guard := none } :: rest) a w :=
  wpList_load_row rfl 25 (.tmp i) rfl g hx 25 cs.toArray (0, 0) _ hB Try.underlying25 rfl (by rw [infoM]; simp [hl]) h
end
set_option maxRecDepth 100000 in set_option maxHeartbeats 3200000 in
theorem script (mc : List Value) (th : Bool) (oa : Option Addr) (os : List FOp) (n c : Nat) (w : World) (H : MV mc th) (hO : Ops w oa os) (hn : os.length = n) (hmc : mc.length = 11) (h40 : n ≤ 40) : Calls Try.prog 6 #[.agg mc.toArray, .slice oa n c] w (ScrQ w) := by
  have HM := Lib.hid H; have HN := Lib.hid hn
  clear H hn
  go_enter Try.func6, Try.ntmps6
  go_upto_region 2 with fail
  obtain ⟨w1, hw1⟩ : ∃ W, W = (((w.alloc (.cells mc.toArray 25)).alloc (.cells #[.slice none 0 0, .int .i64 0, .int .i64 0, .slice none 0 0, .slice none 0 0] 32)).alloc (.cells #[.bool false, .bool false, .bool false, .bool false, .bool false, .bool false, .bool false, .bool false, .bool false, .bool false, .bool false, .bool false, .bool false, .bool false, .bool false, .bool false, .bool false, .bool false, .bool false, .bool false, .bool false, .bool false, .bool false, .bool false, .bool false, .bool false, .bool false, .bool false, .bool false, .bool false, .bool false, .bool false, .bool false, .bool false, .bool false, .bool false, .bool false, .bool false, .bool false, .bool false, .bool false, .bool false, .bool false, .bool false, .bool false, .bool false, .bool false, .bool false, .bool false, .bool false, .bool false, .bool false, .bool false, .bool false, .bool false, .bool false, .bool false, .bool false, .bool false, .bool false, .bool false, .bool false, .bool false, .bool false] 33)).alloc (.cells #[.bool false, .bool false, .bool false, .bool false, .bool false, .bool false, .bool false, .bool false, .bool false, .bool false, .bool false, .bool false, .bool false, .bool false, .bool false, .bool false, .bool false, .bool false, .bool false, .bool false, .bool false, .bool false, .bool false, .bool false, .bool false, .bool false, .bool false, .bool false, .bool false, .bool false, .bool false, .bool false, .bool false, .bool false, .bool false, .bool false, .bool false, .bool false, .bool false, .bool false, .bool false, .bool false, .bool false, .bool false, .bool false, .bool false, .bool false, .bool false, .bool false, .bool false, .bool false, .bool false, .bool false, .bool false, .bool false, .bool false, .bool false, .bool false, .bool false, .bool false, .bool false, .bool false, .bool false, .bool false] 33) := ⟨_, rfl⟩
  obtain ⟨b1, x1, z4, z5, h7⟩ := start4 w mc
  rw [← hw1] at b1 x1 z4 z5 h7 ⊢
  have HO := Lib.hid hO
  obtain ⟨gm, hgm⟩ : ∃ g, w.heap.size = g := ⟨_, rfl⟩
  obtain ⟨g4, hg4⟩ : ∃ g, w.heap.size + 1 = g := ⟨_, rfl⟩
  obtain ⟨g5, hg5⟩ : ∃ g, w.heap.size + 1 + 1 = g := ⟨_, rfl⟩
  obtain ⟨g7, hg7⟩ : ∃ g, w.heap.size + 1 + 1 + 1 = g := ⟨_, rfl⟩
  have l4 : w.heap.size ≤ g4 := by omega
  have l5 : w.heap.size ≤ g5 := by omega
  have l7 : w.heap.size ≤ g7 := by omega
  have n57 : g5 ≠ g7 := by omega
  rw [hg4] at z4
  rw [hg5] at z5
  rw [hg7] at h7
  rw [hgm] at x1
  rw [hg7, hg5, hg4, hgm]
  clear hw1 hO hgm hg4 hg5 hg7
  go_wp2_with ((with_reducible refine ldM ?_ x1 hmc ?_); (focus rfl))
  refine (newM mc th w1 HM.out).mono ?_
  rintro e w2 ⟨v, a, rfl, ⟨s, zc, ccs, rfl, hW⟩, hV, b2, e1, e2, e3, e4⟩
  have HH := Lib.hid (HI.start hV e1 e2 e3 e4)
  have bw2 := below_then b1 b2
  replace z4 := z4.later b2
  replace z5 := z5.later b2
  replace h7 := h7.later b2
  have hz8 := Blk.new w2 32 #[.slice none 0 0, .int .i64 0, .int .i64 0, .slice none 0 0, .slice none 0 0] nilA rfl
  have b8 := below_box w2 (.cells #[.slice none 0 0, .int .i64 0, .int .i64 0, .slice none 0 0, .slice none 0 0] 32)
  clear x1 b1 b2 e1 e2 e3 e4 hV
  go_upto_region 3 with ((with_reducible refine stA (s := s) (bt := a.bt) (hi := a.hi) ?_ ?_ hz8 rfl ?_); (focus rfl); (focus rfl); intro w3 hB3 hg3)
  have b3 : Below w2.heap.size w2 w3 := b8.grown hg3 b8.size (fun k hk => by cases hk; exact Nat.le_refl _)
  have hl8 : w.heap.size ≤ w2.heap.size := bw2.size
  have n48 : g4 ≠ w2.heap.size := by have := z4.lt; omega
  have F3 : FM w g4 g5 g7 w2.heap.size s zc ccs a (List.replicate 64 false) w3 := ⟨below_then bw2 b3, l4, l5, l7, hl8, n48, n57, z4.later b3, z5.later b3, h7.later b3, hB3, hW.below b3⟩
  obtain ⟨g8, hg8⟩ : ∃ g, w2.heap.size = g := ⟨_, rfl⟩
  rw [hg8] at F3 ⊢
  clear hB3 hg3 b3 hl8 n48 z4 z5 h7 hz8 b8 hg8 bw2 hW l4 l5 l7 n57
  go_wp2
  go_loopg [33] n (fun gg v33 wr => ∃ (i : Nat) (s : Sh) (zc ccs : List Value) (a : A) (hs : List Bool), i + gg = n ∧ v33 = .int .i64 i ∧ FM w g4 g5 g7 g8 s zc ccs a hs wr ∧ HI a hs)
  case atStart => exact ⟨0, s, zc, ccs, a, _, by omega, rfl, F3, HH.out⟩
  case round =>
    clear F3 HH
    obtain ⟨i, s, zc, ccs, a, hs, hi, rfl, F4, hI4⟩ := hrel
    have HH := Lib.hid hI4
    clear hI4
    cases gk with
    | zero =>
      have hin : ¬ i < n := by omega
      clear hi
      go_upto_region 31 with fail
      refine wp_region_plan (fun U => Blk U g7 33 (hvs hs) ∧ Blk U g8 32 (s.cells a.bt a.hi)) (.quiet [0, 1] (.only 2 (.only 3 (.quiet [4] .done)))) 99 (by kernel_rfl) (by kernel_rfl) ⟨F4.h7.later (Below.refl _ _).drew, F4.x8.later (Below.refl _ _).drew⟩ ?_
      intro W hW hWe
      have F5 := F4.below (show Below wr.heap.size wr W by rw [hWe]; exact (Below.refl _ _).drew)
      clear hWe F4
      simp only [wpPlan, inOrder, List.filterMap_cons, List.filterMap_nil, List.getElem?_cons_zero, List.getElem?_cons_succ]
      show wpQuiet _ _ _ _ (_ :: [_]) _
      refine ldQA infoA rfl rfl (fun U ⟨z, hz⟩ => by rw [hz]; exact (hold_ok (S0 := fun U => Blk U g7 33 (hvs hs) ∧ Blk U g8 32 (s.cells a.bt a.hi)) hW z).2) ?_
      simp only [Act.put, List.setIfInBounds_toArray, List.set_cons_succ, List.set_cons_zero]
      refine ldQH infoH (by rw [hvs_len, HH.out.l]) rfl (fun U ⟨z, hz⟩ => by rw [hz]; exact (hold_ok (S0 := fun U => Blk U g7 33 (hvs hs) ∧ Blk U g8 32 (s.cells a.bt a.hi)) hW z).1) ?_
      simp only [Act.put, List.setIfInBounds_toArray, List.set_cons_succ, List.set_cons_zero]
      refine wpQuiet_nil ?_
      show wpList _ _ _ [_] _ _
      go_wp2_with ((with_reducible refine stA (s := s) (bt := a.bt) (hi := a.hi) ?_ ?_ F5.z4 rfl ?_); (focus rfl); (focus rfl); intro w6 hB6 hg6)
      have kp : ∀ {q t : Nat} {bs : List Value}, t ≠ 32 → Blk W q t bs → Blk w6 q t bs := fun ht hq => hq.grown hg6 (by simpa using F5.z4.ne_type hq (Ne.symm ht))
      have h76 := kp (by decide) F5.h7
      have x86 := F5.x8.grown hg6 (by simpa using F5.n48)
      have z56 := kp (by decide) F5.z5
      have v6 := F5.v.past (kp (by decide) F5.v.q.x) (kp (by decide) F5.v.c.x) (fun _ _ => kp (by decide)) (fun _ _ => kp (by decide))
      have b6 := F5.b.grown hg6 F5.b.size (fun q hq => by cases hq; exact F5.l4)
      refine ⟨hold_of (S0 := fun U => Blk U g7 33 (hvs hs) ∧ Blk U g8 32 (s.cells a.bt a.hi)) ⟨h76, x86⟩, ?_⟩
      show wpList _ _ _ [_] _ _
      go_wp2_with ((with_reducible refine stH (hs := hs) ?_ ?_ z56 rfl HH.out.l ?_); (focus rfl); (focus rfl); intro w7 hB7 hg7)
      have kq : ∀ {q t : Nat} {bs : List Value}, t ≠ 33 → Blk w6 q t bs → Blk w7 q t bs := fun ht hq => hq.grown hg7 (by simpa using z56.ne_type hq (Ne.symm ht))
      have h77 := h76.grown hg7 (by simpa using F5.n57)
      have x87 := kq (by decide) x86
      have hB8 := kq (by decide) hB6
      have v7 := v6.past (kq (by decide) v6.q.x) (kq (by decide) v6.c.x) (fun _ _ => kq (by decide)) (fun _ _ => kq (by decide))
      have b7 := b6.grown hg7 b6.size (fun q hq => by cases hq; exact F5.l5)
      refine ⟨hold_of (S0 := fun U => Blk U g7 33 (hvs hs) ∧ Blk U g8 32 (s.cells a.bt a.hi)) ⟨h77, x87⟩, ?_⟩
      show wpQuiet _ _ _ _ [_] _
      simp only [Act.put]
      repeat (go_big_quiet_step (fail))
      refine wpQuiet_nil ?_
      refine NoPanic.normal ?_
      have hl64 : (hvs hs).length = 64 := by rw [hvs_len, HH.out.l]
      clear F5 kp kq h76 x86 z56 v6 b6 hB6 hg6 hg7 h77 x87 hW
      go_wp2
      refine bodyPost_ret (resF rfl _ _ g4 g5 _ _ _ rfl rfl hB8 rfl hB7 hl64 rfl) rfl ?_
      exact ⟨s, zc, ccs, a, hs, rfl, v7, HH.out, b7⟩
    | succ gg =>
      have hin : i < n := by omega
      have HI' := Lib.hid hi
      obtain ⟨x, hx⟩ := get_some HN.out hin
      obtain ⟨ob, oo, rfl, hoc⟩ := HO.out.below F4.b (by rw [HN.out]; omega)
      obtain ⟨c0, c1, c2, r0, r1, r2⟩ := hoc i x hx
      have bo := below_box wr (.cells #[.int .u8 x.wh, .int .u8 x.cp, .int .u8 x.pk] 56)
      have hBo := Blk.new wr 56 #[.int .u8 x.wh, .int .u8 x.cp, .int .u8 x.pk] _ rfl
      have F5 := F4.below bo
      obtain ⟨cn, hcn⟩ : ∃ m : Nat, x.cp % 2 = (m : Int) := ⟨(x.cp % 2).toNat, by omega⟩
      have hc2 : cn < 2 := by omega
      obtain ⟨f, hf⟩ : ∃ m : Nat, x.pk % 64 = (m : Int) := ⟨(x.pk % 64).toNat, by omega⟩
      have hf64 : f < 64 := by omega
      clear hi hx hoc
      go_upto_region 9 with fail
      obtain ⟨wo, hwo⟩ : ∃ W, W = wr.alloc (.cells #[.int .u8 x.wh, .int .u8 x.cp, .int .u8 x.pk] 56) := ⟨_, rfl⟩
      rw [← hwo] at F5 hBo ⊢
      obtain ⟨go, hgo⟩ : ∃ g, wr.heap.size = g := ⟨_, rfl⟩
      rw [hgo] at hBo ⊢
      have d0 := hBo.cell 0
      have d2 := hBo.cell 2
      simp only [List.getElem?_cons_zero, List.getElem?_cons_succ] at d0 d2
      clear hwo hgo bo c0 c1 c2 F4 hcn r1
      obtain ⟨y, hy⟩ : ∃ y, x.wh = y := ⟨_, rfl⟩
      rw [hy] at d0 r0
      clear hy
      have hlen := HH.out.l
      have hd := F5.held (i := f) (by rw [hlen]; exact hf64)
      obtain ⟨hb, hhb⟩ : ∃ b, hs.getD f false = b := ⟨_, rfl⟩
      rw [hhb] at hd
      have HB := Lib.hid hhb
      have HNC := Lib.hid (show cn < a.cs.length by rw [HH.out.nc]; exact hc2)
      clear hhb hlen
      by_cases q3 : y % 6 = 3
      · cases hb with
        | false =>
          go_wp2
          go_roundg gg
          case rel => exact ⟨i + 1, s, zc, ccs, a, hs, by have := HI'.out; omega, by go_num, F5, HH.out⟩
          case measure => omega
        | true =>
          obtain ⟨z, hz, hzx, hnf⟩ := HH.out.held HB.out
          have HMO := Lib.hid (fun b (h : More a z f b) => HH.out.more h hz hzx)
          have HFR := Lib.hid (freeA (.agg (s.cells a.bt a.hi).toArray) a cn z f wo ⟨s, zc, ccs, rfl, F5.v⟩ HH.out.v HNC.out hz hzx hnf)
          clear hz hzx hnf
          go_wp2_with ((with_reducible refine lda ?_ F5.x8 ?_); (focus rfl))
          refine HFR.out.mono ?_
          rintro e w6 ⟨v6, b, rfl, ⟨s6, zc6, ccs6, rfl, W6⟩, hM, b6⟩
          have HH6 := Lib.hid (HMO.out b hM)
          clear hM HMO HFR
          have F6 := F5.below b6
          have hz6 := Blk.new w6 32 #[.slice none 0 0, .int .i64 0, .int .i64 0, .slice none 0 0, .slice none 0 0] nilA rfl
          have b7 := below_box w6 (.cells #[.slice none 0 0, .int .i64 0, .int .i64 0, .slice none 0 0, .slice none 0 0] 32)
          have d2 := cell_later b6 d2
          have d0 := cell_later b6 d0
          clear F5 b6 hd hBo
          go_upto_region 19 with ((with_reducible refine stA (s := s6) (bt := b.bt) (hi := b.hi) ?_ ?_ hz6 rfl ?_); (focus rfl); (focus rfl); intro w8 hB8 hg8)
          have b8 : Below w6.heap.size w6 w8 := b7.grown hg8 b7.size (fun k hk => by cases hk; exact Nat.le_refl _)
          have F8 := F6.below b8
          have W8 := W6.below b8
          obtain ⟨g14, hg14⟩ : ∃ g, w6.heap.size = g := ⟨_, rfl⟩
          rw [hg14] at hB8 ⊢
          clear F6 W6 hz6 b7 hg8 b8 hg14 d2 d0
          have d8 := F8.held (i := f) (by rw [HH.out.l]; exact hf64)
          skip
          go_upto_region 30 with first | ((with_reducible refine lda ?_ hB8 ?_); (focus rfl)) | ((with_reducible refine stA (s := s6) (bt := b.bt) (hi := b.hi) ?_ ?_ F8.x8 rfl ?_); (focus rfl); (focus rfl); intro w9 hB9 hg9; have F9 := F8.aset hB9 hg9 W8; clear d8; have d8 := F9.held (i := f) (by rw [HH.out.l]; exact hf64); have f9 := F9.h7.frozen f)
          have F10 := F9.hset (i := f) (b := false)
          obtain ⟨w10, hw10⟩ : ∃ W, W = w9.setCell ⟨g7, f, none⟩ (.bool false) := ⟨_, rfl⟩
          rw [← hw10] at F10 ⊢
          clear hw10 F9 F8 hB8 W8 hB9 hg9 d8 f9
          go_wp2
          go_roundg gg
          case rel => exact ⟨i + 1, s6, zc6, ccs6, b, hs.set f false, by have := HI'.out; omega, by go_num, F10, HH6.out⟩
          case measure => omega
      · have t3 : (y % 6 == 3) = false := by simpa using q3
        by_cases q4 : y % 6 = 4
        · have HDR := Lib.hid (drainA (.agg (s.cells a.bt a.hi).toArray) a wo ⟨s, zc, ccs, rfl, F5.v⟩ HH.out.v)
          clear q3 hd
          go_wp2_with ((with_reducible refine lda ?_ F5.x8 ?_); (focus rfl))
          refine HDR.out.mono ?_
          rintro e w6 ⟨v6, b, rfl, ⟨s6, zc6, ccs6, rfl, W6⟩, hD, b6⟩
          have HH6 := Lib.hid (HH.out.same hD.v hD.s hD.f)
          have F6 := F5.below b6
          clear F5 hD b6 HDR hBo d2 d0
          go_wp2_with ((with_reducible refine stA (s := s6) (bt := b.bt) (hi := b.hi) ?_ ?_ F6.x8 rfl ?_); (focus rfl); (focus rfl); intro w9 hB9 hg9; have F9 := F6.aset hB9 hg9 W6)
          go_roundg gg
          case rel => exact ⟨i + 1, s6, zc6, ccs6, b, hs, by have := HI'.out; omega, by go_num, F9, HH6.out⟩
          case measure => omega
        · have t4 : (y % 6 == 4) = false := by simpa using q4
          by_cases q5 : y % 6 = 5
          · clear q3 q4
            cases hb with
            | true =>
              go_wp2
              go_roundg gg
              case rel => exact ⟨i + 1, s, zc, ccs, a, hs, by have := HI'.out; omega, by go_num, F5, HH.out⟩
              case measure => omega
            | false =>
              have HTK := Lib.hid (takeA (.agg (s.cells a.bt a.hi).toArray) a f wo ⟨s, zc, ccs, rfl, F5.v⟩ HH.out.v)
              go_wp2_with ((with_reducible refine lda ?_ F5.x8 ?_); (focus rfl))
              refine HTK.out.mono ?_
              rintro e w6 ⟨b6, hT⟩
              rcases hT with ⟨z, v6, b, hz, rfl, ⟨s6, zc6, ccs6, rfl, W6⟩, hL⟩ | ⟨m, hm, rfl⟩
              · have HH6 := Lib.hid (HH.out.less hL hz).2.2
                clear hL hz HTK
                have F6 := F5.below b6
                have hz6 := Blk.new w6 32 #[.slice none 0 0, .int .i64 0, .int .i64 0, .slice none 0 0, .slice none 0 0] nilA rfl
                have b7 := below_box w6 (.cells #[.slice none 0 0, .int .i64 0, .int .i64 0, .slice none 0 0, .slice none 0 0] 32)
                have d2 := cell_later b6 d2
                have d0 := cell_later b6 d0
                clear F5 b6 hd hBo
                go_upto_region 28 with ((with_reducible refine stA (s := s6) (bt := b.bt) (hi := b.hi) ?_ ?_ hz6 rfl ?_); (focus rfl); (focus rfl); intro w8 hB8 hg8)
                have b8 : Below w6.heap.size w6 w8 := b7.grown hg8 b7.size (fun k hk => by cases hk; exact Nat.le_refl _)
                have F8 := F6.below b8
                have W8 := W6.below b8
                obtain ⟨g14, hg14⟩ : ∃ g, w6.heap.size = g := ⟨_, rfl⟩
                rw [hg14] at hB8 ⊢
                clear F6 W6 hz6 b7 hg8 b8 hg14 d2 d0
                have d8 := F8.held (i := f) (by rw [HH.out.l]; exact hf64)
                skip
                go_upto_region 30 with first | ((with_reducible refine lda ?_ hB8 ?_); (focus rfl)) | ((with_reducible refine stA (s := s6) (bt := b.bt) (hi := b.hi) ?_ ?_ F8.x8 rfl ?_); (focus rfl); (focus rfl); intro w9 hB9 hg9; have F9 := F8.aset hB9 hg9 W8; clear d8; have d8 := F9.held (i := f) (by rw [HH.out.l]; exact hf64); have f9 := F9.h7.frozen f)
                have F10 := F9.hset (i := f) (b := true)
                obtain ⟨w10, hw10⟩ : ∃ W, W = w9.setCell ⟨g7, f, none⟩ (.bool true) := ⟨_, rfl⟩
                rw [← hw10] at F10 ⊢
                clear hw10 F9 F8 hB8 W8 hB9 hg9 d8 f9
                go_wp2
                go_roundg gg
                case rel => exact ⟨i + 1, s6, zc6, ccs6, b, hs.set f true, by have := HI'.out; omega, by go_num, F10, HH6.out⟩
                case measure => omega
              · have tm : (m == 0) = false := by simpa using hm
                have F6 := F5.below b6
                have hz6 := Blk.new w6 32 #[.slice none 0 0, .int .i64 0, .int .i64 0, .slice none 0 0, .slice none 0 0] nilA rfl
                have b7 := below_box w6 (.cells #[.slice none 0 0, .int .i64 0, .int .i64 0, .slice none 0 0, .slice none 0 0] 32)
                have d2 := cell_later b6 d2
                have d0 := cell_later b6 d0
                clear F5 b6 hd hBo hm HTK
                go_upto_region 28 with ((with_reducible refine stN ?_ ?_ hz6 rfl ?_); (focus rfl); (focus rfl); intro w8 hB8 hg8)
                have b8 : Below w6.heap.size w6 w8 := b7.grown hg8 b7.size (fun k hk => by cases hk; exact Nat.le_refl _)
                have F8 := F6.below b8
                clear F6 hz6 b7 hg8 b8 d2 d0 hB8
                go_wp2
                go_roundg gg
                case rel => exact ⟨i + 1, s, zc, ccs, a, hs, by have := HI'.out; omega, by go_num, F8, HH.out⟩
                case measure => omega
          · have t5 : (y % 6 == 5) = false := by simpa using q5
            obtain ⟨kb, hkb⟩ : ∃ b : Bool, (y % 6 != 0) = b := ⟨_, rfl⟩
            obtain ⟨rb, hrb⟩ : ∃ b : Bool, (y % 6 == 2) = b := ⟨_, rfl⟩
            have HAL := Lib.hid (allocA (.agg (s.cells a.bt a.hi).toArray) a cn kb rb wo ⟨s, zc, ccs, rfl, F5.v⟩ HH.out.v HNC.out)
            clear q3 q4 q5
            go_wp2_with ((with_reducible refine lda ?_ F5.x8 ?_); (focus rfl))
            refine HAL.out.mono ?_
            rintro e w6 hT
            rcases hT with ⟨z, v6, xf, b, _, hz, rfl, ⟨s6, zc6, ccs6, rfl, W6⟩, hL, b6, _⟩ | ⟨_, rfl, b6⟩
            · obtain ⟨k, hk⟩ : ∃ k : Nat, xf = (k : Int) := ⟨xf.toNat, by have := (HH.out.rg hz (HH.out.v.fr_in hz hL.m)).1; omega⟩
              subst hk
              obtain ⟨hk64, hkf, hI6⟩ := HH.out.less hL hz
              have HH6 := Lib.hid hI6
              have HKF := Lib.hid hkf
              clear hL hz HAL hI6 hkf
              have F6 := F5.below b6
              have hz6 := Blk.new w6 32 #[.slice none 0 0, .int .i64 0, .int .i64 0, .slice none 0 0, .slice none 0 0] nilA rfl
              have b7 := below_box w6 (.cells #[.slice none 0 0, .int .i64 0, .int .i64 0, .slice none 0 0, .slice none 0 0] 32)
              have d2 := cell_later b6 d2
              have d0 := cell_later b6 d0
              clear F5 b6 hd hBo
              go_upto_region 11 with ((with_reducible refine stA (s := s6) (bt := b.bt) (hi := b.hi) ?_ ?_ hz6 rfl ?_); (focus rfl); (focus rfl); intro w8 hB8 hg8)
              have b8 : Below w6.heap.size w6 w8 := b7.grown hg8 b7.size (fun k hk => by cases hk; exact Nat.le_refl _)
              have F8 := F6.below b8
              have W8 := W6.below b8
              obtain ⟨g14, hg14⟩ : ∃ g, w6.heap.size = g := ⟨_, rfl⟩
              rw [hg14] at hB8 ⊢
              clear F6 W6 hz6 b7 hg8 b8 hg14 d2 d0
              have d8 := F8.held (i := k) (by rw [HH.out.l]; exact hk64)
              rw [HKF.out] at d8
              go_upto_region 30 with first | ((with_reducible refine lda ?_ hB8 ?_); (focus rfl)) | ((with_reducible refine stA (s := s6) (bt := b.bt) (hi := b.hi) ?_ ?_ F8.x8 rfl ?_); (focus rfl); (focus rfl); intro w9 hB9 hg9; have F9 := F8.aset hB9 hg9 W8; clear d8; have d8 := F9.held (i := k) (by rw [HH.out.l]; exact hk64); have f9 := F9.h7.frozen k)
              have F10 := F9.hset (i := k) (b := true)
              obtain ⟨w10, hw10⟩ : ∃ W, W = w9.setCell ⟨g7, k, none⟩ (.bool true) := ⟨_, rfl⟩
              rw [← hw10] at F10 ⊢
              clear hw10 F9 F8 hB8 W8 hB9 hg9 d8 f9
              go_wp2
              go_roundg gg
              case rel => exact ⟨i + 1, s6, zc6, ccs6, b, hs.set k true, by have := HI'.out; omega, by go_num, F10, HH6.out⟩
              case measure => omega
            · have F6 := F5.below b6
              have hz6 := Blk.new w6 32 #[.slice none 0 0, .int .i64 0, .int .i64 0, .slice none 0 0, .slice none 0 0] nilA rfl
              have b7 := below_box w6 (.cells #[.slice none 0 0, .int .i64 0, .int .i64 0, .slice none 0 0, .slice none 0 0] 32)
              have d2 := cell_later b6 d2
              have d0 := cell_later b6 d0
              clear F5 b6 hd hBo HAL
              go_upto_region 11 with ((with_reducible refine stN ?_ ?_ hz6 rfl ?_); (focus rfl); (focus rfl); intro w8 hB8 hg8)
              have b8 : Below w6.heap.size w6 w8 := b7.grown hg8 b7.size (fun k hk => by cases hk; exact Nat.le_refl _)
              have F8 := F6.below b8
              clear F6 hz6 b7 hg8 b8 d2 d0 hB8
              go_wp2
              go_roundg gg
              case rel => exact ⟨i + 1, s, zc, ccs, a, hs, by have := HI'.out; omega, by go_num, F8, HH.out⟩
              case measure => omega
end Go.Proofs.Ytdddkfpcbfgocaa
