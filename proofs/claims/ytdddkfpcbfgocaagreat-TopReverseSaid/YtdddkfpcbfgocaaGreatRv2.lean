/- Walks: Check of a page table. Walks: frames that a page table does not use. Rows of elements that have k cells each. A region that draws its order, walked along a plan of two stages: before the first operation that breaks the class, and behind it. Walks: a copy of a page table. The sort of the library at this program: the numbers of its functions and types (written by the tool of the shelf that prints plain text). Walks: nodes that are in order stay in order when they are sorted. Walks: a table is added. The plain model of a page table: tables are added and removed, entries are written. Walks: an entry is written at the end of the walk for a page; tables are made below it. Walks: tables are made below the end of the walk for a page. Walks: Set of a page table. Rows of a call's own whose elements have k cells: opened and shut; an element is written. Walks: elements are deleted from a row by a function (nodes; mappings). Walks: nodes of given frames are deleted. The plain model of a page table: an entry is removed, and the tables that become empty. A part of a block is loaded, in a quiet piece of a region. -/
import Derived.Test.YtdddkfpcbfgocaaGreatProg
import Derived.Ground.GgsProg
import Derived.Shelf.SlSortFuncK.WholeK
import Derived.Lib.SortBridge
import Derived.BigQuiet
import Derived.Test.YtdddkfpcbfgocaaGreatRv1
import Derived.Test.YtdddkfpcbfgocaaGreatRv0
namespace Go.Proofs.YtdddkfpcbfgocaaGreat
open Go.RowKit Go.Over Go.Seg Go.Grow Go.Pt
/-- A valid page table in memory. -/
structure TV (w : World) (r : Int) (b n c : Nat) (ns : List Value) (N : List Nd) (mid low : Nat → Option Int) (ent : Nat → En) : Prop where
  nv : NV w b ns N
  ln : N.length = n
  tr : Tr r N mid low ent
section
variable {w w' : World} {r : Int} {b n c : Nat} {ns : List Value} {N : List Nd} {mid low : Nat → Option Int} {ent : Nat → En}
theorem TV.below (h : TV w r b n c ns N mid low ent) (hb : Below w.heap.size w w') : TV w' r b n c ns N mid low ent := ⟨h.nv.later hb, h.ln, h.tr⟩
theorem TV.le (h : TV w r b n c ns N mid low ent) : n ≤ 73 := by rw [← h.ln]; exact h.tr.len
end
theorem infoB : (Tryz.prog.info? 4).map (fun i => (i.zero, i.size, i.bytes)) = some (some (.bool false), 1, 1) := by kernel_rfl
theorem visC_none (N : List Nd) : visC (fun _ => False) N = List.replicate N.length (.bool false) := by
  unfold visC
  simp only [vb_false (fun h : False => h), List.map_const']
theorem visC_all (N : List Nd) : visC (fun _ => True) N = List.replicate N.length (.bool true) := by
  unfold visC
  simp only [vb_true trivial, List.map_const']
set_option maxRecDepth 100000 in set_option maxHeartbeats 3200000 in
theorem ptcheck (r : Int) (b n c : Nat) (ns : List Value) (N : List Nd) (mid low : Nat → Option Int) (ent : Nat → En) (w : World) (H : TV w r b n c ns N mid low ent) :
    Calls Tryz.prog 134 #[.agg #[.int .i64 r, .slice (some ⟨b, 0, none⟩) n c, .slice none 0 0]] w fun e w' => e = .returned (.int .i64 0) ∧ Below w.heap.size w w' := by
  have X0 := PX.new (r := r) (c := c) (n := n) H.nv
  have hn73 := H.le
  have HN := Lib.hid H.ln; have HT := Lib.hid H.tr
  clear H
  go_enter Tryz.func134, Tryz.ntmps134
  go_upto_region 1 with fail
  obtain ⟨w1, hw1⟩ : ∃ W, W = w.alloc (.cells #[.int .i64 r, .slice (some ⟨b, 0, none⟩) n c, .slice none 0 0] 120) := ⟨_, rfl⟩
  rw [← hw1] at X0 ⊢
  obtain ⟨g, hg⟩ : ∃ g, w.heap.size = g := ⟨_, rfl⟩
  have X1 : PX w g r b n c ns N w1 := by rw [← hg]; exact X0
  rw [hg]
  clear X0 hw1 hg
  obtain ⟨q, hq0, hq1⟩ : ∃ (q : Nat), (∃ x, N[q]? = some x ∧ x.f = r) ∧ Go.Grow.kv (prs N n) r = some (q : Int) := by
    obtain ⟨x, hx, h1, _⟩ := HT.out.root
    obtain ⟨q, hq⟩ := List.getElem?_of_mem hx
    exact ⟨q, ⟨x, hq, h1⟩, by rw [← HN.out, ← h1]; exact prs_kv HT.out.fo.nd hq⟩
  obtain ⟨x, hx, hxr⟩ := hq0
  have HX := Lib.hid hx; have HXR := Lib.hid hxr; have HQ1 := Lib.hid hq1
  have HNU := Lib.hid (numbers r b n c ns N w1 X1.v HN.out (by omega) HT.out.fo ⟨q, x, hx, hxr⟩)
  clear hx hxr hq1
  go_wp2_with ((with_reducible refine ldPT ?_ X1.x ?_); (focus rfl))
  refine HNU.out.mono ?_
  rintro e w2 ⟨rfl, b2⟩
  have X2 := X1.below b2
  clear X1 b2 HNU
  have HIX := Lib.hid (index r b n c ns N w2 X2.v HN.out (by omega) HT.out.fo.nd HT.out.fo.rg)
  go_wp2_with ((with_reducible refine ldPT ?_ X2.x ?_); (focus rfl))
  refine HIX.out.mono ?_
  rintro e w3 ⟨m, rfl, M3, lm, b3⟩
  have X3 := X2.below b3
  clear X2 b3 HIX
  go_upto_region 5 with fail
  have b4 := below_box w3 (.cells #[.map (some m)] 228)
  have z4 := Blk.new w3 228 #[.map (some m)] _ rfl
  have X4 := X3.below b4
  have M4 : Mp _ m (prs N n) := MapI.later M3 b4
  obtain ⟨w4, hw4⟩ : ∃ W, W = w3.alloc (.cells #[.map (some m)] 228) := ⟨_, rfl⟩
  obtain ⟨gm, hgm⟩ : ∃ q, w3.heap.size = q := ⟨_, rfl⟩
  rw [← hw4] at z4 X4 M4 ⊢
  rw [hgm] at z4 ⊢
  clear X3 M3 b4 hw4 hgm
  have c1 := X4.c1
  go_upto_region 6 with ((with_reducible refine wpList_mkr (.bool false) Tryz.underlying51 infoB rfl ?_ ?_ (Nat.le_refl n) (by omega) (by omega) ?_); (focus rfl); (focus rfl); intro w5 hB5 b5 hs5; clear hs5)
  have X5 := X4.below b5
  have M5 : Mp _ m (prs N n) := MapI.later M4 b5
  have z5 := z4.later b5
  have l5 : w.heap.size ≤ w4.heap.size := X4.u.size
  rw [← HN.out, ← visC_none] at hB5
  obtain ⟨lb, hlb⟩ : ∃ q, w4.heap.size = q := ⟨_, rfl⟩
  rw [hlb] at hB5 l5 ⊢
  clear X4 M4 z4 c1 hlb b5
  have b6 := below_box w5 (.cells #[.slice (some ⟨lb, 0, none⟩) n n] 51)
  have y6 := Blk.new w5 51 #[.slice (some ⟨lb, 0, none⟩) n n] _ rfl
  have X6 := X5.below b6
  have M6 : Mp _ m (prs N n) := MapI.later M5 b6
  have z6 := z5.later b6
  have hB6 := hB5.later b6
  obtain ⟨w6, hw6⟩ : ∃ W, W = w5.alloc (.cells #[.slice (some ⟨lb, 0, none⟩) n n] 51) := ⟨_, rfl⟩
  obtain ⟨gl, hgl⟩ : ∃ q, w5.heap.size = q := ⟨_, rfl⟩
  rw [← hw6] at z6 X6 M6 hB6 y6 ⊢
  rw [hgl] at y6 ⊢
  clear X5 M5 z5 hB5 b6 hw6 hgl
  go_upto_region 7 with fail
  have b7 := below_box w6 (.cells #[.slice none 0 0] 24)
  have x7 := Blk.new w6 24 #[.slice none 0 0] _ rfl
  have X7 := X6.below b7
  have M7 : Mp _ m (prs N n) := MapI.later M6 b7
  have z7 := z6.later b7
  have hB7 := hB6.later b7
  have y7 := y6.later b7
  obtain ⟨w7, hw7⟩ : ∃ W, W = w6.alloc (.cells #[.slice none 0 0] 24) := ⟨_, rfl⟩
  obtain ⟨gh, hgh⟩ : ∃ q, w6.heap.size = q := ⟨_, rfl⟩
  rw [← hw7] at z7 X7 M7 hB7 y7 x7 ⊢
  rw [hgh] at x7 ⊢
  clear X6 M6 z6 hB6 y6 b7 hw7 hgh
  go_upto_region 9 with fail
  have b8 := below_box w7 (.cells #[(.func (.func 170) #[] #[.pointer (some ⟨gl, 0, none⟩), .pointer (some ⟨g, 0, none⟩), .pointer (some ⟨gh, 0, none⟩), .pointer (some ⟨gm, 0, none⟩), .pointer (some ⟨w7.heap.size, 0, none⟩)])] 70)
  have v8 := Blk.new w7 70 #[(.func (.func 170) #[] #[.pointer (some ⟨gl, 0, none⟩), .pointer (some ⟨g, 0, none⟩), .pointer (some ⟨gh, 0, none⟩), .pointer (some ⟨gm, 0, none⟩), .pointer (some ⟨w7.heap.size, 0, none⟩)])] _ rfl
  have X8 := X7.below b8
  have K8 : CK w gl g gh gm w7.heap.size lb m r b n c ns N (fun _ => False) (w7.alloc (.cells #[(.func (.func 170) #[] #[.pointer (some ⟨gl, 0, none⟩), .pointer (some ⟨g, 0, none⟩), .pointer (some ⟨gh, 0, none⟩), .pointer (some ⟨gm, 0, none⟩), .pointer (some ⟨w7.heap.size, 0, none⟩)])] 70)) :=
    ⟨X8.u, l5, y7.later b8, X8.x, x7.later b8, z7.later b8, v8, hB7.later b8, X8.v, MapI.later M7 b8⟩
  obtain ⟨w8, hw8⟩ : ∃ W, W = w7.alloc (.cells #[(.func (.func 170) #[] #[.pointer (some ⟨gl, 0, none⟩), .pointer (some ⟨g, 0, none⟩), .pointer (some ⟨gh, 0, none⟩), .pointer (some ⟨gm, 0, none⟩), .pointer (some ⟨w7.heap.size, 0, none⟩)])] 70) := ⟨_, rfl⟩
  obtain ⟨gc, hgc⟩ : ∃ q, w7.heap.size = q := ⟨_, rfl⟩
  rw [← hw8] at K8 ⊢
  rw [hgc] at K8 ⊢
  clear X7 M7 z7 hB7 y7 x7 b8 v8 X8 hw8 hgc
  have c0 : w8.cell? ⟨g, 0, none⟩ = some (.int .i64 r) := by rw [K8.tab.cell]; rfl
  have cm : w8.cell? ⟨gm, 0, none⟩ = some (.map (some m)) := by rw [K8.mp.cell]; rfl
  have cc : w8.cell? ⟨gc, 0, none⟩ = some (.func (.func 170) #[] #[.pointer (some ⟨gl, 0, none⟩), .pointer (some ⟨g, 0, none⟩), .pointer (some ⟨gh, 0, none⟩), .pointer (some ⟨gm, 0, none⟩), .pointer (some ⟨gc, 0, none⟩)]) := by rw [K8.cl.cell]; rfl
  have hrg := HT.out.fo.rg q x HX.out
  rw [HXR.out] at hrg
  have hlk := MapI.look false K8.pm Tryz.underlying228 Tryz.underlying3 (by kernel_rfl) (i64_wf hrg.1 hrg.2)
  rw [HQ1.out] at hlk
  simp only [Option.getD_some] at hlk
  have HW := Lib.hid (walk2 HN.out HT.out HX.out HXR.out 0 w8 K8)
  clear hrg K8
  go_wp2_with fail
  refine HW.out.mono ?_
  rintro e w9 ⟨rfl, K9⟩
  clear c0 cm cc hlk HW
  have hlv := K9.lv
  rw [visC_all, HN.out] at hlv
  have HCB := Lib.hid (containsB lb n (by omega) w9 hlv)
  have c2 : w9.cell? ⟨g, 2, none⟩ = some (.slice none 0 0) := by rw [K9.tab.cell]; rfl
  have cl : w9.cell? ⟨gl, 0, none⟩ = some (.slice (some ⟨lb, 0, none⟩) n n) := by rw [K9.led.cell]; rfl
  have ch : w9.cell? ⟨gh, 0, none⟩ = some (.slice none 0 0) := by rw [K9.hu.cell]; rfl
  have hu := K9.u
  clear K9 hlv
  go_wp2_with fail
  refine HCB.out.mono ?_
  rintro e w10 ⟨rfl, rfl⟩
  clear HCB
  go_wp2
  go_loopg [44] 0 (fun gg v44 wr => gg = 0 ∧ v44 = .int .i64 0 ∧ w9 = wr)
  case atStart => exact ⟨rfl, rfl, rfl⟩
  case round =>
    obtain ⟨hi, rfl, rfl⟩ := hrel
    cases gk with
    | succ gg => omega
    | zero =>
      clear hi
      go_wp2
      go_ret
      exact ⟨rfl, hu⟩
set_option maxRecDepth 100000 in set_option maxHeartbeats 3200000 in
theorem checked (r : Int) (b n c : Nat) (ns : List Value) (N : List Nd) (mid low : Nat → Option Int) (ent : Nat → En) (p : Nat) (w : World) (H : TV w r b n c ns N mid low ent) (hp : p < 512) :
    Calls Tryz.prog 112 #[.agg #[.int .i64 r, .slice (some ⟨b, 0, none⟩) n c, .slice none 0 0], .int .i64 p, .int .i64 512] w fun e w' => e = .returned (.int .i64 0) ∧ Below w.heap.size w w' := by
  have X0 := PX.new (r := r) (c := c) (n := n) H.nv
  have HH := Lib.hid H
  clear H
  go_enter Tryz.func112, Tryz.ntmps112
  go_upto_region 1 with fail
  obtain ⟨w1, hw1⟩ : ∃ W, W = w.alloc (.cells #[.int .i64 r, .slice (some ⟨b, 0, none⟩) n c, .slice none 0 0] 120) := ⟨_, rfl⟩
  rw [← hw1] at X0 ⊢
  obtain ⟨g, hg⟩ : ∃ g, w.heap.size = g := ⟨_, rfl⟩
  have X1 : PX w g r b n c ns N w1 := by rw [← hg]; exact X0
  rw [hg]
  clear X0 hw1 hg
  have HCK := Lib.hid (ptcheck r b n c ns N mid low ent w1 ⟨X1.v, HH.out.ln, HH.out.tr⟩)
  go_wp2_with ((with_reducible refine ldPT ?_ X1.x ?_); (focus rfl))
  refine HCK.out.mono ?_
  rintro e w2 ⟨rfl, b2⟩
  have X2 := X1.below b2
  have hu := X2.u
  clear X1 b2 HCK X2
  go_wp2
  go_ret
  exact ⟨rfl, hu⟩
/-- What a walk finds. -/
def WalkAns (p : Nat) (mid low : Nat → Option Int) (ent : Nat → En) (w : World) (e : Ending) (w' : World) : Prop :=
  e = .returned (.tuple #[.int .u64 (wd (endE mid low ent p)), .int .i64 (endL mid low p : Nat), .int .i64 0]) ∧ Below w.heap.size w w'
set_option maxRecDepth 100000 in set_option maxHeartbeats 3200000 in
theorem walk (r : Int) (b n c : Nat) (ns : List Value) (N : List Nd) (mid low : Nat → Option Int) (ent : Nat → En) (p : Nat) (w : World) (H : TV w r b n c ns N mid low ent) (hp : p < 512) :
    Calls Tryz.prog 63 #[.agg #[.int .i64 r, .slice (some ⟨b, 0, none⟩) n c, .slice none 0 0], .int .i64 p] w (WalkAns p mid low ent w) := by
  have X0 := PX.new (r := r) (c := c) (n := n) H.nv
  have HH := Lib.hid H
  clear H
  go_enter Tryz.func63, Tryz.ntmps63
  go_upto_region 1 with fail
  obtain ⟨w1, hw1⟩ : ∃ W, W = w.alloc (.cells #[.int .i64 r, .slice (some ⟨b, 0, none⟩) n c, .slice none 0 0] 120) := ⟨_, rfl⟩
  rw [← hw1] at X0 ⊢
  obtain ⟨g, hg⟩ : ∃ g, w.heap.size = g := ⟨_, rfl⟩
  have X1 : PX w g r b n c ns N w1 := by rw [← hg]; exact X0
  rw [hg]
  clear X0 hw1 hg
  have HCK := Lib.hid (checked r b n c ns N mid low ent p w1 ⟨X1.v, HH.out.ln, HH.out.tr⟩ hp)
  go_wp2_with ((with_reducible refine ldPT ?_ X1.x ?_); (focus rfl))
  refine HCK.out.mono ?_
  rintro e w2 ⟨rfl, b2⟩
  have X2 := X1.below b2
  clear X1 b2 HCK
  have HLA := Lib.hid (last r b n c ns N mid low ent p w2 X2.v HH.out.ln (by have := HH.out.le; omega) HH.out.tr hp)
  go_wp2_with ((with_reducible refine ldPT ?_ X2.x ?_); (focus rfl))
  refine HLA.out.mono ?_
  rintro e w3 ⟨a, l, E, rfl, hL, b3⟩
  have X3 := X2.below b3
  have hu := X3.u
  have HL := Lib.hid hL
  clear X2 b3 HLA X3 hL
  have hz := Blk.new w3 186 #[.int .i64 0, .int .i64 0, .int .u64 0] _ rfl
  have bz := below_box w3 (.cells #[.int .i64 0, .int .i64 0, .int .u64 0] 186)
  go_upto_region 5 with ((with_reducible refine stSt (s := ⟨a, l, E⟩) ?_ ?_ hz rfl ?_); (focus rfl); (focus rfl); intro w4 hB4 hg4)
  have hu4 := below_then hu (bz.grown hg4 bz.size (fun q hq => by cases hq; exact Nat.le_refl _))
  have d1 : w4.cell? ⟨w3.heap.size, 1, none⟩ = some (.int .i64 l) := by rw [hB4.cell]; rfl
  have d2 : w4.cell? ⟨w3.heap.size, 2, none⟩ = some (.int .u64 (wd E)) := by rw [hB4.cell]; rfl
  obtain ⟨g4, hg4'⟩ : ∃ q, w3.heap.size = q := ⟨_, rfl⟩
  rw [hg4'] at d1 d2 ⊢
  clear hB4 hg4 hz bz hu hg4'
  have HE := Lib.hid (show wd E = wd (endE mid low ent p) by rw [HL.out.he])
  have HLL := Lib.hid (show (l : Int) = (endL mid low p : Nat) by rw [HL.out.hl])
  obtain ⟨W0, hW0⟩ : ∃ q, wd E = q := ⟨_, rfl⟩
  rw [hW0] at d2 HE ⊢
  have e1 := over_cell d1; have e2 := over_cell d2
  clear d1 d2 hW0
  simp only [Act.put]
  refine wp_region_over (by kernel_rfl) (by kernel_rfl) ?_
  repeat (go_big_quiet_step (fail))
  refine wpQuiet_nil ?_
  rintro _ ⟨u, rfl⟩
  have hu5 := below_then hu4 (below_over w4 u)
  clear e1 e2 hu4
  go_wp2
  refine bodyPost_ret (results_tmp3 rfl _ _ _) rfl ?_
  exact ⟨by rw [← HE.out, ← HLL.out]; rfl, hu5⟩
/-- How many tables are missing. -/
def MissAns (p : Nat) (mid low : Nat → Option Int) (w : World) (e : Ending) (w' : World) : Prop :=
  e = .returned (.tuple #[.int .i64 (endL mid low p : Nat), .int .i64 0]) ∧ Below w.heap.size w w'
set_option maxRecDepth 100000 in set_option maxHeartbeats 3200000 in
theorem missing (r : Int) (b n c : Nat) (ns : List Value) (N : List Nd) (mid low : Nat → Option Int) (ent : Nat → En) (p : Nat) (w : World) (H : TV w r b n c ns N mid low ent) (hp : p < 512) :
    Calls Tryz.prog 66 #[.agg #[.int .i64 r, .slice (some ⟨b, 0, none⟩) n c, .slice none 0 0], .int .i64 p] w (MissAns p mid low w) := by
  have X0 := PX.new (r := r) (c := c) (n := n) H.nv
  have HH := Lib.hid H
  clear H
  go_enter Tryz.func66, Tryz.ntmps66
  go_upto_region 1 with fail
  obtain ⟨w1, hw1⟩ : ∃ W, W = w.alloc (.cells #[.int .i64 r, .slice (some ⟨b, 0, none⟩) n c, .slice none 0 0] 120) := ⟨_, rfl⟩
  rw [← hw1] at X0 ⊢
  obtain ⟨g, hg⟩ : ∃ g, w.heap.size = g := ⟨_, rfl⟩
  have X1 : PX w g r b n c ns N w1 := by rw [← hg]; exact X0
  rw [hg]
  clear X0 hw1 hg
  have HCK := Lib.hid (checked r b n c ns N mid low ent p w1 ⟨X1.v, HH.out.ln, HH.out.tr⟩ hp)
  go_wp2_with ((with_reducible refine ldPT ?_ X1.x ?_); (focus rfl))
  refine HCK.out.mono ?_
  rintro e w2 ⟨rfl, b2⟩
  have X2 := X1.below b2
  clear X1 b2 HCK
  have HLA := Lib.hid (last r b n c ns N mid low ent p w2 X2.v HH.out.ln (by have := HH.out.le; omega) HH.out.tr hp)
  go_wp2_with ((with_reducible refine ldPT ?_ X2.x ?_); (focus rfl))
  refine HLA.out.mono ?_
  rintro e w3 ⟨a, l, E, rfl, hL, b3⟩
  have X3 := X2.below b3
  have hu := X3.u
  have HL := Lib.hid hL
  clear X2 b3 HLA X3 hL
  have hz := Blk.new w3 186 #[.int .i64 0, .int .i64 0, .int .u64 0] _ rfl
  have bz := below_box w3 (.cells #[.int .i64 0, .int .i64 0, .int .u64 0] 186)
  go_upto_region 5 with ((with_reducible refine stSt (s := ⟨a, l, E⟩) ?_ ?_ hz rfl ?_); (focus rfl); (focus rfl); intro w4 hB4 hg4)
  have hu4 := below_then hu (bz.grown hg4 bz.size (fun q hq => by cases hq; exact Nat.le_refl _))
  have d1 : w4.cell? ⟨w3.heap.size, 1, none⟩ = some (.int .i64 l) := by rw [hB4.cell]; rfl
  have d2 : w4.cell? ⟨w3.heap.size, 2, none⟩ = some (.int .u64 (wd E)) := by rw [hB4.cell]; rfl
  obtain ⟨g4, hg4'⟩ : ∃ q, w3.heap.size = q := ⟨_, rfl⟩
  rw [hg4'] at d1 d2 ⊢
  clear hB4 hg4 hz bz hu hg4'
  have HEN := Lib.hid (fun W => entryE (HL.out.ve HH.out.tr hp) W)
  have HLL := Lib.hid (show (l : Int) = (endL mid low p : Nat) by rw [HL.out.hl])
  have hfl : ∀ W, (Instr.field 131 (.agg (enC E.k E.n E.b).toArray) 5).run Tryz.prog W = .ok (.bool false) W := fun W => by
    simp [Instr.field, go_sem, asAgg, enC]
  obtain ⟨W0, hW0⟩ : ∃ q, wd E = q := ⟨_, rfl⟩
  rw [hW0] at d2 HEN ⊢
  clear hW0
  by_cases hl1 : l = 1
  · have t1 : ((l : Int) == 1) = true := by simp; omega
    have HL1 := Lib.hid hl1
    clear hl1
    go_wp2_with fail
    refine (HEN.out _).mono ?_
    rintro e w5 ⟨rfl, b5⟩
    have d1' := cell_later b5 d1
    have hu5 := below_then hu4 b5
    clear d1 d2 hu4 b5 HEN
    go_wp2
    go_ret2
    exact ⟨by rw [← HLL.out]; rfl, hu5⟩
  · have t1 : ((l : Int) == 1) = false := by simp; omega
    have HL1 := Lib.hid hl1
    clear hl1
    go_wp2_with fail
    go_ret2
    exact ⟨by rw [← HLL.out]; rfl, hu4⟩
end Go.Proofs.YtdddkfpcbfgocaaGreat
namespace Go.Proofs.YtdddkfpcbfgocaaGreat
open Go.RowKit Go.Over Go.Seg Go.Grow Go.Pt
/-- New frames. -/
structure Fresh (N : List Nd) (F : List Int) : Prop where
  nd : F.Nodup
  rg : ∀ f ∈ F, 0 ≤ f ∧ f ≤ 4294967295
  nw : ∀ f ∈ F, f ∉ N.map (·.f)
theorem PX.mapped {w W W' : World} {g : Nat} {r : Int} {b n c m : Nat} {ns : List Value} {N : List Nd} {l : List (Int × Int)} (h : PX w g r b n c ns N W) (hm : Mp W m l) (hl : w.heap.size ≤ m) (hg : W.grownBy W' (some m)) : PX w g r b n c ns N W' :=
  ⟨h.u.grown hg h.u.size (fun q hq => by cases hq; exact hl), h.l, h.x.grown hg (by simpa using hm.ne h.x), ⟨h.v.x.grown hg (by simpa using hm.ne h.v.x), h.v.n, h.v.row⟩⟩
theorem fresh_new {N : List Nd} {F : List Int} {n i : Nat} {f : Int} (hn : N.length = n) (hF : Fresh N F) (hf : F[i]? = some f) : f ∉ (prs N n ++ (F.take i).map fun f => (f, (0 : Int))).map (·.1) := by
  rw [List.map_append, ← hn, prs_keys (Nat.le_refl _), List.take_of_length_le (Nat.le_refl _), List.mem_append]
  rintro (h | h)
  · exact hF.nw f (List.mem_of_getElem? hf) h
  · rw [List.map_map] at h
    obtain ⟨y, hy, rfl⟩ := List.mem_map.1 h
    obtain ⟨j, hj, hjy⟩ := List.mem_take_iff_getElem.1 hy
    have hnd := hF.nd
    have h1 : F[j]? = some y := by rw [← hjy]; exact List.getElem?_eq_getElem _
    have hi : i < F.length := by rw [List.getElem?_eq_some_iff] at hf; exact hf.1
    rw [List.getElem?_eq_some_iff] at hf h1
    have := (List.getElem_inj hnd).1 (h1.2.trans hf.2.symm)
    omega
set_option maxRecDepth 100000 in set_option maxHeartbeats 3200000 in
theorem fresh (r : Int) (b n c : Nat) (ns : List Value) (N : List Nd) (mid low : Nat → Option Int) (ent : Nat → En) (v : Value) (F : List Int) (k : Nat) (w : World) (H : TV w r b n c ns N mid low ent) (hS : Sl w v F) (hk : F.length = k) (hk2 : k ≤ 2) (hF : Fresh N F) :
    Calls Tryz.prog 117 #[.agg #[.int .i64 r, .slice (some ⟨b, 0, none⟩) n c, .slice none 0 0], v, .int .i64 k] w fun e w' => e = .returned (.bool true) ∧ Below w.heap.size w w' := by
  have X0 := PX.new (r := r) (c := c) (n := n) H.nv
  have hn73 := H.le
  have HN := Lib.hid H.ln; have HT := Lib.hid H.tr; have HF := Lib.hid hF; have HK := Lib.hid hk; have HS := Lib.hid hS
  obtain ⟨a, cp, hv, hcp, hcm, _, hI⟩ := hS
  rw [hk] at hv hcp
  subst hv
  clear H hk hF
  go_enter Tryz.func117, Tryz.ntmps117
  go_upto_region 1 with fail
  obtain ⟨w1, hw1⟩ : ∃ W, W = w.alloc (.cells #[.int .i64 r, .slice (some ⟨b, 0, none⟩) n c, .slice none 0 0] 120) := ⟨_, rfl⟩
  rw [← hw1] at X0 ⊢
  obtain ⟨g, hg⟩ : ∃ g, w.heap.size = g := ⟨_, rfl⟩
  have X1 : PX w g r b n c ns N w1 := by rw [← hg]; exact X0
  rw [hg]
  clear X0 hw1 hg
  have HIX := Lib.hid (index r b n c ns N w1 X1.v HN.out (by omega) HT.out.fo.nd HT.out.fo.rg)
  go_wp2_with ((with_reducible refine ldPT ?_ X1.x ?_); (focus rfl))
  refine HIX.out.mono ?_
  rintro e w2 ⟨m, rfl, M2, lm, b2⟩
  have X2 := X1.below b2
  have lm : w.heap.size ≤ m := Nat.le_trans X1.u.size lm
  clear X1 b2 HIX
  have c2 := X2.c2
  go_wp2
  go_loopg [23] 0 (fun gg v23 wr => gg = 0 ∧ v23 = .int .i64 0 ∧ PX w g r b n c ns N wr ∧ Mp wr m (prs N n))
  case atStart => exact ⟨rfl, rfl, X2, M2⟩
  case round =>
    clear X2 M2 c2
    obtain ⟨hi, rfl, X3, M3⟩ := hrel
    cases gk with
    | succ gg => omega
    | zero =>
      clear hi
      go_wp2
      go_loopg [33] k (fun gg v33 wr => ∃ i : Nat, i + gg = k ∧ v33 = .int .i64 i ∧ PX w g r b n c ns N wr ∧ Mp wr m (prs N n ++ (F.take i).map fun f => (f, (0 : Int))))
      case atStart => exact ⟨0, by omega, rfl, X3, by simpa using M3⟩
      case round =>
        clear X3 M3
        obtain ⟨i, hi, rfl, X4, M4⟩ := hrel
        cases gk with
        | zero =>
          have hin : ¬ i < k := by omega
          have hu := X4.u
          clear hi X4 M4
          go_wp2
          go_ret
          exact ⟨rfl, hu⟩
        | succ gg =>
          have hin : i < k := by omega
          have HI := Lib.hid hi
          obtain ⟨f, hf⟩ := get_some HK.out hin
          have HF1 := Lib.hid hf
          obtain ⟨b', off, hab, cx⟩ := (hI.below X4.u).at hf
          subst hab
          have hrg := HF.out.rg f (List.mem_of_getElem? hf)
          have hwf := i64_wf hrg.1 hrg.2
          have hnew := fresh_new HN.out HF.out hf
          have hlk := MapI.look true M4 Tryz.underlying228 Tryz.underlying3 (by kernel_rfl) hwf
          rw [kv_none hnew] at hlk
          simp only [if_true, Option.getD_none, Option.isSome_none] at hlk
          have hlen : (prs N n ++ (F.take i).map fun f => (f, (0 : Int))).length < maxLen := by unfold prs maxLen; simp; omega
          obtain ⟨w5, hrun, M5, hg5⟩ := MapI.add M4 Tryz.underlying228 Tryz.underlying3 Tryz.underlying3 hwf (i64_wf (x := 0) (by omega) (by omega)) hnew hlen
          have M5 : Mp w5 m _ := M5
          have X5 := X4.mapped M4 lm hg5
          rw [List.append_assoc, show ((F.take i).map fun f => (f, (0 : Int))) ++ [(f, 0)] = (F.take (i + 1)).map fun f => (f, (0 : Int)) by
            rw [List.take_add_one, hf]; simp] at M5
          have HFO := Lib.hid (fun W => frame_ok f hrg.1 hrg.2 W)
          clear X4 M4 hf hrg hwf hnew hlen hg5 hi
          go_wp2_with fail
          refine (HFO.out _).mono ?_
          rintro e _ ⟨rfl, rfl⟩
          go_wp2
          go_roundg gg
          case rel => exact ⟨i + 1, by have := HI.out; omega, by go_num, X5, M5⟩
          case measure => omega
end Go.Proofs.YtdddkfpcbfgocaaGreat
namespace Go.Grow
open Go.RowKit Go.Over
section
variable {α : Type} {f : α → List Value} {k : Nat}
theorem flat_len (hf : ∀ x, (f x).length = k) : ∀ l : List α, (l.flatMap f).length = l.length * k
  | [] => by simp
  | x :: l => by rw [List.flatMap_cons, List.length_append, hf, flat_len hf l, List.length_cons, Nat.succ_mul, Nat.add_comm]
theorem flat_at (hf : ∀ x, (f x).length = k) : ∀ (l : List α) (i j : Nat), j < k → (l.flatMap f)[i * k + j]? = (l[i]?).bind fun x => (f x)[j]?
  | [], i, j, _ => by simp
  | x :: l, 0, j, hj => by
    rw [List.flatMap_cons, Nat.zero_mul, Nat.zero_add, List.getElem?_append_left (by rw [hf]; exact hj)]
    rfl
  | x :: l, i + 1, j, hj => by
    rw [List.flatMap_cons, List.getElem?_append_right (by rw [hf, Nat.succ_mul]; omega), hf, show (i + 1) * k + j - k = i * k + j by rw [Nat.succ_mul]; omega, flat_at hf l i j hj]
    rfl
theorem flat_get (hf : ∀ x, (f x).length = k) {l : List α} {i j : Nat} {x : α} {v : Value} (hx : l[i]? = some x) (hv : (f x)[j]? = some v) : (l.flatMap f)[i * k + j]? = some v := by
  have hj : j < k := by rw [List.getElem?_eq_some_iff] at hv; rw [← hf x]; exact hv.1
  rw [flat_at hf l i j hj, hx]
  exact hv
theorem flat_split {k i : Nat} (hk : 0 < k) : ∃ a j, i = a * k + j ∧ j < k := ⟨i / k, i % k, by rw [Nat.mul_comm]; exact (Nat.div_add_mod i k).symm, Nat.mod_lt _ hk⟩
theorem flat_of (hk : 0 < k) (hf : ∀ x, (f x).length = k) {l : List α} {i : Nat} {v : Value} (h : (l.flatMap f)[i]? = some v) : ∃ (a j : Nat) (x : α), i = a * k + j ∧ l[a]? = some x ∧ (f x)[j]? = some v := by
  obtain ⟨a, j, rfl, hj⟩ := flat_split (i := i) hk
  rw [flat_at hf l a j hj] at h
  cases hx : l[a]? with
  | none => rw [hx] at h; cases h
  | some x => rw [hx] at h; exact ⟨a, j, x, rfl, hx, h⟩
theorem flat_take (hf : ∀ x, (f x).length = k) : ∀ (l : List α) (i : Nat), (l.flatMap f).take (i * k) = (l.take i).flatMap f
  | [], i => by simp
  | x :: l, 0 => by simp
  | x :: l, i + 1 => by
    rw [List.flatMap_cons, List.take_succ_cons, List.flatMap_cons, Nat.succ_mul, Nat.add_comm, ← hf x, List.take_length_add_append, hf x, flat_take hf l i]
theorem flat_drop (hf : ∀ x, (f x).length = k) : ∀ (l : List α) (i : Nat), (l.flatMap f).drop (i * k) = (l.drop i).flatMap f
  | [], i => by simp
  | x :: l, 0 => by simp
  | x :: l, i + 1 => by
    rw [List.flatMap_cons, List.drop_succ_cons, Nat.succ_mul, Nat.add_comm, ← hf x, List.drop_length_add_append, hf x, flat_drop hf l i]
theorem flat_set (hk : 0 < k) (hf : ∀ x, (f x).length = k) {l : List α} {i j : Nat} {x y : α} {u : Value} (hx : l[i]? = some x) (hj : j < k) (hy : f y = (f x).set j u) : (l.flatMap f).set (i * k + j) u = (l.set i y).flatMap f := by
  apply List.ext_getElem?
  intro q
  obtain ⟨a, b, rfl, hb⟩ := flat_split (i := q) hk
  have hi : i < l.length := by rw [List.getElem?_eq_some_iff] at hx; exact hx.1
  rw [flat_at hf _ a b hb, List.getElem?_set, flat_len hf, List.getElem?_set]
  have hlt : i * k + j < l.length * k := by
    have : (i + 1) * k ≤ l.length * k := Nat.mul_le_mul_right _ hi
    rw [Nat.succ_mul] at this; omega
  rw [if_pos hi]
  by_cases e : i = a
  · subst e
    rw [if_pos rfl]
    show _ = (f y)[b]?
    rw [hy, List.getElem?_set]
    by_cases e2 : j = b
    · subst e2
      rw [if_pos rfl, if_pos hlt, if_pos rfl, if_pos (by rw [hf]; exact hj)]
    · rw [if_neg (by omega), if_neg e2, flat_at hf _ i b hb, hx]
      rfl
  · rw [if_neg e, if_neg, flat_at hf _ a b hb]
    intro h
    apply e
    have h1 : (i * k + j) / k = i := by rw [Nat.mul_comm, Nat.mul_add_div hk, Nat.div_eq_of_lt hj, Nat.add_zero]
    have h2 : (a * k + b) / k = a := by rw [Nat.mul_comm, Nat.mul_add_div hk, Nat.div_eq_of_lt hb, Nat.add_zero]
    rw [← h1, ← h2, h]
theorem flat_lay (hf : ∀ x, (f x).length = k) {l : List α} {i : Nat} {y : α} (hi : i < l.length) : lay (l.flatMap f) (i * k) (f y) = (l.set i y).flatMap f := by
  unfold lay
  rw [hf, flat_take hf, show i * k + k = (i + 1) * k by rw [Nat.succ_mul], flat_drop hf, List.set_eq_take_append_cons_drop, if_pos hi, List.flatMap_append, List.flatMap_cons, List.append_assoc]
end
end Go.Grow
namespace Go.Seg
section
variable {P : Program} {ops : Array Oper} {md : Region.Mode} {S : World → Prop} {Q : Exit → Act → World → Prop} {brks : List Nat}
/-- The class is kept, until one of some operations breaks it. -/
def wpAnyB (P : Program) (md : Region.Mode) (ops : Array Oper) (brks : List Nat) (S : World → Prop) (Q : Exit → Act → World → Prop) : Nat → Array Bool → Act → World → Prop
  | 0, listed, a, w => Region.ready md ops listed = [] ∧ Q .normal a w
  | f + 1, listed, a, w =>
    (Region.ready md ops listed = [] → Q .normal a w) ∧
    ∀ i ∈ Region.ready md ops listed, wpOp P ops Q i (fun a' w' => (i ∈ brks → wpAny P md ops Q f (listed.setIfInBounds i true) a' w') ∧ (i ∉ brks → S w' ∧ wpAnyB P md ops brks S Q f (listed.setIfInBounds i true) a' w')) a w
theorem wpAnyB_any : ∀ (f : Nat) (listed : Array Bool) (a : Act) (w : World), wpAnyB P md ops brks S Q f listed a w → wpAny P md ops Q f listed a w
  | 0, _, _, _, h => h
  | f + 1, _, _, _, h => ⟨h.1, fun i hi => wpOp_mono (fun a' w' h' => by
    by_cases e : i ∈ brks
    · exact h'.1 e
    · exact wpAnyB_any f _ a' w' (h'.2 e).2) (h.2 i hi)⟩
/-- Those operations wait for operation i. -/
def Waits (md : Region.Mode) (ops : Array Oper) (brks : List Nat) (i : Nat) : Prop := ∀ j ∈ brks, ∀ o, ops[j]? = some o → ∃ e ∈ o.after, Region.binds md e = true ∧ e.on = i
theorem firstB {i : Nat} {oi : Oper} {v : Value} (hi : ops[i]? = some oi) (hwt : Waits md ops brks i) (hil : i ∉ brks) (hsel : ∀ (j : Nat) (o : Oper) cs b, ops[j]? = some o → o.op ≠ .select cs b)
    (hQ : ∀ c a d v w, Q (.panic c) (Act.put a d v) w → Q (.panic c) a w) :
    ∀ (fuel : Nat) (listed : Array Bool) (a : Act) (w : World), S w →
      (∀ j oj, ops[j]? = some oj → j ≠ i → listed.getD j true = false → (∀ e ∈ oj.after, Region.binds md e = true → e.on ≠ i) → oi.apart ops oj = true) →
      i ∈ Region.ready md ops listed → (∀ w, S w → YieldsAt P ops w oi v a) →
      wpAnyB P md ops brks S Q fuel (listed.setIfInBounds i true) (a.put oi.dst v) w → wpAnyB P md ops brks S Q (fuel + 1) listed a w := by
  intro fuel
  induction fuel with
  | zero =>
    intro listed a w hS _ hr hy H
    refine ⟨fun h => (by rw [h] at hr; cases hr), fun j hj => ?_⟩
    by_cases hji : j = i
    · subst hji; exact wpOp_of_yields hi (hy w hS) ⟨fun h => absurd h hil, fun _ => ⟨hS, H⟩⟩
    · have := ready_mono hj hji
      rw [H.1] at this
      cases this
  | succ fuel ih =>
    intro listed a w hS hfree hr hy H
    refine ⟨fun h => (by rw [h] at hr; cases hr), fun j hj => ?_⟩
    by_cases hji : j = i
    · subst hji; exact wpOp_of_yields hi (hy w hS) ⟨fun h => absurd h hil, fun _ => ⟨hS, H⟩⟩
    · have h1 := H.2 j (ready_mono hj hji)
      obtain ⟨hjun, oj, hoj, hall⟩ := mem_ready.1 hj
      have hnot : ∀ e ∈ oj.after, Region.binds md e = true → e.on ≠ i := fun e he hb heq => by
        have h1 := hall e he hb
        have h0 := (mem_ready.1 hr).1
        rw [heq] at h1
        rcases Nat.lt_or_ge i listed.size with h' | h'
        · simp [h'] at h0 h1; rw [h0] at h1; cases h1
        · simp [Array.getElem?_eq_none h'] at h1
      have hjl : j ∉ brks := fun hm => by
        obtain ⟨e, he, hb, heq⟩ := hwt j hm oj hoj
        exact hnot e he hb heq
      have h2 := wpOp_put hoj (hfree j oj hoj hji hjun hnot) (fun cs b => hsel i oi cs b hi) (fun cs b => hsel j oj cs b hoj) hQ hy h1
      have hfree' : ∀ k ok, ops[k]? = some ok → k ≠ i → (listed.setIfInBounds j true).getD k true = false →
          (∀ e ∈ ok.after, Region.binds md e = true → e.on ≠ i) → oi.apart ops ok = true := fun k ok hk hki hun hno => by
        refine hfree k ok hk hki ?_ hno
        by_cases hjk : j = k
        · subst hjk; exact hjun
        · rw [getD_set_ne true hjk] at hun; exact hun
      refine wpOp_mono (fun a' w' h3 => ⟨fun h => absurd h hjl, fun _ => ?_⟩) h2
      obtain ⟨q1, q2⟩ := h3.2.2 hjl
      refine ⟨q1, ih (listed.setIfInBounds j true) a' w' q1 hfree' (ready_mono hr (Ne.symm hji)) h3.1 ?_⟩
      rw [Array.setIfInBounds_comm _ _ hji]
      exact q2
theorem anyB_of_quiets (hs : Region.noSelect ops = true) (hQ : ∀ c a d v w, Q (.panic c) (Act.put a d v) w → Q (.panic c) a w) {f : Nat} :
    ∀ (l : List Oper) (ks : List Nat) (listed : Array Bool) (a : Act) (w : World), (ks.map fun k => ops[k]?) = l.map some → quietB md ops ks listed = true → (∀ k ∈ ks, Waits md ops brks k ∧ k ∉ brks) → S w →
      wpEachF P ops S (fun a' w' => wpAnyB P md ops brks S Q f (setAll listed ks) a' w') l a w → wpAnyB P md ops brks S Q (f + l.length) listed a w
  | [], [], _, _, _, _, _, _, _, h => h
  | [], _ :: _, _, _, _, hl, _, _, _, _ => by simp at hl
  | _ :: _, [], _, _, _, hl, _, _, _, _ => by simp at hl
  | o :: l, k :: ks, listed, a, w, hl, hB, hk, hS, h => by
    simp only [List.map_cons, List.cons.injEq] at hl
    simp only [quietB, Bool.and_eq_true] at hB
    obtain ⟨⟨hr, hf⟩, hB'⟩ := hB
    obtain ⟨v, hy, hK⟩ := h
    obtain ⟨k1, k2⟩ := hk k (by simp)
    exact firstB hl.1 k1 k2 (Region.noSelect_spec hs) hQ (f + l.length) listed a w hS (Region.free_spec hl.1 hf) (by simpa using hr) hy
      (anyB_of_quiets hs hQ l ks _ _ _ hl.2 hB' (fun j hj => hk j (by simp [hj])) hS hK)
inductive Plan2 where
  | quiet (ks : List Nat) (p : Plan2)
  | only (k : Nat) (p : Plan2)
  | brk (k : Nat) (p : Plan)
def Plan2.size : Plan2 → Nat
  | .quiet ks p => p.size + ks.length
  | .only _ p => p.size + 1
  | .brk _ p => p.size + 1
def waitsB (md : Region.Mode) (ops : Array Oper) (brks : List Nat) (i : Nat) : Bool := brks.all fun j => match ops[j]? with
  | none => true
  | some o => o.after.any fun e => Region.binds md e && decide (e.on = i)
theorem waitsB_spec {i : Nat} (h : waitsB md ops brks i = true) : Waits md ops brks i := by
  intro j hj o ho
  have := List.all_eq_true.1 h j hj
  simp only [ho, Array.any_eq_true, Bool.and_eq_true, decide_eq_true_eq] at this
  obtain ⟨q, hq, h2, h3⟩ := this
  exact ⟨_, Array.getElem_mem hq, h2, h3⟩
def planB2 (md : Region.Mode) (l : List Oper) (brks : List Nat) : Plan2 → Array Bool → Bool
  | .quiet ks p, listed => quietB md l.toArray ks listed && (inOrder l ks).all (fun o => valueOp o.op) && ks.all (fun k => decide (k < l.length)) && ks.all (fun k => waitsB md l.toArray brks k && decide (k ∉ brks)) && planB2 md l brks p (setAll listed ks)
  | .only k p, listed => decide (Region.ready md l.toArray listed = [k]) && decide (k < l.length) && decide (k ∉ brks) && planB2 md l brks p (listed.setIfInBounds k true)
  | .brk k p, listed => decide (Region.ready md l.toArray listed = [k]) && decide (k < l.length) && decide (k ∈ brks) && planB md l l.toArray.size p (listed.setIfInBounds k true)
def wpPlan2 (P : Program) (l : List Oper) (S : World → Prop) (Q : Exit → Act → World → Prop) : Plan2 → Act → World → Prop
  | .quiet ks p, a, w => wpQuiet P l.toArray S (fun a' => wpPlan2 P l S Q p a' w) (inOrder l ks) a
  | .only k p, a, w => wpList P l.toArray (Kept S fun a' w' => wpPlan2 P l S Q p a' w') (inOrder l [k]) a w
  | .brk k p, a, w => wpList P l.toArray (Kept (fun _ => True) fun a' w' => wpPlan P l (fun _ => True) Q p a' w') (inOrder l [k]) a w
theorem anyB_plan {l : List Oper} (hs : Region.noSelect l.toArray = true) (hQ : ∀ c a d v w, Q (.panic c) (Act.put a d v) w → Q (.panic c) a w) :
    ∀ (p : Plan2) (x : Nat) (listed : Array Bool) (a : Act) (w : World), planB2 md l brks p listed = true → S w → wpPlan2 P l S Q p a w → wpAnyB P md l.toArray brks S Q (p.size + x) listed a w
  | .quiet ks p, x, listed, a, w, hB, hS, h => by
    simp only [planB2, Bool.and_eq_true] at hB
    obtain ⟨⟨⟨⟨b1, b2⟩, b3⟩, b4⟩, b5⟩ := hB
    obtain ⟨i0, j0⟩ := inOrder_map ks b3
    have g := anyB_of_quiets (P := P) (S := S) (Q := Q) (brks := brks) hs hQ (f := p.size + x) (inOrder l ks) ks listed a w i0 b1 (fun k hk => by
        have := List.all_eq_true.1 b4 k hk
        simp only [Bool.and_eq_true, decide_eq_true_eq] at this
        exact ⟨waitsB_spec this.1, this.2⟩) hS
      (eachF_of_quiet (inOrder l ks) a (fun o ho => List.all_eq_true.1 b2 o ho) (wpQuiet_imp (fun a' hh => anyB_plan hs hQ p x _ a' w b5 hS hh) _ _ h))
    rw [j0] at g
    show wpAnyB P md l.toArray brks S Q (p.size + ks.length + x) listed a w
    rw [show p.size + ks.length + x = p.size + x + ks.length by omega]
    exact g
  | .only k p, x, listed, a, w, hB, hS, h => by
    simp only [planB2, Bool.and_eq_true, decide_eq_true_eq] at hB
    obtain ⟨⟨⟨b1, b2⟩, b4⟩, b3⟩ := hB
    obtain ⟨o, m1, m2⟩ := one_of b2
    simp only [wpPlan2, m1] at h
    show wpAnyB P md l.toArray brks S Q (p.size + 1 + x) listed a w
    rw [show p.size + 1 + x = p.size + x + 1 by omega]
    refine ⟨fun h1 => (by rw [b1] at h1; cases h1), fun i hi => ?_⟩
    rw [b1] at hi
    obtain rfl := List.mem_singleton.1 hi
    exact op_of_list m2 hS h fun a' w' hs' hk => ⟨fun hm => absurd hm b4, fun _ => ⟨hs', anyB_plan hs hQ p x _ a' w' b3 hs' hk⟩⟩
  | .brk k p, x, listed, a, w, hB, hS, h => by
    simp only [planB2, Bool.and_eq_true, decide_eq_true_eq] at hB
    obtain ⟨⟨⟨b1, b2⟩, b4⟩, b3⟩ := hB
    obtain ⟨o, m1, m2⟩ := one_of b2
    simp only [wpPlan2, m1] at h
    show wpAnyB P md l.toArray brks S Q (p.size + 1 + x) listed a w
    rw [show p.size + 1 + x = p.size + x + 1 by omega]
    refine ⟨fun h1 => (by rw [b1] at h1; cases h1), fun i hi => ?_⟩
    rw [b1] at hi
    obtain rfl := List.mem_singleton.1 hi
    exact op_of_list m2 trivial h fun a' w' _ hk => ⟨fun _ => wpAnyL_any _ _ _ _ (anyL_plan (S := fun _ => True) lasts_none hs hQ p x _ a' w' b3 trivial hk), fun hm => absurd b4 hm⟩
def planRB2 (l : List Oper) (brks : List Nat) (p : Plan2) : Bool := Region.noSelect l.toArray && decide (p.size ≤ l.length) && planB2 .any l brks p (Array.replicate l.toArray.size false)
/-- THE REGION, ALONG A PLAN OF TWO STAGES. -/
theorem wp_region_stages {id : Nat} {a : Act} {w : World} {l : List Oper} (S0 : World → Prop) (p : Plan2) (brks : List Nat) (hm : P.follows .mixedOrders = true) (hB : planRB2 l brks p = true) (h0 : S0 { w with drawn := w.drawn + 1 })
    (h : ∀ W, S0 W → W = { w with drawn := w.drawn + 1 } → wpPlan2 P l (fun w' => ∃ u, w' = hold S0 W u) (NoPanic Q) p a W) : (Code.region id l.toArray true).wp P Q a w := by
  refine wp_region_noPanic (wp_region_any hm ?_)
  simp only [planRB2, Bool.and_eq_true, decide_eq_true_eq] at hB
  obtain ⟨⟨b1, b3⟩, b4⟩ := hB
  have g := anyB_plan (md := .any) b1 (fun c a d v w h => h) p (l.length - p.size) _ a _ b4 (hold_of h0) (h _ h0 rfl)
  rw [show p.size + (l.length - p.size) = l.length by omega] at g
  have g4 := wpAnyB_any _ _ _ _ g
  simpa using g4
end
end Go.Seg
namespace Go.Pt
def nodesC (N : List Nd) : List Value := N.flatMap ndC
theorem ndC_len (x : Nd) : (ndC x).length = 9 := rfl
theorem ndC_one (x : Nd) : ∀ v ∈ ndC x, v.oneCell' = true := by
  intro u hu
  simp [ndC] at hu
  rcases hu with rfl | rfl | rfl | rfl | rfl | rfl | rfl | rfl | rfl <;> rfl
theorem nodesC_len (N : List Nd) : (nodesC N).length = N.length * 9 := Go.Grow.flat_len ndC_len N
theorem nodesC_one (N : List Nd) : ∀ v ∈ nodesC N, v.oneCell' = true := by
  intro u hu
  obtain ⟨x, _, h⟩ := List.mem_flatMap.1 hu
  exact ndC_one x u h
end Go.Pt
namespace Go.Proofs.YtdddkfpcbfgocaaGreat
open Go.RowKit Go.Over Go.Seg Go.Grow Go.Pt
theorem K117 : Kind Tryz.prog 117 183 9 72 := Kind.mk' (z := .agg #[.int .i64 0, .int .u64 0, .int .u64 0, .int .u64 0, .int .u64 0, .int .u64 0, .int .u64 0, .int .u64 0, .int .u64 0]) Tryz.underlying117 (by kernel_rfl) rfl (by decide) (by decide)
/-- Nodes in a row of a call's own. -/
def OwnN (w : World) (B : Nat) (v : Value) (N : List Nd) : Prop := w.ownsRow B 183 9 v N.length (nodesC N)
theorem OwnN.later {w w' : World} {B : Nat} {v : Value} {N : List Nd} (h : OwnN w B v N) (hb : Below w.heap.size w w') : OwnN w' B v N := own_later h hb
/-- As nodes that are read. -/
theorem OwnN.nv {w : World} {B : Nat} {v : Value} {N : List Nd} (h : OwnN w B v N) (hn : 0 < N.length) : ∃ (b c : Nat) (ns : List Value), v = .slice (some ⟨b, 0, none⟩) N.length c ∧ B ≤ b ∧ NV w b ns N := by
  obtain ⟨g, c, zs, h1, h2, h3, h4, h5, h6⟩ := own_blk h hn
  refine ⟨g, c, zs, h1, h2, h5, ?_, fun i nd hi j v hv => h6 _ _ (flat_get ndC_len hi hv)⟩
  have hlen := nodesC_len N
  rcases Nat.lt_or_ge zs.length (N.length * 9) with hlt | hge
  · have h7 : (nodesC N)[zs.length]? = some ((nodesC N)[zs.length]'(by omega)) := List.getElem?_eq_getElem _
    have := h6 _ _ h7
    rw [List.getElem?_eq_none (Nat.le_refl _)] at this
    cases this
  · exact hge
theorem NV.src {w : World} {b n c : Nat} {ns : List Value} {N : List Nd} (h : NV w b ns N) (hn : N.length = n) : Grow.Src w 9 (some ⟨b, 0, none⟩) n c (nodesC N) :=
  ⟨by rw [nodesC_len, hn], nodesC_one N, .inr ⟨_, rfl, fun j u hj => by
    obtain ⟨a, q, x, rfl, hx, hv⟩ := flat_of (by decide) ndC_len hj
    rw [add_off, Nat.zero_add, h.x.cell]
    exact h.row a x hx q u hv⟩⟩
set_option maxRecDepth 100000 in set_option maxHeartbeats 3200000 in
theorem cloneN (b n c : Nat) (ns : List Value) (N : List Nd) (w : World) (H : NV w b ns N) (hn : N.length = n) (hm : n ≤ 100000) :
    Calls Tryz.prog 155 #[.slice (some ⟨b, 0, none⟩) n c] w fun e w' => ∃ v', e = .returned v' ∧ OwnN w' w.heap.size v' N ∧ Below w.heap.size w w' := by
  have hsrc : Grow.Src (w.alloc (.cells #[] 183)) 9 (some ⟨b, 0, none⟩) n c (nodesC N) := (H.later (below_box _ _)).src hn
  have k1 := fun w' => Lib.run_eql_slice_nil (P := Tryz.prog) w' 117 183 (some ⟨b, 0, none⟩) n c 0 0 Tryz.underlying117
  have hmade : (w.alloc (.cells #[] 183)).ownsRow w.heap.size 183 9 (.slice (some ⟨w.heap.size, 0, none⟩) 0 0) 0 [] := World.ownsRow_made w #[] 0 (Nat.le_refl _) (Nat.zero_le _) rfl
  have HS := Lib.hid hsrc
  have HN := Lib.hid hn
  clear hsrc H hn
  go_enter Tryz.func155, Tryz.ntmps155
  go_wp2_with (at_builtin; refine wpList_append_k K117 rfl (.tmp 5) (.tmp 6) rfl _ 0 [] rfl hmade _ n c _ rfl HS.out ?c1 ?c2 ?_)
  case c1 => omega
  case c2 => simp
  intro v' w' hown hg _
  have hb : Below w.heap.size w w' := (below_box w _).grown hg (by simp) (fun k hk => by simp [Value.ownBlock] at hk; omega)
  have hown : OwnN w' w.heap.size v' N := by unfold OwnN; rw [HN.out]; first | exact hown | simpa using hown
  clear hg
  go_wp2
  go_ret
  exact ⟨_, rfl, hown, hb⟩
set_option maxRecDepth 100000 in set_option maxHeartbeats 3200000 in
theorem cloneD (w : World) : Calls Tryz.prog 156 #[.slice none 0 0] w fun e w' => e = .returned (.slice none 0 0) ∧ w = w' := by
  have k1 := fun w' => Lib.run_eql_slice_nil (P := Tryz.prog) w' 118 231 none 0 0 0 0 Tryz.underlying118
  go_enter Tryz.func156, Tryz.ntmps156
  go_wp2
  go_ret
  exact ⟨rfl, rfl⟩
theorem resPT {fn : Func} {p : Tmp} (h : fn.results = #[.cell p 120]) (tmps : Array Value) (w : World) (g : Nat) (cs : List Value) (hp : tmps.getD p undef = .pointer (some ⟨g, 0, none⟩)) (hg : Blk w g 120 cs) (hl : cs.length = 3) :
    (results fn tmps).run Tryz.prog w = .ok (.agg cs.toArray) w :=
  results_cell_row h tmps w g 120 cs.toArray (0, 0) _ hp hg Tryz.underlying120 rfl (by rw [infoPT]; simp [hl])
section
variable {ops : Array Oper} {rest : List Oper} {i j : Nat} {ty : TypeId} {pos : String} {af : Array Edge} {a : Act} {w : World} {Q : Exit → Act → World → Prop} {g b n c : Nat} {r : Int}
/-- A page table is stored whole. -/
theorem stPT {zs : List Value} (hx : a.eval (.tmp i) = .pointer (some ⟨g, 0, none⟩)) (hy : a.eval (.tmp j) = .agg #[.int .i64 r, .slice (some ⟨b, 0, none⟩) n c, .slice none 0 0]) (hB : Blk w g 120 zs) (hz : zs.length = 3)
    (h : ∀ W, Blk W g 120 (ptC r b n c) → w.grownBy W (some g) → wpList Tryz.prog ops Q rest (a.put none undef) W) :
    wpList Tryz.prog ops Q ({ dst := none, op := .store 120 (.tmp i) (.tmp j), type := ty, pos := pos, after := af, guard := none } :: rest) a w := by
  have e : lay zs 0 (ptC r b n c) = ptC r b n c := by
    have hl : (ptC r b n c).length = 3 := rfl
    unfold lay
    rw [hl, List.take_zero, List.nil_append, List.drop_eq_nil_of_le (by omega), List.append_nil]
  refine wpList_store_part (cs := ptC r b n c) (by rw [infoPT]; rfl) hx hy hB (by rw [hz]; exact Nat.le_refl _) ?_ fun W q1 q2 => h W (by rw [← e]; exact q1) q2
  intro u hu
  simp [ptC] at hu
  rcases hu with rfl | rfl | rfl <;> rfl
end
theorem trans_grown {w w1 w2 : World} {k : Option Nat} (h1 : w.grownBy w1 k) (h2 : w1.grownBy w2 k) : w.grownBy w2 k :=
  ⟨h2.os.trans h1.os, h2.tape.trans h1.tape, h2.output.trans h1.output, Nat.le_trans h1.size h2.size, fun q hq hk => (h2.block q (Nat.lt_of_lt_of_le hq h1.size) hk).trans (h1.block q hq hk)⟩
theorem refl_grown (w : World) (k : Option Nat) : w.grownBy w k := World.grownBy.refl w k
theorem set_grown {w w' : World} {g i : Nat} {u : Value} (h : w.grownBy w' (some g)) : w.grownBy (w'.setCell ⟨g, i, none⟩ u) (some g) :=
  trans_grown h ⟨rfl, rfl, rfl, by simp [World.setCell], fun k _ hk => Below.heap_setCell w' ⟨g, i, none⟩ u k (fun e => hk (by rw [e]))⟩
theorem below_grow {w w' : World} (k : Option Nat) (h : Below w.heap.size w w') : w.grownBy w' k := ⟨h.os, h.tape, h.output, h.size, fun q hq _ => h.block q hq⟩
def CSt (g b n c : Nat) (U : World) : Prop := U.cell? ⟨g, 1, none⟩ = some (.slice (some ⟨b, 0, none⟩) n c) ∧ U.cell? ⟨g, 2, none⟩ = some (.slice none 0 0)
/-- A copy, in memory of the call's own. -/
def ClonePT (w : World) (r : Int) (N : List Nd) (e : Ending) (w' : World) : Prop :=
  ∃ b c, e = .returned (.agg #[.int .i64 r, .slice (some ⟨b, 0, none⟩) N.length c, .slice none 0 0]) ∧ OwnN w' w.heap.size (.slice (some ⟨b, 0, none⟩) N.length c) N ∧ Below w.heap.size w w'
set_option maxRecDepth 100000 in set_option maxHeartbeats 3200000 in
theorem clonePT (r : Int) (b n c : Nat) (ns : List Value) (N : List Nd) (w : World) (H : NV w b ns N) (hn : N.length = n) (hm : n ≤ 100000) (h0 : 0 < n) : Calls Tryz.prog 118 #[.agg #[.int .i64 r, .slice (some ⟨b, 0, none⟩) n c, .slice none 0 0]] w (ClonePT w r N) := by
  have b0 := below_box w (.cells #[.int .i64 r, .slice (some ⟨b, 0, none⟩) n c, .slice none 0 0] 120)
  have X0 := PX.new (r := r) (c := c) (n := n) H
  have b1 := below_box (w.alloc (.cells #[.int .i64 r, .slice (some ⟨b, 0, none⟩) n c, .slice none 0 0] 120)) (.cells #[.int .i64 0, .slice none 0 0, .slice none 0 0] 120)
  have X1 := X0.below b1
  have z1 := Blk.new (w.alloc (.cells #[.int .i64 r, .slice (some ⟨b, 0, none⟩) n c, .slice none 0 0] 120)) 120 #[.int .i64 0, .slice none 0 0, .slice none 0 0] _ rfl
  have s1 : (w.alloc (.cells #[.int .i64 r, .slice (some ⟨b, 0, none⟩) n c, .slice none 0 0] 120)).heap.size = w.heap.size + 1 := by simp
  rw [s1] at z1
  have HN := Lib.hid hn
  clear hn H b0 b1 X0 s1
  go_enter Tryz.func118, Tryz.ntmps118
  go_upto_region 1 with fail
  obtain ⟨w1, hw1⟩ : ∃ W, W = (w.alloc (.cells #[.int .i64 r, .slice (some ⟨b, 0, none⟩) n c, .slice none 0 0] 120)).alloc (.cells #[.int .i64 0, .slice none 0 0, .slice none 0 0] 120) := ⟨_, rfl⟩
  rw [← hw1] at X1 z1 ⊢
  obtain ⟨g4, hg4⟩ : ∃ g, w.heap.size + 1 = g := ⟨_, rfl⟩
  have l4 : w.heap.size ≤ g4 := by omega
  rw [hg4] at z1 ⊢
  obtain ⟨g, hg⟩ : ∃ g, w.heap.size = g := ⟨_, rfl⟩
  have X1 : PX w g r b n c ns N w1 := by rw [← hg]; exact X1
  have ng : g4 ≠ g := by omega
  rw [hg]
  clear hw1 hg hg4
  refine wp_region_stages (CSt g b n c)
    (.quiet [0, 1, 3, 4] (.only 2 (.quiet [6] (.only 5 (.brk 7 (.quiet [8] (.only 9 .done))))))) [7, 9] (by kernel_rfl) (by kernel_rfl) ⟨X1.c1, X1.c2⟩ ?_
  intro W hWW hWe
  have bW : Below w1.heap.size w1 W := by rw [hWe]; exact (Below.refl _ _).drew
  clear hWe
  have X2 := X1.below bW
  have Z2 := z1.later bW
  clear X1 z1 bW
  simp only [wpPlan2, inOrder, List.filterMap_cons, List.filterMap_nil, List.getElem?_cons_zero, List.getElem?_cons_succ]
  have q1 := fun z => (hold_ok (S0 := CSt g b n c) hWW z).1
  have q2 := fun z => (hold_ok (S0 := CSt g b n c) hWW z).2
  show wpQuiet _ _ _ _ (_ :: _ :: _ :: [_]) _
  repeat (go_big_quiet_step (fail))
  refine wpQuiet_nil ?_
  clear q1 q2 hWW
  have HCN := Lib.hid (cloneN b n c ns N W X2.v HN.out hm)
  show wpList _ _ _ [_] _ _
  go_wp2_with fail
  refine HCN.out.mono ?_
  rintro e w3 ⟨v, rfl, O3, b3⟩
  have X3 := X2.below b3
  have Z3 := Z2.later b3
  have O3 : OwnN w3 w.heap.size v N := own_weaken O3 X2.u.size
  clear X2 Z2 b3 HCN
  go_wp2
  refine ⟨hold_of ⟨X3.c1, X3.c2⟩, ?_⟩
  show wpQuiet _ _ _ _ ([_]) _
  repeat (go_big_quiet_step (fail))
  refine wpQuiet_nil ?_
  have HCD := Lib.hid (cloneD w3)
  show wpList _ _ _ [_] _ _
  go_wp2_with fail
  refine HCD.out.mono ?_
  rintro e _ ⟨rfl, rfl⟩
  go_wp2
  refine ⟨hold_of ⟨X3.c1, X3.c2⟩, ?_⟩
  clear HCD
  obtain ⟨b', c', ns', hv, hbb, _⟩ := O3.nv (by rw [HN.out]; exact h0)
  rw [HN.out] at hv
  subst hv
  have f1 := X3.x.frozen 1
  have f2 := X3.x.frozen 2
  have c1 := X3.c1
  have c2 := X3.c2
  show wpList _ _ _ [_] _ _
  go_wp2
  refine ⟨trivial, ?_⟩
  show wpQuiet _ _ _ _ ([_]) _
  repeat (go_big_quiet_step (fail))
  refine wpQuiet_nil ?_
  show wpList _ _ _ [_] _ _
  go_wp2
  refine ⟨trivial, ?_⟩
  refine NoPanic.normal ?_
  clear f1 f2 c1 c2
  have B6 : Blk ((w3.setCell ⟨g, 1, none⟩ (.slice (some ⟨b', 0, none⟩) n c')).setCell ⟨g, 2, none⟩ (.slice none 0 0)) g 120 (ptC r b' n c') := (X3.x.set 1 (.slice (some ⟨b', 0, none⟩) n c')).set 2 (.slice none 0 0)
  have g6 : w3.grownBy ((w3.setCell ⟨g, 1, none⟩ (.slice (some ⟨b', 0, none⟩) n c')).setCell ⟨g, 2, none⟩ (.slice none 0 0)) (some g) := set_grown (set_grown (refl_grown _ _))
  obtain ⟨w6, hw6⟩ : ∃ W, W = (w3.setCell ⟨g, 1, none⟩ (.slice (some ⟨b', 0, none⟩) n c')).setCell ⟨g, 2, none⟩ (.slice none 0 0) := ⟨_, rfl⟩
  rw [← hw6] at B6 g6 ⊢
  have Z6 := Z3.grown g6 (by simpa using Ne.symm ng)
  have O6 : OwnN w6 w.heap.size _ N := World.ownsRow.kept O3 g6 (.inr (X3.x.not_own O3 (by decide)))
  have u6 := X3.u.grown g6 X3.u.size (fun k hk => by cases hk; exact X3.l)
  clear X3 Z3 O3 g6 hw6
  go_wp2_with first | ((with_reducible refine ldPT ?_ B6 ?_); (focus rfl)) | ((with_reducible refine stPT (r := r) (b := b') (n := n) (c := c') ?_ ?_ Z6 rfl ?_); (focus rfl); (focus rfl); intro w7 hB7 hg7)
  refine bodyPost_ret (resPT rfl _ _ g4 _ rfl hB7 rfl) rfl ?_
  refine ⟨b', c', ?_, ?_, u6.grown hg7 u6.size (fun k hk => by cases hk; exact l4)⟩
  · rw [HN.out]; rfl
  · rw [HN.out]; exact World.ownsRow.kept O6 hg7 (.inr (Z6.not_own O6 (by decide)))
end Go.Proofs.YtdddkfpcbfgocaaGreat
namespace Go.Proofs
open Go.Shelf
def Tryz.sl6_ren : Go.Shelf.Ren := ⟨fun | 6 => 180 | 10 => 186 | 11 => 187 | 12 => 188 | 13 => 189 | 14 => 190 | 24 => 203 | 25 => 204 | 26 => 205 | 27 => 206 | 28 => 207 | 29 => 208 | 30 => 209 | 31 => 210 | 32 => 211 | 33 => 212 | 34 => 213 | 35 => 214 | 36 => 215 | 37 => 216 | 38 => 217 | 39 => 218 | n => n, fun | 20 => 20 | 26 => 71 | 35 => 251 | 0 => 0 | 37 => 149 | 3 => 3 | 41 => 188 | 44 => 258 | 49 => 266 | 51 => 127 | 4 => 4 | 54 => 270 | 53 => 269 | 58 => 84 | 5 => 5 | 9 => 9 | 60 => 275 | 64 => 279 | 66 => 281 | 67 => 47 | 17 => 17 | 32 => 248 | 33 => 249 | 82 => 296 | 12 => 12 | 75 => 289 | 76 => 290 | 77 => 291 | 78 => 292 | 79 => 293 | 80 => 294 | n => n, fun | n => n⟩
theorem Tryz.sl6 : Go.Proofs.LaysGg.n6 Tryz.prog Tryz.sl6_ren := {
  mixed := by kernel_rfl
  f6 := Tryz.func180.trans (congrArg some (by kernel_rfl))
  f10 := Tryz.func186.trans (congrArg some (by kernel_rfl))
  f11 := Tryz.func187.trans (congrArg some (by kernel_rfl))
  f12 := Tryz.func188.trans (congrArg some (by kernel_rfl))
  f13 := Tryz.func189.trans (congrArg some (by kernel_rfl))
  f14 := Tryz.func190.trans (congrArg some (by kernel_rfl))
  f24 := Tryz.func203.trans (congrArg some (by kernel_rfl))
  f25 := Tryz.func204.trans (congrArg some (by kernel_rfl))
  f26 := Tryz.func205.trans (congrArg some (by kernel_rfl))
  f27 := Tryz.func206.trans (congrArg some (by kernel_rfl))
  f28 := Tryz.func207.trans (congrArg some (by kernel_rfl))
  f29 := Tryz.func208.trans (congrArg some (by kernel_rfl))
  f30 := Tryz.func209.trans (congrArg some (by kernel_rfl))
  f31 := Tryz.func210.trans (congrArg some (by kernel_rfl))
  f32 := Tryz.func211.trans (congrArg some (by kernel_rfl))
  f33 := Tryz.func212.trans (congrArg some (by kernel_rfl))
  f34 := Tryz.func213.trans (congrArg some (by kernel_rfl))
  f35 := Tryz.func214.trans (congrArg some (by kernel_rfl))
  f36 := Tryz.func215.trans (congrArg some (by kernel_rfl))
  f37 := Tryz.func216.trans (congrArg some (by kernel_rfl))
  f38 := Tryz.func217.trans (congrArg some (by kernel_rfl))
  f39 := Tryz.func218.trans (congrArg some (by kernel_rfl))
  t0 := Tryz.underlying0
  a0 := Tryz.isAgg0
  z0 := Tryz.sizeOf0
  v0 := Tryz.zeroValue0
  i0 := by kernel_rfl
  t3 := Tryz.underlying3
  a3 := Tryz.isAgg3
  z3 := Tryz.sizeOf3
  v3 := Tryz.zeroValue3
  i3 := by kernel_rfl
  t4 := Tryz.underlying4
  a4 := Tryz.isAgg4
  z4 := Tryz.sizeOf4
  v4 := Tryz.zeroValue4
  i4 := by kernel_rfl
  t5 := Tryz.underlying5
  a5 := Tryz.isAgg5
  z5 := Tryz.sizeOf5
  v5 := Tryz.zeroValue5
  i5 := by kernel_rfl
  t9 := Tryz.underlying9
  a9 := Tryz.isAgg9
  z9 := Tryz.sizeOf9
  v9 := Tryz.zeroValue9
  i9 := by kernel_rfl
  t12 := Tryz.underlying12
  a12 := Tryz.isAgg12
  z12 := Tryz.sizeOf12
  v12 := Tryz.zeroValue12
  i12 := by kernel_rfl
  t17 := Tryz.underlying17
  a17 := Tryz.isAgg17
  z17 := Tryz.sizeOf17
  v17 := Tryz.zeroValue17
  i17 := by kernel_rfl
  t20 := Tryz.underlying20
  a20 := Tryz.isAgg20
  z20 := Tryz.sizeOf20
  v20 := Tryz.zeroValue20
  i20 := by kernel_rfl
  t26 := Tryz.underlying71
  a26 := Tryz.isAgg71
  z26 := Tryz.sizeOf71
  v26 := Tryz.zeroValue71
  i26 := by kernel_rfl
  t32 := Tryz.underlying248
  a32 := Tryz.isAgg248
  z32 := Tryz.sizeOf248
  v32 := Tryz.zeroValue248
  i32 := by kernel_rfl
  t33 := Tryz.underlying249
  a33 := Tryz.isAgg249
  z33 := Tryz.sizeOf249
  v33 := Tryz.zeroValue249
  i33 := by kernel_rfl
  t35 := Tryz.underlying251
  a35 := Tryz.isAgg251
  z35 := Tryz.sizeOf251
  v35 := Tryz.zeroValue251
  i35 := by kernel_rfl
  t37 := Tryz.underlying149
  a37 := Tryz.isAgg149
  z37 := Tryz.sizeOf149
  v37 := Tryz.zeroValue149
  i37 := by kernel_rfl
  t41 := Tryz.underlying188
  a41 := Tryz.isAgg188
  z41 := Tryz.sizeOf188
  v41 := Tryz.zeroValue188
  i41 := by kernel_rfl
  t44 := Tryz.underlying258
  a44 := Tryz.isAgg258
  z44 := Tryz.sizeOf258
  v44 := Tryz.zeroValue258
  i44 := by kernel_rfl
  t49 := Tryz.underlying266
  a49 := Tryz.isAgg266
  z49 := Tryz.sizeOf266
  v49 := Tryz.zeroValue266
  i49 := by kernel_rfl
  t51 := Tryz.underlying127
  a51 := Tryz.isAgg127
  z51 := Tryz.sizeOf127
  v51 := Tryz.zeroValue127
  i51 := by kernel_rfl
  t53 := Tryz.underlying269
  a53 := Tryz.isAgg269
  z53 := Tryz.sizeOf269
  v53 := Tryz.zeroValue269
  i53 := by kernel_rfl
  t54 := Tryz.underlying270
  a54 := Tryz.isAgg270
  z54 := Tryz.sizeOf270
  v54 := Tryz.zeroValue270
  i54 := by kernel_rfl
  t58 := Tryz.underlying84
  a58 := Tryz.isAgg84
  z58 := Tryz.sizeOf84
  v58 := Tryz.zeroValue84
  i58 := by kernel_rfl
  t60 := Tryz.underlying275
  a60 := Tryz.isAgg275
  z60 := Tryz.sizeOf275
  v60 := Tryz.zeroValue275
  i60 := by kernel_rfl
  t64 := Tryz.underlying279
  a64 := Tryz.isAgg279
  z64 := Tryz.sizeOf279
  v64 := Tryz.zeroValue279
  i64 := by kernel_rfl
  t66 := Tryz.underlying281
  a66 := Tryz.isAgg281
  z66 := Tryz.sizeOf281
  v66 := Tryz.zeroValue281
  i66 := by kernel_rfl
  t67 := Tryz.underlying47
  a67 := Tryz.isAgg47
  z67 := Tryz.sizeOf47
  v67 := Tryz.zeroValue47
  i67 := by kernel_rfl
  t75 := Tryz.underlying289
  a75 := Tryz.isAgg289
  z75 := Tryz.sizeOf289
  v75 := Tryz.zeroValue289
  i75 := by kernel_rfl
  t76 := Tryz.underlying290
  a76 := Tryz.isAgg290
  z76 := Tryz.sizeOf290
  v76 := Tryz.zeroValue290
  i76 := by kernel_rfl
  t77 := Tryz.underlying291
  a77 := Tryz.isAgg291
  z77 := Tryz.sizeOf291
  v77 := Tryz.zeroValue291
  i77 := by kernel_rfl
  t78 := Tryz.underlying292
  a78 := Tryz.isAgg292
  z78 := Tryz.sizeOf292
  v78 := Tryz.zeroValue292
  i78 := by kernel_rfl
  t79 := Tryz.underlying293
  a79 := Tryz.isAgg293
  z79 := Tryz.sizeOf293
  v79 := Tryz.zeroValue293
  i79 := by kernel_rfl
  t80 := Tryz.underlying294
  a80 := Tryz.isAgg294
  z80 := Tryz.sizeOf294
  v80 := Tryz.zeroValue294
  i80 := by kernel_rfl
  t82 := Tryz.underlying296
  a82 := Tryz.isAgg296
  z82 := Tryz.sizeOf296
  v82 := Tryz.zeroValue296
  i82 := by kernel_rfl }
end Go.Proofs
namespace Go.Pt
instance : Inhabited Nd := ⟨nd0⟩
def ltNd (x y : Nd) : Bool := decide (x.f < y.f)
theorem swo_ltNd : Go.Sort.SWO ltNd where
  irrefl := fun x => by simp [ltNd]
  trans := fun x y z h1 h2 => by simp [ltNd] at *; omega
  ntrans := fun x y z h1 h2 => by simp [ltNd] at *; omega
/-- Two lists in order with the same members are one. -/
theorem asc_eq : ∀ {l m : List Nd}, List.Pairwise (fun x y => x.f < y.f) l → List.Pairwise (fun x y => x.f < y.f) m → l.Perm m → l = m
  | [], m, _, _, h => (List.nil_perm.1 h).symm
  | x :: l, [], _, _, h => by have := h.length_eq; simp at this
  | x :: l, y :: m, h1, h2, h => by
    have e : x = y := by
      rw [List.pairwise_cons] at h1 h2
      have hx := h.mem_iff (a := x)
      have hy := h.mem_iff (a := y)
      simp only [List.mem_cons, true_or, true_iff, iff_true] at hx hy
      rcases hx with e | hx
      · exact e
      · rcases hy with e | hy
        · exact e.symm
        · have := h2.1 x hx; have := h1.1 y hy; omega
    subst e
    rw [asc_eq (List.pairwise_cons.1 h1).2 (List.pairwise_cons.1 h2).2 (List.Perm.cons_inv h)]
theorem FO.pw {N : List Nd} (h : FO N) : List.Pairwise (fun x y => x.f < y.f) N := by
  rw [List.pairwise_iff_getElem]
  intro i j hi hj hij
  exact h.lt (d := j - i - 1) (List.getElem?_eq_getElem hi) (by rw [show i + 1 + (j - i - 1) = j by omega]; exact List.getElem?_eq_getElem hj)
/-- Sorting what is in order changes nothing. -/
theorem sorted_same {N : List Nd} (h : FO N) {d' : Array Nd} (hp : Go.Sort.PermIn 0 N.toArray.size N.toArray d') (hs : Go.Sort.SortedIn ltNd 0 N.toArray.size d') : d' = N.toArray := by
  obtain ⟨h1, _, h3⟩ := hp
  have e1 : (N.toArray.extract 0 N.toArray.size).toList = N := by simp
  have e2 : (d'.extract 0 N.toArray.size).toList = d'.toList := by rw [← h1]; simp
  rw [e1, e2] at h3
  have hnd : (d'.toList.map (·.f)).Nodup := (h3.map (·.f)).nodup_iff.2 h.nd
  have hpw : List.Pairwise (fun x y : Nd => x.f < y.f) d'.toList := by
    rw [List.pairwise_iff_getElem]
    intro i j hi hj hij
    simp only [Array.length_toList] at hi hj
    have hq := hs i j (Nat.zero_le _) hij (by rw [← h1]; exact hj)
    rw [getElem!_pos d' i hi, getElem!_pos d' j hj] at hq
    simp only [ltNd, decide_eq_false_iff_not] at hq
    simp only [Array.getElem_toList]
    have hne : ¬ d'[i].f = d'[j].f := fun e => by
      have hl : (d'.toList.map (fun x : Nd => x.f)).length = d'.size := by simp
      have := (List.getElem_inj (xs := d'.toList.map (fun x : Nd => x.f)) (i := i) (j := j) (h₀ := by rw [hl]; exact hi) (h₁ := by rw [hl]; exact hj) hnd).1 (by simpa using e)
      omega
    omega
  have := asc_eq hpw h.pw h3
  apply Array.ext'
  simpa using this
end Go.Pt
namespace Go.Proofs.YtdddkfpcbfgocaaGreat
open Go.RowKit Go.Over Go.Seg Go.Grow Go.Pt
open Go.Sort (flatK get_flatK size_flatK HoldsK putRowK holdsK_grow holdsK_ahead putRowK_grow putRowK_self holdsK_putRowK cell?_putRowK_other size_putRowK cell?_grow)
noncomputable def ntT : TypeInfo := (Tryz.prog.info? 117).get (by kernel_rfl)
noncomputable def ntE : TypeInfo := (Tryz.prog.info? 183).get (by kernel_rfl)
theorem ntK (n : Nat) (h2 : 2 ≤ n) : Lib.swapperK n ntE 25 = 9 := by
  have a : ntE.hasPointers = false := by kernel_rfl
  have b : ntE.bytes = 72 := by kernel_rfl
  have c : (n == 0) = false := by simp; omega
  have d : (n == 1) = false := by simp; omega
  simp [Lib.swapperK, a, b, c, d]
set_option maxRecDepth 100000 in set_option maxHeartbeats 3200000 in
/-- Which of two nodes is less. -/
theorem lessN (pv gt blk c size : Nat) (W : World) (G : Nat → Int) (hp : W.cell? ⟨pv, 0, none⟩ = some (.pointer (some ⟨gt, 0, none⟩))) (hs : W.cell? ⟨gt, 1, none⟩ = some (.slice (some ⟨blk, 0, none⟩) size c))
    (hc : ∀ t, t < size → W.cell? ⟨blk, t * 9, none⟩ = some (.int .i64 (G t))) (i j : Nat) (hi : i < size) (hj : j < size) :
    Calls Tryz.prog 181 #[.int .i64 i, .int .i64 j, .pointer (some ⟨pv, 0, none⟩)] W fun e w' => e = .returned (.bool (decide (G i < G j))) ∧ ∃ q, w' = W.drewN q := by
  have ci := hc i hi
  have cj := hc j hj
  go_enter Tryz.func181, Tryz.ntmps181
  go_wp2
  go_quiet (fail)
  go_wp2
  go_ret
  exact ⟨rfl, nq, rfl⟩
theorem flatK_nodes (N : List Nd) : flatK ndC 9 N.toArray = (nodesC N).toArray := by
  apply Array.ext'
  apply List.ext_getElem?
  intro q
  have hs : (flatK ndC 9 N.toArray).size = N.length * 9 := by simp
  rcases Nat.lt_or_ge q (N.length * 9) with hq | hq
  · have h1 := get_flatK ndC 9 N.toArray q (by simpa using hq)
    have hl : q < (nodesC N).length := by rw [nodesC_len]; exact hq
    have ha : q / 9 < N.length := by omega
    have h2 := flat_at ndC_len N (q / 9) (q % 9) (by omega)
    rw [show q / 9 * 9 + q % 9 = q by omega, List.getElem?_eq_getElem ha] at h2
    rw [getElem!_pos _ q (by rw [hs]; exact hq)] at h1
    have hq9 : q % 9 < 9 := by omega
    rw [getElem!_pos N.toArray (q / 9) (by simpa using ha), getElem!_pos (ndC _) (q % 9) hq9] at h1
    have h3 : (nodesC N)[q]? = some ((ndC N[q / 9])[q % 9]'hq9) := by
      show (N.flatMap ndC)[q]? = _
      rw [h2]
      exact List.getElem?_eq_getElem _
    show _ = (nodesC N)[q]?
    rw [h3, List.getElem?_eq_getElem (by simpa using hq), Array.getElem_toList]
    exact congrArg some h1
  · rw [List.getElem?_eq_none (by rw [Array.length_toList, hs]; exact hq), List.getElem?_eq_none (by simp [nodesC_len]; exact hq)]
theorem below_growS (w : World) (n : Nat) (os : Array Obj) : Below w.heap.size w (Go.Sort.grow (Go.Sort.ahead w n) os) := by
  refine ⟨rfl, rfl, rfl, by simp [Go.Sort.grow, Go.Sort.ahead], fun k hk => ?_⟩
  simp only [Go.Sort.grow, Go.Sort.ahead]
  rw [Array.getElem?_append_left hk]
theorem OwnN.holds {w : World} {B blk n c : Nat} {N : List Nd} (hO : OwnN w B (.slice (some ⟨blk, 0, none⟩) n c) N) (hn : N.length = n) (h2 : 0 < n) : HoldsK ndC 9 w blk 0 N.toArray := by
  obtain ⟨g, c', zs, hv, _, _, _, hz, hrow⟩ := own_blk hO (by omega)
  cases hv
  intro q hq
  have hs : (flatK ndC 9 N.toArray).size = N.length * 9 := by simp
  rw [hs] at hq
  have hl : q < (nodesC N).length := by rw [nodesC_len]; exact hq
  refine ⟨?_, ?_⟩
  · rw [Nat.zero_add, hz.cell, hrow q _ (List.getElem?_eq_getElem hl)]
    rw [flatK_nodes, getElem!_pos _ q (by simpa using hl)]
    simp
  · rw [Nat.zero_add, hz.frozen]
set_option maxRecDepth 100000 in set_option maxHeartbeats 3200000 in
theorem sortN (pv gt blk c n : Nat) (N : List Nd) (w : World) (hn : N.length = n) (h2 : 2 ≤ n) (hm : n ≤ 100000) (hf : FO N) (B : Nat) (hO : OwnN w B (.slice (some ⟨blk, 0, none⟩) n c) N) (hp : w.cell? ⟨pv, 0, none⟩ = some (.pointer (some ⟨gt, 0, none⟩))) (hs : w.cell? ⟨gt, 1, none⟩ = some (.slice (some ⟨blk, 0, none⟩) n c)) (hpb : pv ≠ blk) (hgb : gt ≠ blk) (hpl : pv < w.heap.size) (hgl : gt < w.heap.size) (hbl : blk < w.heap.size) :
    Calls Tryz.prog 180 #[.iface 117 (.slice (some ⟨blk, 0, none⟩) n c), .func (.func 181) #[] #[.pointer (some ⟨pv, 0, none⟩)]] w fun e w' => e = .returned (.tuple #[]) ∧ Below w.heap.size w w' := by
  have hH := hO.holds hn (by omega)
  have hsz : N.toArray.size = n := by simpa using hn
  have hless : LessReadsK Tryz.prog 181 #[.pointer (some ⟨pv, 0, none⟩)] ndC 9 ltNd blk 0 n w := by
    intro m os dk hds i j hi hj
    have e : sortWorldK ndC 9 w blk 0 m dk os = putRowK ndC 9 (Go.Sort.grow (Go.Sort.ahead w m) os) blk 0 dk := by
      unfold sortWorldK; rw [putRowK_grow _ _ (Go.Sort.ahead w m) _ blk 0 _ hbl]
    have hHg : HoldsK ndC 9 (Go.Sort.grow (Go.Sort.ahead w m) os) blk 0 N.toArray := holdsK_grow _ _ _ _ blk 0 _ hbl (holdsK_ahead _ _ _ _ _ _ _ hH)
    refine lessN pv gt blk c n _ (fun t => dk[t]!.f) ?_ ?_ (fun t ht => ?_) i j hi hj
    · rw [e, cell?_putRowK_other _ _ _ blk 0 dk _ (by exact hpb), cell?_grow _ _ _ (by exact hpl)]; exact hp
    · rw [e, cell?_putRowK_other _ _ _ blk 0 dk _ (by exact hgb), cell?_grow _ _ _ (by exact hgl)]; exact hs
    · have := ((holdsK_putRowK _ _ _ blk 0 N.toArray dk hHg (by rw [hds, hsz])).cell (i := t) (c := 0) (by omega) (by omega)).1
      rw [e]
      rw [Nat.zero_add, Nat.add_zero] at this
      rw [this]
      rfl
  have hS := Any.sort_Slice_cells_sorted Tryz.sl6 117 183 ntT ntE (by kernel_rfl) (by kernel_rfl) (by kernel_rfl) (by kernel_rfl) 25 (fun _ => by kernel_rfl) ndC 9 ndC_len (by kernel_rfl) (fun _ => by kernel_rfl)
    ndC_one ltNd swo_ltNd 181 _ (enters_of Tryz.func181 (by kernel_rfl) rfl) blk 0 c N.toArray (by omega) (by omega) 202 (by rw [hsz, ntK _ h2]; kernel_rfl) false
    (fun args W => run_callFunc_extern Tryz.func202 (by kernel_rfl) (by kernel_rfl) (by kernel_rfl) (e := Extern.ReflectliteSwapper.swap false) (by kernel_rfl) args W) w (by rw [hsz]; exact hless) hH hbl
  rw [hsz] at hS
  refine hS.mono ?_
  rintro e w' ⟨rfl, d', q, os, hpm, hso, rfl⟩
  refine ⟨rfl, ?_⟩
  rw [← hsz] at hpm hso
  rw [sorted_same hf hpm hso, putRowK_self _ _ _ _ _ _ (holdsK_ahead _ _ _ _ _ _ _ hH)]
  exact below_growS w q os
end Go.Proofs.YtdddkfpcbfgocaaGreat
namespace Go.Pt
def ndE (f : Int) : Nd := ⟨f, fun _ => e0⟩
theorem nodesC_snoc (N : List Nd) (x : Nd) : nodesC (N ++ [x]) = nodesC N ++ ndC x := by simp [nodesC]
end Go.Pt
namespace Go.Proofs.YtdddkfpcbfgocaaGreat
open Go.RowKit Go.Over Go.Seg Go.Grow Go.Pt
/-- A page table of a call's own, in a variable. -/
structure PO (w : World) (gt : Nat) (r : Int) (b n c : Nat) (N : List Nd) (W : World) : Prop where
  u : Below w.heap.size w W
  l : w.heap.size ≤ gt
  x : Blk W gt 120 (ptC r b n c)
  o : OwnN W w.heap.size (.slice (some ⟨b, 0, none⟩) n c) N
  ln : N.length = n
section
variable {w W W' : World} {gt b n c : Nat} {r : Int} {N : List Nd}
theorem PO.below (h : PO w gt r b n c N W) (hb : Below W.heap.size W W') : PO w gt r b n c N W' := ⟨below_then h.u hb, h.l, h.x.later hb, h.o.later hb, h.ln⟩
theorem PO.c0 (h : PO w gt r b n c N W) : W.cell? ⟨gt, 0, none⟩ = some (.int .i64 r) := by rw [h.x.cell]; rfl
theorem PO.c1 (h : PO w gt r b n c N W) : W.cell? ⟨gt, 1, none⟩ = some (.slice (some ⟨b, 0, none⟩) n c) := by rw [h.x.cell]; rfl
theorem PO.bl (h : PO w gt r b n c N W) : w.heap.size ≤ b ∧ b < W.heap.size := World.ownsRow.lt h.o b rfl
theorem PO.ne (h : PO w gt r b n c N W) : gt ≠ b := fun e => h.x.not_own h.o (by decide) (by rw [e]; rfl)
/-- A block of another type changes. -/
theorem PO.far {q t : Nat} {cs : List Value} (h : PO w gt r b n c N W) (hB : Blk W q t cs) (h1 : t ≠ 120) (h2 : t ≠ 183) (hq : w.heap.size ≤ q) (hg : W.grownBy W' (some q)) : PO w gt r b n c N W' :=
  ⟨h.u.grown hg h.u.size (fun k hk => by cases hk; exact hq), h.l, h.x.grown hg (by simpa using hB.ne_type h.x h1), World.ownsRow.kept h.o hg (.inr (hB.not_own h.o (Ne.symm h2))), h.ln⟩
/-- The nodes are elsewhere. -/
theorem PO.nodes {b' n' c' : Nat} {N' : List Nd} (h : PO w gt r b n c N W) (ho : OwnN W w.heap.size (.slice (some ⟨b', 0, none⟩) n' c') N') (hn : N'.length = n') : PO w gt r b' n' c' N' (W.setCell ⟨gt, 1, none⟩ (.slice (some ⟨b', 0, none⟩) n' c')) := by
  have hg : W.grownBy (W.setCell ⟨gt, 1, none⟩ (.slice (some ⟨b', 0, none⟩) n' c')) (some gt) := set_grown (refl_grown _ _)
  exact ⟨h.u.grown hg h.u.size (fun k hk => by cases hk; exact h.l), h.l, h.x.set 1 _, World.ownsRow.kept ho hg (.inr (h.x.not_own ho (by decide))), hn⟩
end
section
variable {ops : Array Oper} {rest : List Oper} {d i j : Nat} {ty : TypeId} {pos : String} {af : Array Edge} {a : Act} {w : World} {Q : Exit → Act → World → Prop}
/-- A node is appended. -/
theorem wpList_appN {base b : Nat} {v : Value} {N : List Nd} {x : Nd} (hs : a.eval (.tmp i) = v) (hx : a.eval (.tmp j) = .slice (some ⟨b, 0, none⟩) 1 1) (hO : OwnN w base v N) (hB : Blk w b 183 (ndC x)) (hl : N.length ≤ 900000) (hb : base ≤ w.heap.size)
    (h : ∀ v' w', OwnN w' base v' (N ++ [x]) → w.grownBy w' v.ownBlock → wpList Tryz.prog ops Q rest (a.put (some d) v') w') :
    wpList Tryz.prog ops Q ({ dst := some d, op := .call { callee := .builtin .append, args := #[.tmp i, .tmp j], argTypes := #[117, 117] }, type := ty, pos := pos, after := af, guard := none } :: rest) a w := by
  refine wpList_append_k K117 rfl (.tmp i) (.tmp j) rfl v N.length (nodesC N) hs hO (some ⟨b, 0, none⟩) 1 1 (ndC x) hx ⟨rfl, ndC_one x, .inr ⟨_, rfl, fun k u hk => ?_⟩⟩ (by omega) hb fun v' w' q1 q2 _ => h v' w' ?_ q2
  · rw [add_off, Nat.zero_add, hB.cell]; exact hk
  · unfold OwnN
    rw [nodesC_snoc, List.length_append]
    exact q1
end
/-- What add leaves. -/
def AddAns (w : World) (gt : Nat) (r : Int) (n : Nat) (N : List Nd) (f : Int) (e : Ending) (W' : World) : Prop :=
  ∃ b c, e = .returned (.tuple #[]) ∧ PO w gt r b (n + 1) c (N ++ [ndE f]) W'
def ADS (pv gt b n c : Nat) (U : World) : Prop := U.cell? ⟨pv, 0, none⟩ = some (.pointer (some ⟨gt, 0, none⟩)) ∧ U.cell? ⟨gt, 1, none⟩ = some (.slice (some ⟨b, 0, none⟩) n c)
set_option maxRecDepth 100000 in set_option maxHeartbeats 3200000 in
theorem add (w : World) (gt : Nat) (r : Int) (b n c : Nat) (N : List Nd) (f : Int) (W : World) (H : PO w gt r b n c N W) (hf : FO (N ++ [ndE f])) (h0 : 0 < n) (hm : n ≤ 1000) :
    Calls Tryz.prog 157 #[.pointer (some ⟨gt, 0, none⟩), .int .i64 f] W (AddAns w gt r n N f) := by
  have b0 := below_box W (.cells #[.pointer (some ⟨gt, 0, none⟩)] 195)
  have y0 := Blk.new W 195 #[.pointer (some ⟨gt, 0, none⟩)] _ rfl
  have H1 := H.below b0
  have hwp : w.heap.size ≤ W.heap.size := H.u.size
  have HF := Lib.hid hf
  clear H hf
  go_enter Tryz.func157, Tryz.ntmps157
  go_upto_region 1 with fail
  obtain ⟨w1, hw1⟩ : ∃ V, V = W.alloc (.cells #[.pointer (some ⟨gt, 0, none⟩)] 195) := ⟨_, rfl⟩
  obtain ⟨pv, hpv⟩ : ∃ g, W.heap.size = g := ⟨_, rfl⟩
  rw [← hw1] at H1 y0 ⊢
  rw [hpv] at y0 hwp ⊢
  clear b0 hw1 hpv
  have cp : w1.cell? ⟨pv, 0, none⟩ = some (.pointer (some ⟨gt, 0, none⟩)) := by rw [y0.cell]; rfl
  refine wp_region_stages (ADS pv gt b n c) (.quiet [0, 1, 2, 3, 4, 5, 6] (.only 7 (.only 8 (.only 9 (.only 10 (.brk 11 .done)))))) [11] (by kernel_rfl) (by kernel_rfl) ⟨cp, H1.c1⟩ ?_
  intro W2 hWW hWe
  have bW : Below w1.heap.size w1 W2 := by rw [hWe]; exact (Below.refl _ _).drew
  clear hWe
  have H2 := H1.below bW
  have y2 := y0.later bW
  clear H1 y0 bW cp
  simp only [wpPlan2, inOrder, List.filterMap_cons, List.filterMap_nil, List.getElem?_cons_zero, List.getElem?_cons_succ]
  have q1 := fun z => (hold_ok (S0 := ADS pv gt b n c) hWW z).1
  have q2 := fun z => (hold_ok (S0 := ADS pv gt b n c) hWW z).2
  show wpQuiet _ _ _ _ (_ :: _ :: _ :: _ :: _ :: _ :: [_]) _
  repeat (go_big_quiet_step (fail))
  refine wpQuiet_nil ?_
  clear q1 q2 hWW
  show wpList _ _ _ [_] _ _
  go_wp2_with fail
  have b3 := below_box W2 (.cells #[.int .i64 f, .int .u64 0, .int .u64 0, .int .u64 0, .int .u64 0, .int .u64 0, .int .u64 0, .int .u64 0, .int .u64 0] 183)
  have x3 := Blk.new W2 183 #[.int .i64 f, .int .u64 0, .int .u64 0, .int .u64 0, .int .u64 0, .int .u64 0, .int .u64 0, .int .u64 0, .int .u64 0] (ndC (ndE f)) rfl
  have H3 := H2.below b3
  have y3 := y2.later b3
  obtain ⟨w3, hw3⟩ : ∃ V, V = W2.alloc (.cells #[.int .i64 f, .int .u64 0, .int .u64 0, .int .u64 0, .int .u64 0, .int .u64 0, .int .u64 0, .int .u64 0, .int .u64 0] 183) := ⟨_, rfl⟩
  obtain ⟨g3, hg3⟩ : ∃ g, W2.heap.size = g := ⟨_, rfl⟩
  rw [← hw3] at H3 y3 x3 ⊢
  rw [hg3] at x3 ⊢
  clear b3 hw3 hg3 H2 y2
  have p3 : w3.cell? ⟨pv, 0, none⟩ = some (.pointer (some ⟨gt, 0, none⟩)) := by rw [y3.cell]; rfl
  refine ⟨hold_of ⟨p3, H3.c1⟩, ?_⟩
  clear p3
  have hO3 := H3.o
  have hl3 : N.length ≤ 900000 := by rw [H3.ln]; omega
  have hs3 : w.heap.size ≤ w3.heap.size := H3.u.size
  show wpList _ _ _ [_] _ _
  go_wp2_with ((with_reducible refine wpList_appN (base := w.heap.size) (b := g3) (x := ndE f) ?_ ?_ hO3 x3 hl3 hs3 ?_); (focus rfl); (focus rfl); intro v4 w4 O4 hg4)
  have X4 := H3.x.grown hg4 (H3.x.not_own hO3 (by decide))
  have y4 := y3.grown hg4 (y3.not_own hO3 (by decide))
  have U4 := H3.u.grown hg4 hs3 (fun k hk => by cases hk; exact H3.bl.1)
  have hln : (N ++ [ndE f]).length = n + 1 := by rw [List.length_append, H3.ln]; rfl
  obtain ⟨b4, c4, ns4, rfl, hb4, _⟩ := O4.nv (by omega)
  rw [hln] at O4 ⊢
  have L4 := H3.l
  have p4 : w4.cell? ⟨pv, 0, none⟩ = some (.pointer (some ⟨gt, 0, none⟩)) := by rw [y4.cell]; rfl
  have t4 : w4.cell? ⟨gt, 1, none⟩ = some (.slice (some ⟨b, 0, none⟩) n c) := by rw [X4.cell]; rfl
  have f4 := X4.frozen 1
  have P4 : PO w gt r b4 (n + 1) c4 (N ++ [ndE f]) (w4.setCell ⟨gt, 1, none⟩ (.slice (some ⟨b4, 0, none⟩) (n + 1) c4)) := by
    have hg : w4.grownBy (w4.setCell ⟨gt, 1, none⟩ (.slice (some ⟨b4, 0, none⟩) (n + 1) c4)) (some gt) := set_grown (refl_grown _ _)
    exact ⟨U4.grown hg U4.size (fun k hk => by cases hk; exact L4), L4, X4.set 1 _, World.ownsRow.kept O4 hg (.inr (X4.not_own O4 (by decide))), hln⟩
  have y5 : Blk (w4.setCell ⟨gt, 1, none⟩ (.slice (some ⟨b4, 0, none⟩) (n + 1) c4)) pv 195 [.pointer (some ⟨gt, 0, none⟩)] := y4.far (p := ⟨gt, 1, none⟩) (by simpa using y4.ne_type X4 (by decide)) _
  have hnx := y4.ne_type X4 (by decide)
  clear H3 y3 x3 hO3 hl3 hs3 hg4 U4 O4
  refine ⟨hold_of ⟨p4, t4⟩, ?_⟩
  show wpList _ _ _ [_] _ _
  go_wp2
  refine ⟨hold_of ⟨p4, t4⟩, ?_⟩
  show wpList _ _ _ [_] _ _
  go_wp2
  refine ⟨hold_of ⟨p4, t4⟩, ?_⟩
  show wpList _ _ _ [_] _ _
  go_wp2
  refine ⟨trivial, ?_⟩
  refine NoPanic.normal ?_
  obtain ⟨w5, hw5⟩ : ∃ V, V = w4.setCell ⟨gt, 1, none⟩ (.slice (some ⟨b4, 0, none⟩) (n + 1) c4) := ⟨_, rfl⟩
  rw [← hw5] at P4 y5 ⊢
  clear hw5 p4 t4 f4 y4 X4
  have p5 : w5.cell? ⟨pv, 0, none⟩ = some (.pointer (some ⟨gt, 0, none⟩)) := by rw [y5.cell]; rfl
  have t5 := P4.c1
  have HSO := Lib.hid (sortN pv gt b4 c4 (n + 1) _ w5 hln (by omega) (by omega) HF.out _ P4.o p5 t5 (fun e => y5.not_own P4.o (by decide) (by rw [e]; rfl)) P4.ne y5.lt P4.x.lt P4.bl.2)
  clear hln
  go_wp2_with fail
  refine HSO.out.mono ?_
  rintro e w6 ⟨rfl, b6⟩
  have P6 := P4.below b6
  clear HSO P4 b6 p5 t5 y5
  go_wp2
  refine bodyPost_end (results_none rfl _ _ _) rfl ?_
  exact ⟨b4, c4, rfl, P6⟩
end Go.Proofs.YtdddkfpcbfgocaaGreat
namespace Go.Pt
/-- An entry of a node is written. -/
def ndSet (x : Nd) (j : Nat) (e : En) : Nd := ⟨x.f, fun i => if i = j then e else x.e i⟩
/-- An entry of the node of a frame is written. -/
def setF (N : List Nd) (fr : Int) (j : Nat) (e : En) : List Nd := N.map fun x => if x.f = fr then ndSet x j e else x
def upd {α : Type} (g : Nat → α) (i : Nat) (v : α) : Nat → α := fun j => if j = i then v else g j
theorem upd_self {α : Type} (g : Nat → α) (i : Nat) (v : α) : upd g i v i = v := by simp [upd]
theorem upd_ne {α : Type} (g : Nat → α) {i j : Nat} (v : α) (h : j ≠ i) : upd g i v j = g j := by simp [upd, h]
theorem setF_f (N : List Nd) (fr : Int) (j : Nat) (e : En) : (setF N fr j e).map (·.f) = N.map (·.f) := by
  unfold setF
  rw [List.map_map]
  refine List.map_congr_left fun x _ => ?_
  show (if x.f = fr then ndSet x j e else x).f = x.f
  split <;> rfl
theorem setF_mem {N : List Nd} {fr : Int} {j : Nat} {e : En} {x : Nd} (h : x ∈ setF N fr j e) : ∃ y ∈ N, x.f = y.f ∧ ((y.f = fr ∧ x = ndSet y j e) ∨ (¬ y.f = fr ∧ x = y)) := by
  obtain ⟨y, hy, rfl⟩ := List.mem_map.1 h
  refine ⟨y, hy, ?_, ?_⟩
  · split <;> rfl
  · by_cases h1 : y.f = fr
    · exact .inl ⟨h1, by rw [if_pos h1]⟩
    · exact .inr ⟨h1, by rw [if_neg h1]⟩
theorem mem_setF {N : List Nd} {fr : Int} {j : Nat} {e : En} {y : Nd} (hy : y ∈ N) : (y.f = fr → ndSet y j e ∈ setF N fr j e) ∧ (¬ y.f = fr → y ∈ setF N fr j e) :=
  ⟨fun h => List.mem_map.2 ⟨y, hy, by rw [if_pos h]⟩, fun h => List.mem_map.2 ⟨y, hy, by rw [if_neg h]⟩⟩
theorem setF_len (N : List Nd) (fr : Int) (j : Nat) (e : En) : (setF N fr j e).length = N.length := by simp [setF]
theorem FO.of {N : List Nd} (h1 : ∀ x ∈ N, 0 ≤ x.f ∧ x.f ≤ 4294967295) (h2 : List.Pairwise (· < ·) (N.map (·.f))) : FO N := by
  refine ⟨fun i x hx => h1 x (List.mem_of_getElem? hx), fun i x y hx hy => ?_⟩
  rw [List.pairwise_map, List.pairwise_iff_getElem] at h2
  rw [List.getElem?_eq_some_iff] at hx hy
  have := h2 i (i + 1) hx.1 hy.1 (by omega)
  rw [hx.2, hy.2] at this
  exact this
theorem FO.pwf {N : List Nd} (h : FO N) : List.Pairwise (· < ·) (N.map (·.f)) := by
  rw [List.pairwise_map]; exact h.pw
theorem FO.setF {N : List Nd} (h : FO N) (fr : Int) (j : Nat) (e : En) : FO (Pt.setF N fr j e) := by
  refine FO.of (fun x hx => ?_) (by rw [setF_f]; exact h.pwf)
  obtain ⟨y, hy, he, _⟩ := setF_mem hx
  rw [he]; exact h.mem hy
theorem FO.snoc {N : List Nd} (h : FO N) {x : Nd} (h0 : 0 ≤ x.f ∧ x.f ≤ 4294967295) (hx : ∀ y ∈ N, y.f < x.f) : FO (N ++ [x]) := by
  refine FO.of (fun y hy => ?_) ?_
  · rcases List.mem_append.1 hy with hy | hy
    · exact h.mem hy
    · rw [List.mem_singleton.1 hy]; exact h0
  · rw [List.map_append, List.pairwise_append]
    refine ⟨h.pwf, by simp, fun a ha b hb => ?_⟩
    obtain ⟨y, hy, rfl⟩ := List.mem_map.1 ha
    simp at hb
    rw [hb]; exact hx y hy
theorem FO.filter {N : List Nd} (h : FO N) (p : Nd → Bool) : FO (N.filter p) := by
  refine FO.of (fun x hx => h.mem (List.mem_filter.1 hx).1) ?_
  rw [List.pairwise_map]
  exact h.pw.filter p
/-- One node alone bears a frame. -/
theorem FO.uniq {N : List Nd} (h : FO N) {x y : Nd} (hx : x ∈ N) (hy : y ∈ N) (he : x.f = y.f) : x = y := by
  obtain ⟨i, hi⟩ := List.getElem?_of_mem hx
  obtain ⟨j, hj⟩ := List.getElem?_of_mem hy
  exact (h.one hi hj he).2
theorem set_setF {N : List Nd} (h : FO N) {a : Nat} {x : Nd} (ha : N[a]? = some x) (j : Nat) (e : En) : N.set a (ndSet x j e) = setF N x.f j e := by
  apply List.ext_getElem?
  intro i
  unfold setF
  rw [List.getElem?_map, List.getElem?_set]
  have hl : a < N.length := by rw [List.getElem?_eq_some_iff] at ha; exact ha.1
  by_cases hi : a = i
  · subst hi
    rw [if_pos rfl, if_pos hl, ha]
    simp
  · rw [if_neg hi]
    cases hy : N[i]? with
    | none => rfl
    | some y =>
      have : ¬ y.f = x.f := fun e' => hi (h.one hy ha e').1.symm
      simp [this]
section
variable {r : Int} {N : List Nd} {mid low : Nat → Option Int} {ent : Nat → En}
theorem Tr.frM (h : Tr r N mid low ent) {i : Nat} {f : Int} (hi : i < 8) (hm : mid i = some f) : ∃ x ∈ N, x.f = f := by
  obtain ⟨x, hx, h1, _⟩ := h.md i f hi hm; exact ⟨x, hx, h1⟩
theorem Tr.frL (h : Tr r N mid low ent) {k : Nat} {f : Int} (hk : k < 64) (hm : low k = some f) : ∃ x ∈ N, x.f = f := by
  obtain ⟨x, hx, h1, _⟩ := h.lw k f hk hm; exact ⟨x, hx, h1⟩
theorem Tr.frR (h : Tr r N mid low ent) : ∃ x ∈ N, x.f = r := by
  obtain ⟨x, hx, h1, _⟩ := h.root; exact ⟨x, hx, h1⟩
theorem Tr.none_ent (h : Tr r N mid low ent) {p : Nat} (hp : p < 512) (hl : low (p / 8) = none) : ent p = e0 := by
  have hk : (ent p).k = 0 := by
    rcases h.pg p hp with h2 | h2
    · exact h2
    · exact absurd hl (h.up2 p hp (by omega))
  have hv := (h.ve p hp).none hk
  cases he : ent p with
  | mk k n b => rw [he] at hk hv; simp only at hk hv; rw [hk, hv.1, hv.2]; rfl
theorem Tr.none_low (h : Tr r N mid low ent) {k : Nat} (hk : k < 64) (hm : mid (k / 8) = none) : low k = none := by
  cases he : low k with
  | none => rfl
  | some f => exact absurd hm (h.up1 k hk (by rw [he]; simp))
/-- A table of level 1 is added. -/
theorem Tr.addMid (h : Tr r N mid low ent) {i : Nat} {f : Int} (hi : i < 8) (hm : mid i = none) (hf : 0 ≤ f ∧ f ≤ 4294967295) (hnew : ∀ x ∈ N, x.f < f) :
    Tr r (setF N r i ⟨4, f, false⟩ ++ [ndE f]) (upd mid i (some f)) low ent := by
  have hfne : ∀ x ∈ N, x.f ≠ f := fun x hx => by have := hnew x hx; omega
  have hfM : ∀ j, j < 8 → mid j ≠ some f := fun j hj e => by obtain ⟨x, hx, e2⟩ := h.frM hj e; exact hfne x hx e2
  have hfL : ∀ j, j < 64 → low j ≠ some f := fun j hj e => by obtain ⟨x, hx, e2⟩ := h.frL hj e; exact hfne x hx e2
  have hrf : r ≠ f := by obtain ⟨x, hx, e⟩ := h.frR; rw [← e]; exact hfne x hx
  have keep : ∀ x ∈ N, x.f ≠ r → x ∈ setF N r i ⟨4, f, false⟩ ++ [ndE f] := fun x hx hne => List.mem_append.2 (.inl ((mem_setF hx).2 hne))
  have hup : ∀ {j g}, upd mid i (some f) j = some g → (j = i ∧ g = f) ∨ (j ≠ i ∧ mid j = some g) := fun {j g} e => by
    by_cases hj : j = i
    · subst hj; rw [upd_self] at e; exact .inl ⟨rfl, (Option.some.inj e).symm⟩
    · rw [upd_ne _ _ hj] at e; exact .inr ⟨hj, e⟩
  refine ⟨(h.fo.setF _ _ _).snoc hf fun y hy => ?_, ?_, fun j g hj hg => ?_, fun k g hk hg => ?_, fun x hx => ?_, fun k hk hl => ?_, h.up2, h.ve, h.pg, fun j k g hj hk h1 h2 => ?_, h.d2, fun j k g hj hk h1 => ?_, fun j hj h1 => ?_, h.d5⟩
  · obtain ⟨z, hz, he, _⟩ := setF_mem hy
    rw [he]; exact hnew z hz
  · obtain ⟨x, hx, h1, h2⟩ := h.root
    refine ⟨ndSet x i ⟨4, f, false⟩, List.mem_append.2 (.inl ((mem_setF hx).1 h1)), h1, fun j hj => ?_⟩
    show (if j = i then _ else x.e j) = _
    by_cases hji : j = i
    · subst hji; rw [if_pos rfl, upd_self]; rfl
    · rw [if_neg hji, upd_ne _ _ hji]; exact h2 j hj
  · rcases hup hg with ⟨rfl, rfl⟩ | ⟨hne, hg⟩
    · refine ⟨ndE g, by simp, rfl, fun k hk => ?_⟩
      rw [h.none_low (k := 8 * j + k) (by omega) (by rw [show (8 * j + k) / 8 = j by omega]; exact hm)]; rfl
    · obtain ⟨x, hx, h1, h2⟩ := h.md j g hj hg
      exact ⟨x, keep x hx (by rw [h1]; exact fun e => h.d4 j hj (by rw [hg, e])), h1, h2⟩
  · obtain ⟨x, hx, h1, h2⟩ := h.lw k g hk hg
    exact ⟨x, keep x hx (by rw [h1]; exact fun e => h.d5 k hk (by rw [hg, e])), h1, h2⟩
  · rcases List.mem_append.1 hx with hx | hx
    · obtain ⟨y, hy, he, _⟩ := setF_mem hx
      rw [he]
      rcases h.all y hy with h1 | ⟨j, hj, h1⟩ | h1
      · exact .inl h1
      · exact .inr (.inl ⟨j, hj, by rw [upd_ne _ _ (fun e => by rw [e, hm] at h1; cases h1)]; exact h1⟩)
      · exact .inr (.inr h1)
    · rw [List.mem_singleton.1 hx]
      exact .inr (.inl ⟨i, hi, upd_self _ _ _⟩)
  · by_cases e : k / 8 = i
    · rw [e, upd_self]; simp
    · rw [upd_ne _ _ e]; exact h.up1 k hk hl
  · rcases hup h1 with ⟨rfl, rfl⟩ | ⟨_, g1⟩ <;> rcases hup h2 with ⟨rfl, h3⟩ | ⟨_, g2⟩
    · rfl
    · exact absurd g2 (hfM k hk)
    · exact absurd g1 (by rw [h3]; exact hfM j hj)
    · exact h.d1 j k g hj hk g1 g2
  · rcases hup h1 with ⟨rfl, rfl⟩ | ⟨_, g1⟩
    · exact hfL k hk
    · exact h.d3 j k g hj hk g1
  · rcases hup h1 with ⟨_, h3⟩ | ⟨_, g1⟩
    · exact hrf h3
    · exact h.d4 j hj g1
/-- A table of level 0 is added. -/
theorem Tr.addLow (h : Tr r N mid low ent) {k : Nat} {f fm : Int} (hk : k < 64) (hm : mid (k / 8) = some fm) (hl : low k = none) (hf : 0 ≤ f ∧ f ≤ 4294967295) (hnew : ∀ x ∈ N, x.f < f) :
    Tr r (setF N fm (k % 8) ⟨4, f, false⟩ ++ [ndE f]) mid (upd low k (some f)) ent := by
  have hfne : ∀ x ∈ N, x.f ≠ f := fun x hx => by have := hnew x hx; omega
  have hfM : ∀ j, j < 8 → mid j ≠ some f := fun j hj e => by obtain ⟨x, hx, e2⟩ := h.frM hj e; exact hfne x hx e2
  have hfL : ∀ j, j < 64 → low j ≠ some f := fun j hj e => by obtain ⟨x, hx, e2⟩ := h.frL hj e; exact hfne x hx e2
  have hrf : r ≠ f := by obtain ⟨x, hx, e⟩ := h.frR; rw [← e]; exact hfne x hx
  have hrm : r ≠ fm := fun e => h.d4 (k / 8) (by omega) (by rw [hm, e])
  have keep : ∀ x ∈ N, x.f ≠ fm → x ∈ setF N fm (k % 8) ⟨4, f, false⟩ ++ [ndE f] := fun x hx hne => List.mem_append.2 (.inl ((mem_setF hx).2 hne))
  have hup : ∀ {j g}, upd low k (some f) j = some g → (j = k ∧ g = f) ∨ (j ≠ k ∧ low j = some g) := fun {j g} e => by
    by_cases hj : j = k
    · subst hj; rw [upd_self] at e; exact .inl ⟨rfl, (Option.some.inj e).symm⟩
    · rw [upd_ne _ _ hj] at e; exact .inr ⟨hj, e⟩
  refine ⟨(h.fo.setF _ _ _).snoc hf fun y hy => ?_, ?_, fun j g hj hg => ?_, fun j g hj hg => ?_, fun x hx => ?_, fun j hj hl2 => ?_, fun p hp hep => ?_, h.ve, h.pg, h.d1, fun i j g hi hj h1 h2 => ?_, fun i j g hi hj h1 h2 => ?_, h.d4, fun j hj h1 => ?_⟩
  · obtain ⟨z, hz, he, _⟩ := setF_mem hy
    rw [he]; exact hnew z hz
  · obtain ⟨x, hx, h1, h2⟩ := h.root
    exact ⟨x, keep x hx (by rw [h1]; exact hrm), h1, h2⟩
  · obtain ⟨x, hx, h1, h2⟩ := h.md j g hj hg
    by_cases e : g = fm
    · obtain rfl : j = k / 8 := h.d1 j (k / 8) g hj (by omega) hg (by rw [hm, e])
      refine ⟨ndSet x (k % 8) ⟨4, f, false⟩, List.mem_append.2 (.inl ((mem_setF hx).1 (by rw [h1, e]))), h1, fun i hi => ?_⟩
      show (if i = k % 8 then _ else x.e i) = _
      by_cases hik : i = k % 8
      · rw [if_pos hik, show 8 * (k / 8) + i = k by omega, upd_self]; rfl
      · rw [if_neg hik, upd_ne _ _ (by omega)]; exact h2 i hi
    · refine ⟨x, keep x hx (by rw [h1]; exact e), h1, fun i hi => ?_⟩
      rw [upd_ne]
      · exact h2 i hi
      · intro e2
        have hj2 : j = k / 8 := by omega
        rw [hj2, hm] at hg
        exact e (Option.some.inj hg).symm
  · rcases hup hg with ⟨rfl, rfl⟩ | ⟨hne, hg⟩
    · refine ⟨ndE g, by simp, rfl, fun i hi => ?_⟩
      rw [h.none_ent (p := 8 * j + i) (by omega) (by rw [show (8 * j + i) / 8 = j by omega]; exact hl)]; rfl
    · obtain ⟨x, hx, h1, h2⟩ := h.lw j g hj hg
      exact ⟨x, keep x hx (by rw [h1]; exact fun e => h.d3 (k / 8) j fm (by omega) hj hm (by rw [hg, e])), h1, h2⟩
  · rcases List.mem_append.1 hx with hx | hx
    · obtain ⟨y, hy, he, _⟩ := setF_mem hx
      rw [he]
      rcases h.all y hy with h1 | h1 | ⟨j, hj, h1⟩
      · exact .inl h1
      · exact .inr (.inl h1)
      · exact .inr (.inr ⟨j, hj, by rw [upd_ne _ _ (fun e => by rw [e, hl] at h1; cases h1)]; exact h1⟩)
    · rw [List.mem_singleton.1 hx]
      exact .inr (.inr ⟨k, hk, upd_self _ _ _⟩)
  · by_cases e : j = k
    · subst e; rw [hm]; simp
    · rw [upd_ne _ _ e] at hl2; exact h.up1 j hj hl2
  · have := h.up2 p hp hep
    by_cases e : p / 8 = k
    · rw [e, hl] at this; exact absurd rfl this
    · rw [upd_ne _ _ e]; exact this
  · rcases hup h1 with ⟨rfl, rfl⟩ | ⟨_, g1⟩ <;> rcases hup h2 with ⟨rfl, h3⟩ | ⟨_, g2⟩
    · rfl
    · exact absurd g2 (hfL j hj)
    · exact absurd g1 (by rw [h3]; exact hfL i hi)
    · exact h.d2 i j g hi hj g1 g2
  · rcases hup h2 with ⟨rfl, rfl⟩ | ⟨_, g2⟩
    · exact hfM i hi h1
    · exact h.d3 i j g hi hj h1 g2
  · rcases hup h1 with ⟨_, h3⟩ | ⟨_, g1⟩
    · exact hrf h3
    · exact h.d5 j hj g1
/-- The entry of a page is written. -/
theorem Tr.put (h : Tr r N mid low ent) {p : Nat} {f : Int} {E : En} (hp : p < 512) (hl : low (p / 8) = some f) (hE : VE E) (hk : E.k = 0 ∨ E.k = 1) : Tr r (setF N f (p % 8) E) mid low (upd ent p E) := by
  have hrf : r ≠ f := fun e => h.d5 (p / 8) (by omega) (by rw [hl, e])
  have keep : ∀ x ∈ N, x.f ≠ f → x ∈ setF N f (p % 8) E := fun x hx hne => (mem_setF hx).2 hne
  refine ⟨h.fo.setF _ _ _, ?_, fun j g hj hg => ?_, fun j g hj hg => ?_, fun x hx => ?_, h.up1, fun q hq hep => ?_, fun q hq => ?_, fun q hq => ?_, h.d1, h.d2, h.d3, h.d4, h.d5⟩
  · obtain ⟨x, hx, h1, h2⟩ := h.root
    exact ⟨x, keep x hx (by rw [h1]; exact hrf), h1, h2⟩
  · obtain ⟨x, hx, h1, h2⟩ := h.md j g hj hg
    exact ⟨x, keep x hx (by rw [h1]; exact fun e => h.d3 j (p / 8) g hj (by omega) hg (by rw [hl, e])), h1, h2⟩
  · obtain ⟨x, hx, h1, h2⟩ := h.lw j g hj hg
    by_cases e : g = f
    · obtain rfl : j = p / 8 := h.d2 j (p / 8) g hj (by omega) hg (by rw [hl, e])
      refine ⟨ndSet x (p % 8) E, (mem_setF hx).1 (by rw [h1, e]), h1, fun i hi => ?_⟩
      show (if i = p % 8 then _ else x.e i) = _
      by_cases hik : i = p % 8
      · rw [if_pos hik, show 8 * (p / 8) + i = p by omega, upd_self]
      · rw [if_neg hik, upd_ne _ _ (by omega)]; exact h2 i hi
    · refine ⟨x, keep x hx (by rw [h1]; exact e), h1, fun i hi => ?_⟩
      rw [upd_ne]
      · exact h2 i hi
      · intro e2
        have hj2 : j = p / 8 := by omega
        rw [hj2, hl] at hg
        exact e (Option.some.inj hg).symm
  · obtain ⟨y, hy, he, _⟩ := setF_mem hx
    rw [he]; exact h.all y hy
  · by_cases e : q = p
    · subst e; rw [hl]; simp
    · rw [upd_ne _ _ e] at hep; exact h.up2 q hq hep
  · by_cases e : q = p
    · subst e; rw [upd_self]; exact hE
    · rw [upd_ne _ _ e]; exact h.ve q hq
  · by_cases e : q = p
    · subst e; rw [upd_self]; exact hk
    · rw [upd_ne _ _ e]; exact h.pg q hq
/-- An empty table of level 0 is removed. -/
theorem Tr.cutLow (h : Tr r N mid low ent) {k : Nat} {f fm : Int} (hk : k < 64) (hm : mid (k / 8) = some fm) (hl : low k = some f) (hz : ∀ j, j < 8 → (ent (8 * k + j)).k = 0) :
    Tr r ((setF N fm (k % 8) e0).filter fun x => decide (x.f ≠ f)) mid (upd low k none) ent := by
  have hfm : fm ≠ f := fun e => h.d3 (k / 8) k fm (by omega) hk hm (by rw [hl, e])
  have hrf : r ≠ f := fun e => h.d5 k hk (by rw [hl, e])
  have hrm : r ≠ fm := fun e => h.d4 (k / 8) (by omega) (by rw [hm, e])
  have keep : ∀ x ∈ N, x.f ≠ fm → x.f ≠ f → x ∈ (setF N fm (k % 8) e0).filter fun x => decide (x.f ≠ f) := fun x hx hne h2 => List.mem_filter.2 ⟨(mem_setF hx).2 hne, by simpa using h2⟩
  have hup : ∀ {j g}, upd low k none j = some g → j ≠ k ∧ low j = some g := fun {j g} e => by
    by_cases hj : j = k
    · subst hj; rw [upd_self] at e; cases e
    · rw [upd_ne _ _ hj] at e; exact ⟨hj, e⟩
  refine ⟨(h.fo.setF _ _ _).filter _, ?_, fun j g hj hg => ?_, fun j g hj hg => ?_, fun x hx => ?_, fun j hj hl2 => ?_, fun p hp hep => ?_, h.ve, h.pg, h.d1, fun i j g hi hj h1 h2 => h.d2 i j g hi hj (hup h1).2 (hup h2).2, fun i j g hi hj h1 h2 => h.d3 i j g hi hj h1 (hup h2).2, h.d4, fun j hj h1 => h.d5 j hj (hup h1).2⟩
  · obtain ⟨x, hx, h1, h2⟩ := h.root
    exact ⟨x, keep x hx (by rw [h1]; exact hrm) (by rw [h1]; exact hrf), h1, h2⟩
  · obtain ⟨x, hx, h1, h2⟩ := h.md j g hj hg
    by_cases e : g = fm
    · obtain rfl : j = k / 8 := h.d1 j (k / 8) g hj (by omega) hg (by rw [hm, e])
      refine ⟨ndSet x (k % 8) e0, List.mem_filter.2 ⟨(mem_setF hx).1 (by rw [h1, e]), by show decide (x.f ≠ f) = true; rw [h1, e]; simpa using hfm⟩, h1, fun i hi => ?_⟩
      show (if i = k % 8 then _ else x.e i) = _
      by_cases hik : i = k % 8
      · rw [if_pos hik, show 8 * (k / 8) + i = k by omega, upd_self]; rfl
      · rw [if_neg hik, upd_ne _ _ (by omega)]; exact h2 i hi
    · refine ⟨x, keep x hx (by rw [h1]; exact e) (by rw [h1]; exact fun e2 => h.d3 j k g hj hk hg (by rw [hl, e2])), h1, fun i hi => ?_⟩
      rw [upd_ne]
      · exact h2 i hi
      · intro e2
        have hj2 : j = k / 8 := by omega
        rw [hj2, hm] at hg
        exact e (Option.some.inj hg).symm
  · obtain ⟨hne, hg⟩ := hup hg
    obtain ⟨x, hx, h1, h2⟩ := h.lw j g hj hg
    exact ⟨x, keep x hx (by rw [h1]; exact fun e => h.d3 (k / 8) j fm (by omega) hj hm (by rw [hg, e])) (by rw [h1]; exact fun e => hne (h.d2 j k g hj hk hg (by rw [hl, e]))), h1, h2⟩
  · obtain ⟨hx, hxf⟩ := List.mem_filter.1 hx
    obtain ⟨y, hy, he, _⟩ := setF_mem hx
    have hxf : x.f ≠ f := by simpa using hxf
    rw [he] at hxf ⊢
    rcases h.all y hy with h1 | h1 | ⟨j, hj, h1⟩
    · exact .inl h1
    · exact .inr (.inl h1)
    · exact .inr (.inr ⟨j, hj, by rw [upd_ne _ _ (fun e => by rw [e, hl] at h1; exact hxf (Option.some.inj h1).symm)]; exact h1⟩)
  · by_cases e : j = k
    · subst e; rw [hm]; simp
    · rw [upd_ne _ _ e] at hl2; exact h.up1 j hj hl2
  · by_cases e : p / 8 = k
    · have := hz (p % 8) (by omega)
      rw [show 8 * k + p % 8 = p by omega] at this
      exact absurd this hep
    · rw [upd_ne _ _ e]; exact h.up2 p hp hep
/-- An empty table of level 1 is removed. -/
theorem Tr.cutMid (h : Tr r N mid low ent) {i : Nat} {f : Int} (hi : i < 8) (hm : mid i = some f) (hz : ∀ j, j < 8 → low (8 * i + j) = none) :
    Tr r ((setF N r i e0).filter fun x => decide (x.f ≠ f)) (upd mid i none) low ent := by
  have hrf : r ≠ f := fun e => h.d4 i hi (by rw [hm, e])
  have keep : ∀ x ∈ N, x.f ≠ r → x.f ≠ f → x ∈ (setF N r i e0).filter fun x => decide (x.f ≠ f) := fun x hx hne h2 => List.mem_filter.2 ⟨(mem_setF hx).2 hne, by simpa using h2⟩
  have hup : ∀ {j g}, upd mid i none j = some g → j ≠ i ∧ mid j = some g := fun {j g} e => by
    by_cases hj : j = i
    · subst hj; rw [upd_self] at e; cases e
    · rw [upd_ne _ _ hj] at e; exact ⟨hj, e⟩
  refine ⟨(h.fo.setF _ _ _).filter _, ?_, fun j g hj hg => ?_, fun k g hk hg => ?_, fun x hx => ?_, fun k hk hl => ?_, h.up2, h.ve, h.pg, fun j k g hj hk h1 h2 => h.d1 j k g hj hk (hup h1).2 (hup h2).2, h.d2, fun j k g hj hk h1 => h.d3 j k g hj hk (hup h1).2, fun j hj h1 => h.d4 j hj (hup h1).2, h.d5⟩
  · obtain ⟨x, hx, h1, h2⟩ := h.root
    refine ⟨ndSet x i e0, List.mem_filter.2 ⟨(mem_setF hx).1 h1, by show decide (x.f ≠ f) = true; rw [h1]; simpa using hrf⟩, h1, fun j hj => ?_⟩
    show (if j = i then _ else x.e j) = _
    by_cases hji : j = i
    · subst hji; rw [if_pos rfl, upd_self]; rfl
    · rw [if_neg hji, upd_ne _ _ hji]; exact h2 j hj
  · obtain ⟨hne, hg⟩ := hup hg
    obtain ⟨x, hx, h1, h2⟩ := h.md j g hj hg
    exact ⟨x, keep x hx (by rw [h1]; exact fun e => h.d4 j hj (by rw [hg, e])) (by rw [h1]; exact fun e => hne (h.d1 j i g hj hi hg (by rw [hm, e]))), h1, h2⟩
  · obtain ⟨x, hx, h1, h2⟩ := h.lw k g hk hg
    exact ⟨x, keep x hx (by rw [h1]; exact fun e => h.d5 k hk (by rw [hg, e])) (by rw [h1]; exact fun e => h.d3 i k f hi hk hm (by rw [hg, e])), h1, h2⟩
  · obtain ⟨hx, hxf⟩ := List.mem_filter.1 hx
    obtain ⟨y, hy, he, _⟩ := setF_mem hx
    have hxf : x.f ≠ f := by simpa using hxf
    rw [he] at hxf ⊢
    rcases h.all y hy with h1 | ⟨j, hj, h1⟩ | h1
    · exact .inl h1
    · exact .inr (.inl ⟨j, hj, by rw [upd_ne _ _ (fun e => by rw [e, hm] at h1; exact hxf (Option.some.inj h1).symm)]; exact h1⟩)
    · exact .inr (.inr h1)
  · by_cases e : k / 8 = i
    · have := hz (k % 8) (by omega)
      rw [show 8 * i + k % 8 = k by omega] at this
      exact absurd this hl
    · rw [upd_ne _ _ e]; exact h.up1 k hk hl
theorem setF_filter (N : List Nd) (fr : Int) (j : Nat) (e : En) (p : Int → Bool) : (setF N fr j e).filter (fun x => p x.f) = setF (N.filter fun x => p x.f) fr j e := by
  unfold setF
  rw [List.filter_map]
  congr 1
  refine List.filter_congr fun x _ => ?_
  show p (if x.f = fr then ndSet x j e else x).f = p x.f
  split <;> rfl
end
end Go.Pt
namespace Go.Pt
theorem ndC_set (x : Nd) {j : Nat} (e : En) (hj : j < 8) : ndC (ndSet x j e) = (ndC x).set (1 + j) (.int .u64 (wd e)) := by
  match j, hj with
  | 0, _ => rfl
  | 1, _ => rfl
  | 2, _ => rfl
  | 3, _ => rfl
  | 4, _ => rfl
  | 5, _ => rfl
  | 6, _ => rfl
  | 7, _ => rfl
end Go.Pt
namespace Go.Proofs.YtdddkfpcbfgocaaGreat
open Go.RowKit Go.Over Go.Seg Go.Grow Go.Pt
theorem OwnN.word {w : World} {B b n c a j : Nat} {N : List Nd} {x : Nd} {e : En} (h : OwnN w B (.slice (some ⟨b, 0, none⟩) n c) N) (hn : N.length = n) (hx : N[a]? = some x) (hj : j < 8) : OwnN (w.setCell ⟨b, a * 9 + 1 + j, none⟩ (.int .u64 (wd e))) B (.slice (some ⟨b, 0, none⟩) n c) (N.set a (ndSet x j e)) := by
  unfold OwnN at h ⊢
  rw [hn] at h
  have hl : (N.set a (ndSet x j e)).length = n := by simpa using hn
  rw [hl]
  have h1 := World.ownsRow.stored h (a * 9 + (1 + j)) (.int .u64 (wd e))
  rw [show nodesC (N.set a (ndSet x j e)) = (nodesC N).set (a * 9 + (1 + j)) (.int .u64 (wd e)) from (flat_set (by decide) ndC_len hx (by omega) (ndC_set x e hj)).symm, Nat.add_assoc]
  exact h1.1
/-- A word of the nodes is written. -/
theorem PO.word {w W : World} {gt b n c a j : Nat} {r : Int} {N : List Nd} {x : Nd} {e : En} (h : PO w gt r b n c N W) (hx : N[a]? = some x) (hj : j < 8) : PO w gt r b n c (N.set a (ndSet x j e)) (W.setCell ⟨b, a * 9 + 1 + j, none⟩ (.int .u64 (wd e))) := by
  have hg : W.grownBy (W.setCell ⟨b, a * 9 + 1 + j, none⟩ (.int .u64 (wd e))) (some b) := set_grown (refl_grown _ _)
  exact ⟨h.u.grown hg h.u.size (fun k hk => by cases hk; exact h.bl.1), h.l, h.x.far (p := ⟨b, _, none⟩) h.ne _, h.o.word h.ln hx hj, by simpa using h.ln⟩
theorem PO.nv {w W : World} {gt b n c : Nat} {r : Int} {N : List Nd} (h : PO w gt r b n c N W) (h0 : 0 < n) : ∃ ns, NV W b ns N := by
  obtain ⟨b', c', ns, hv, _, hN⟩ := h.o.nv (by rw [h.ln]; exact h0)
  cases hv
  exact ⟨ns, hN⟩
def PSt (gt b n c g6 a l : Nat) (U : World) : Prop := U.cell? ⟨gt, 1, none⟩ = some (.slice (some ⟨b, 0, none⟩) n c) ∧ U.cell? ⟨g6, 0, none⟩ = some (.int .i64 a) ∧ U.cell? ⟨g6, 1, none⟩ = some (.int .i64 l)
/-- What put leaves. -/
def PutAns (w : World) (gt : Nat) (r : Int) (b n c : Nat) (N : List Nd) (e : Ending) (W' : World) : Prop := e = .returned (.tuple #[]) ∧ PO w gt r b n c N W'
set_option maxRecDepth 100000 in set_option maxHeartbeats 3200000 in
theorem put (w : World) (gt : Nat) (r : Int) (b n c : Nat) (N : List Nd) (mid low : Nat → Option Int) (ent : Nat → En) (p : Nat) (f : Int) (E : En) (W : World) (H : PO w gt r b n c N W) (hT : Tr r N mid low ent) (hp : p < 512) (hm : (mid (p / 64)).isSome = true) (hl : low (p / 8) = some f) :
    Calls Tryz.prog 120 #[.pointer (some ⟨gt, 0, none⟩), .int .i64 p, .int .u64 (wd E)] W (PutAns w gt r b n c (setF N f (p % 8) E)) := by
  have hn0 : 0 < n := by
    obtain ⟨x, hx, _⟩ := hT.root
    rw [← H.ln]; exact List.length_pos_of_mem hx
  have hn73 := hT.len
  rw [H.ln] at hn73
  obtain ⟨ns, hN⟩ := H.nv hn0
  have HT := Lib.hid hT
  have HLA := Lib.hid (last r b n c ns N mid low ent p W hN H.ln (by omega) hT hp)
  have hend : endL mid low p = 0 := by unfold endL; rw [hl]; cases hq : mid (p / 64) <;> simp_all
  have HEND := Lib.hid hend; have HL := Lib.hid hl
  have hx := H.x
  clear hT hm hN hend hl
  go_enter Tryz.func120, Tryz.ntmps120
  go_wp2_with ((with_reducible refine ldPT ?_ hx ?_); (focus rfl))
  refine HLA.out.mono ?_
  rintro e w3 ⟨a, l, E0, rfl, hL, b3⟩
  have H3 := H.below b3
  have hl0 : l = 0 := by rw [hL.hl]; exact HEND.out
  subst hl0
  obtain ⟨x, hxa, hxf⟩ : ∃ x, N[a]? = some x ∧ x.f = f := by
    obtain ⟨x, hxa, h1 | h1 | h1⟩ := hL.h
    · omega
    · omega
    · refine ⟨x, hxa, ?_⟩
      have := h1.2.2
      rw [HL.out] at this
      exact (Option.some.inj this).symm
  have HXA := Lib.hid hxa; have HXF := Lib.hid hxf
  have han : a < n := by rw [← H.ln]; exact (List.getElem?_eq_some_iff.1 hxa).1
  have hz := Blk.new w3 186 #[.int .i64 0, .int .i64 0, .int .u64 0] _ rfl
  have bz := below_box w3 (.cells #[.int .i64 0, .int .i64 0, .int .u64 0] 186)
  clear H hx HLA b3 hL hxa hxf
  go_upto_region 1 with ((with_reducible refine stSt (s := ⟨a, 0, E0⟩) ?_ ?_ hz rfl ?_); (focus rfl); (focus rfl); intro w4 hB4 hg4)
  have H4 := H3.below (bz.grown hg4 bz.size (fun q hq => by cases hq; exact Nat.le_refl _))
  obtain ⟨g4, hg4'⟩ : ∃ q, w3.heap.size = q := ⟨_, rfl⟩
  rw [hg4'] at hB4 ⊢
  clear hg4 hz bz hg4' H3
  have d0 : w4.cell? ⟨g4, 0, none⟩ = some (.int .i64 a) := by rw [hB4.cell]; rfl
  have d1 : w4.cell? ⟨g4, 1, none⟩ = some (.int .i64 (0 : Nat)) := by rw [hB4.cell]; rfl
  simp only [Act.put]
  refine wp_region_plan (PSt gt b n c g4 a 0) (.quiet [0, 1, 2, 3, 4, 5, 6, 7, 8, 10, 11, 12] (.only 9 (.quiet [13] (.only 14 .done)))) 99 (by kernel_rfl) (by kernel_rfl) ⟨H4.c1, d0, d1⟩ ?_
  intro W2 hWW hWe
  have bW : Below w4.heap.size w4 W2 := by rw [hWe]; exact (Below.refl _ _).drew
  clear hWe
  have H5 := H4.below bW
  have hB5 := hB4.later bW
  clear H4 hB4 bW d0 d1
  simp only [wpPlan, inOrder, List.filterMap_cons, List.filterMap_nil, List.getElem?_cons_zero, List.getElem?_cons_succ]
  have q1 := fun z => (hold_ok (S0 := PSt gt b n c g4 a 0) hWW z).1
  have q2 := fun z => (hold_ok (S0 := PSt gt b n c g4 a 0) hWW z).2.1
  have q3 := fun z => (hold_ok (S0 := PSt gt b n c g4 a 0) hWW z).2.2
  show wpQuiet _ _ _ _ (_ :: _ :: _ :: _ :: _ :: _ :: _ :: _ :: _ :: _ :: _ :: [_]) _
  repeat (go_big_quiet_step (fail))
  refine wpQuiet_nil ?_
  have hdg := dgP_lt p 0
  rw [dgP_eq] at hdg
  have HDG := Lib.hid (digit p 0 hp (by omega) W2)
  have HPD := Lib.hid (show dg p 0 = p % 8 by unfold dg; simp)
  obtain ⟨D, hD⟩ : ∃ D, dg p 0 = D := ⟨_, rfl⟩
  rw [hD] at hdg HDG HPD
  clear hD
  show wpList _ _ _ [_] _ _
  go_wp2_with fail
  refine HDG.out.mono ?_
  rintro e _ ⟨rfl, rfl⟩
  go_wp2
  refine ⟨hold_of (S0 := PSt gt b n c g4 a 0) hWW, ?_⟩
  clear HDG
  show wpQuiet _ _ _ _ ([_]) _
  repeat (go_big_quiet_step (fail))
  refine wpQuiet_nil ?_
  clear q1 q2 q3
  obtain ⟨ns', hN5⟩ := H5.nv hn0
  have cw := hN5.word HXA.out hdg
  have fw := hN5.x.frozen (a * 9 + 1 + D)
  have H6 := H5.word (e := E) HXA.out hdg
  have hgb : g4 ≠ b := fun e => hB5.not_own H5.o (by decide) (by rw [e]; rfl)
  have hB6 := hB5.far (p := ⟨b, a * 9 + 1 + D, none⟩) hgb (.int .u64 (wd E))
  rw [set_setF HT.out.fo HXA.out, HXF.out, HPD.out] at H6
  rw [HPD.out] at hB6
  have hS6 : PSt gt b n c g4 a 0 (W2.setCell ⟨b, a * 9 + 1 + p % 8, none⟩ (.int .u64 (wd E))) := ⟨H6.c1, by rw [hB6.cell]; rfl, by rw [hB6.cell]; rfl⟩
  have HS6 := Lib.hid hS6; have HH6 := Lib.hid H6
  rw [← HPD.out] at HS6 HH6
  clear H5 hB5 hN5 H6 hB6 hWW hS6
  show wpList _ _ _ [_] _ _
  go_wp2
  refine ⟨hold_of HS6.out, ?_⟩
  refine NoPanic.normal ?_
  have H6 := HH6.out
  obtain ⟨w7, hw7⟩ : ∃ V, V = W2.setCell ⟨b, a * 9 + 1 + D, none⟩ (.int .u64 (wd E)) := ⟨_, rfl⟩
  rw [← hw7] at H6 ⊢
  rw [← HPD.out]
  clear HS6 HH6 hw7 cw fw
  go_wp2
  refine bodyPost_end (results_none rfl _ _ _) rfl ?_
  exact ⟨rfl, H6⟩
end Go.Proofs.YtdddkfpcbfgocaaGreat
namespace Go.Pt
section
variable {r : Int} {N : List Nd} {mid low : Nat → Option Int} {ent : Nat → En}
theorem Tr.deepen (h : Tr r N mid low ent) {p a l : Nat} {E : En} {x : Nd} {f : Int} (hp : p < 512) (hL : Lst r N mid low ent p a l E) (hx : N[a]? = some x) (hl : 0 < l) (hf : 0 ≤ f ∧ f ≤ 4294967295) (hnew : ∀ x ∈ N, x.f < f) :
    ∃ mid' low', Tr r (N.set a (ndSet x (dgP p l) ⟨4, f, false⟩) ++ [ndE f]) mid' low' ent ∧ endL mid' low' p + 1 = l := by
  rw [set_setF h.fo hx]
  obtain ⟨y, hy, h1 | h1 | h1⟩ := hL.h
  · rw [hx] at hy; cases hy
    obtain ⟨rfl, h2, h3⟩ := h1
    have hd : dgP p 2 = p / 64 := by unfold dgP; show p / 64 % 8 = _; omega
    rw [h2, hd]
    refine ⟨_, _, h.addMid (i := p / 64) (by omega) h3 hf hnew, ?_⟩
    have : low (p / 8) = none := h.none_low (by omega) (by rw [show p / 8 / 8 = p / 64 by omega]; exact h3)
    simp [endL, upd_self, this]
  · rw [hx] at hy; cases hy
    obtain ⟨rfl, h2, h3⟩ := h1
    have hd : dgP p 1 = p / 8 % 8 := by unfold dgP; rfl
    rw [hd]
    refine ⟨_, _, h.addLow (k := p / 8) (by omega) (by rw [show p / 8 / 8 = p / 64 by omega]; exact h2) h3 hf hnew, ?_⟩
    simp [endL, upd_self, h2]
  · omega
theorem endL0 {p : Nat} (h : endL mid low p = 0) : (mid (p / 64)).isSome = true ∧ ∃ f, low (p / 8) = some f := by
  unfold endL at h
  cases h1 : mid (p / 64) with
  | none => rw [h1] at h; simp at h
  | some g =>
    cases h2 : low (p / 8) with
    | none => rw [h1, h2] at h; simp at h
    | some f => exact ⟨rfl, f, rfl⟩
end
/-- New frames, each behind all that are there. -/
structure Asc (N : List Nd) (F : List Int) (i : Nat) (nx : Int) : Prop where
  lt : ∀ x ∈ N, x.f < nx
  fl : ∀ f ∈ F, f < nx
  rg : ∀ f ∈ F, 0 ≤ f ∧ f ≤ 4294967295
  gt : ∀ x ∈ N, ∀ (j : Nat) (f : Int), i ≤ j → F[j]? = some f → x.f < f
  up : ∀ (i j : Nat) (f g : Int), i < j → F[i]? = some f → F[j]? = some g → f < g
theorem Asc.next {N : List Nd} {F : List Int} {i a : Nat} {x y : Nd} {f nx : Int} (h : Asc N F i nx) (hf : F[i]? = some f) (ha : N[a]? = some x) (hy : y.f = x.f) : Asc (N.set a y ++ [ndE f]) F (i + 1) nx := by
  refine ⟨fun z hz => ?_, h.fl, h.rg, fun z hz j g hj hg => ?_, h.up⟩
  · rcases List.mem_append.1 hz with hz | hz
    · rcases List.mem_or_eq_of_mem_set hz with hz | rfl
      · exact h.lt z hz
      · rw [hy]; exact h.lt x (List.mem_of_getElem? ha)
    · rw [List.mem_singleton.1 hz]; exact h.fl f (List.mem_of_getElem? hf)
  rcases List.mem_append.1 hz with hz | hz
  · rcases List.mem_or_eq_of_mem_set hz with hz | rfl
    · exact h.gt z hz j g (by omega) hg
    · rw [hy]; exact h.gt x (List.mem_of_getElem? ha) j g (by omega) hg
  · rw [List.mem_singleton.1 hz]; exact h.up i j f g (by omega) hf hg
end Go.Pt
namespace Go.Proofs.YtdddkfpcbfgocaaGreat
open Go.RowKit Go.Over Go.Seg Go.Grow Go.Pt
/-- A state between the rounds. -/
def DState (w : World) (gt : Nat) (r : Int) (ent : Nat → En) (p : Nat) (F : List Int) (nx : Int) (i : Nat) (n : Nat) (W : World) : Prop :=
  ∃ b c N mid low, PO w gt r b n c N W ∧ Tr r N mid low ent ∧ endL mid low p + i = F.length ∧ Asc N F i nx
/-- What deepen leaves. -/
def DeepAns (w : World) (gt : Nat) (r : Int) (ent : Nat → En) (p : Nat) (F : List Int) (nx : Int) (e : Ending) (W' : World) : Prop := e = .returned (.tuple #[]) ∧ ∃ n, DState w gt r ent p F nx F.length n W'
set_option maxRecDepth 100000 in set_option maxHeartbeats 3200000 in
theorem deepen (w : World) (gt : Nat) (r : Int) (ent : Nat → En) (p : Nat) (v : Value) (F : List Int) (nx : Int) (n0 : Nat) (W : World) (H : DState w gt r ent p F nx 0 n0 W) (hS : Sl w v F) (hp : p < 512) (hF2 : F.length ≤ 2) :
    Calls Tryz.prog 119 #[.pointer (some ⟨gt, 0, none⟩), .int .i64 p, v] W (DeepAns w gt r ent p F nx) := by
  obtain ⟨k, hk⟩ : ∃ k, F.length = k := ⟨_, rfl⟩
  obtain ⟨a, cp, hv, hcp, hcm, _, hI⟩ := hS
  rw [hk] at hv hcp hF2
  subst hv
  have HK := Lib.hid hk
  have HH := Lib.hid H
  clear hk H
  go_enter Tryz.func119, Tryz.ntmps119
  go_wp2
  go_loopg [13] k (fun gg v13 wr => ∃ (i n : Nat), i + gg = k ∧ v13 = .int .i64 i ∧ DState w gt r ent p F nx i n wr)
  case atStart => exact ⟨0, n0, by omega, rfl, HH.out⟩
  case round =>
    clear HH
    obtain ⟨i, n, hi, rfl, HS⟩ := hrel
    cases gk with
    | zero =>
      obtain rfl : k = i := by omega
      have hin : ¬ k < k := by omega
      clear hi
      go_wp2
      refine bodyPost_end (results_none rfl _ _ _) rfl ?_
      refine ⟨rfl, n, ?_⟩
      rw [HK.out]; exact HS
    | succ gg =>
      have hin : i < k := by omega
      have HI := Lib.hid hi
      obtain ⟨b, c, N, mid, low, H1, hT, hend, hasc⟩ := HS
      obtain ⟨f, hf⟩ := get_some HK.out hin
      obtain ⟨b', off, rfl, cx⟩ := (hI.below H1.u).at hf
      have hn0 : 0 < n := by
        obtain ⟨x, hx, _⟩ := hT.root
        rw [← H1.ln]; exact List.length_pos_of_mem hx
      have hn73 := hT.len
      rw [H1.ln] at hn73
      obtain ⟨ns, hN⟩ := H1.nv hn0
      have HLA := Lib.hid (last r b n c ns N mid low ent p wr hN H1.ln (by omega) hT hp)
      have HT := Lib.hid hT; have HEND := Lib.hid hend; have HASC := Lib.hid hasc; have HF := Lib.hid hf
      have hx := H1.x
      clear hi hT hend hasc hf hN
      go_wp2_with ((with_reducible refine ldPT ?_ hx ?_); (focus rfl))
      refine HLA.out.mono ?_
      rintro e w3 ⟨q, l, E0, rfl, hL, b3⟩
      have H3 := H1.below b3
      have hlk : l + i = k := by rw [hL.hl, ← HK.out]; exact HEND.out
      have hl2 := hL.l2
      obtain ⟨x, hxa⟩ : ∃ x, N[q]? = some x := by obtain ⟨x, h, _⟩ := hL.h; exact ⟨x, h⟩
      have HXA := Lib.hid hxa; have HL := Lib.hid hL; have HLK := Lib.hid hlk
      have hqn : q < n := by rw [← H1.ln]; exact (List.getElem?_eq_some_iff.1 hxa).1
      have hz := Blk.new w3 186 #[.int .i64 0, .int .i64 0, .int .u64 0] _ rfl
      have bz := below_box w3 (.cells #[.int .i64 0, .int .i64 0, .int .u64 0] 186)
      clear H1 hx HLA b3 hL hxa cx hlk
      go_upto_region 4 with ((with_reducible refine stSt (s := ⟨q, l, E0⟩) ?_ ?_ hz rfl ?_); (focus rfl); (focus rfl); intro w4 hB4 hg4)
      have H4 := H3.below (bz.grown hg4 bz.size (fun q hq => by cases hq; exact Nat.le_refl _))
      obtain ⟨g4, hg4'⟩ : ∃ q, w3.heap.size = q := ⟨_, rfl⟩
      rw [hg4'] at hB4 ⊢
      clear hg4 hz bz hg4' H3
      have hrf := HASC.out.rg f (List.mem_of_getElem? HF.out)
      have HEN := Lib.hid (enc4 f hrf.1 hrf.2 w4)
      simp only [Act.put]
      go_wp2_with fail
      refine HEN.out.mono ?_
      rintro e w5 ⟨rfl, b5⟩
      have H5 := H4.below b5
      have hB5 := hB4.later b5
      have d0 : w5.cell? ⟨g4, 0, none⟩ = some (.int .i64 q) := by rw [hB5.cell]; rfl
      have d1 : w5.cell? ⟨g4, 1, none⟩ = some (.int .i64 l) := by rw [hB5.cell]; rfl
      clear H4 hB4 b5 HEN
      go_upto_region 5 with fail
      refine wp_region_plan (PSt gt b n c g4 q l) (.quiet [0, 1, 2, 3, 4, 5, 6, 7, 8, 10, 11, 12] (.only 9 (.quiet [13] (.only 14 .done)))) 99 (by kernel_rfl) (by kernel_rfl) ⟨H5.c1, d0, d1⟩ ?_
      intro W2 hWW hWe
      have bW : Below w5.heap.size w5 W2 := by rw [hWe]; exact (Below.refl _ _).drew
      clear hWe
      have H6 := H5.below bW
      have hB6 := hB5.later bW
      clear H5 hB5 bW d0 d1
      simp only [wpPlan, inOrder, List.filterMap_cons, List.filterMap_nil, List.getElem?_cons_zero, List.getElem?_cons_succ]
      have q1 := fun z => (hold_ok (S0 := PSt gt b n c g4 q l) hWW z).1
      have q2 := fun z => (hold_ok (S0 := PSt gt b n c g4 q l) hWW z).2.1
      have q3 := fun z => (hold_ok (S0 := PSt gt b n c g4 q l) hWW z).2.2
      show wpQuiet _ _ _ _ (_ :: _ :: _ :: _ :: _ :: _ :: _ :: _ :: _ :: _ :: _ :: [_]) _
      repeat (go_big_quiet_step (fail))
      refine wpQuiet_nil ?_
      have hdg := dgP_lt p l
      have HDP := Lib.hid (dgP_eq p l)
      rw [dgP_eq] at hdg
      have HDG := Lib.hid (digit p l hp hl2 W2)
      obtain ⟨D, hD⟩ : ∃ D, dg p l = D := ⟨_, rfl⟩
      rw [hD] at hdg HDG HDP
      clear hD
      show wpList _ _ _ [_] _ _
      go_wp2_with fail
      refine HDG.out.mono ?_
      rintro e _ ⟨rfl, rfl⟩
      go_wp2
      refine ⟨hold_of (S0 := PSt gt b n c g4 q l) hWW, ?_⟩
      clear HDG
      show wpQuiet _ _ _ _ ([_]) _
      repeat (go_big_quiet_step (fail))
      refine wpQuiet_nil ?_
      clear q1 q2 q3
      obtain ⟨ns', hN5⟩ := H6.nv hn0
      have cw := hN5.word HXA.out hdg
      have fw := hN5.x.frozen (q * 9 + 1 + D)
      have H7 := H6.word (e := ⟨4, f, false⟩) HXA.out hdg
      have hgb : g4 ≠ b := fun e => hB6.not_own H6.o (by decide) (by rw [e]; rfl)
      have hB7 := hB6.far (p := ⟨b, q * 9 + 1 + D, none⟩) hgb (.int .u64 (wd ⟨4, f, false⟩))
      have hwd : wd ⟨4, f, false⟩ = f * 256 + 4 := rfl
      rw [hwd] at H7 hB7
      have hS7 : PSt gt b n c g4 q l (W2.setCell ⟨b, q * 9 + 1 + D, none⟩ (.int .u64 (f * 256 + 4))) := ⟨H7.c1, by rw [hB7.cell]; rfl, by rw [hB7.cell]; rfl⟩
      have HS7 := Lib.hid hS7; have HH7 := Lib.hid H7
      clear H6 hB6 hN5 H7 hB7 hWW hS7 hwd
      show wpList _ _ _ [_] _ _
      go_wp2
      refine ⟨hold_of HS7.out, ?_⟩
      refine NoPanic.normal ?_
      have H7 := HH7.out
      obtain ⟨w7, hw7⟩ : ∃ V, V = W2.setCell ⟨b, q * 9 + 1 + D, none⟩ (.int .u64 (f * 256 + 4)) := ⟨_, rfl⟩
      rw [← hw7] at H7 ⊢
      clear HS7 HH7 hw7 cw fw
      have hl0 : 0 < l := by have := HLK.out; have := HI.out; omega
      obtain ⟨mid', low', hT', hend'⟩ := HT.out.deepen (f := f) hp HL.out HXA.out hl0 hrf (fun x hx => HASC.out.gt x hx i f (Nat.le_refl _) HF.out)
      rw [HDP.out] at hT'
      have HAD := Lib.hid (add w gt r b n c _ f w7 H7 hT'.fo hn0 (by omega))
      have HT' := Lib.hid hT'; have HEND' := Lib.hid hend'
      clear H7 hT' hend'
      go_wp2_with fail
      refine HAD.out.mono ?_
      rintro e w8 ⟨b8, c8, rfl, H8⟩
      have HS8 : DState w gt r ent p F nx (i + 1) (n + 1) w8 := ⟨b8, c8, _, mid', low', H8, HT'.out, by have := HEND'.out; have := HLK.out; rw [HK.out]; omega, HASC.out.next HF.out HXA.out rfl⟩
      clear H8 HAD
      go_wp2
      go_roundg gg
      case rel => exact ⟨i + 1, n + 1, by have := HI.out; omega, by go_num, HS8⟩
      case measure => omega
end Go.Proofs.YtdddkfpcbfgocaaGreat
namespace Go.Proofs.YtdddkfpcbfgocaaGreat
open Go.RowKit Go.Over Go.Seg Go.Grow Go.Pt
theorem resPT1 {fn : Func} {p q : Tmp} (h : fn.results = #[.cell p 120, .tmp q]) (tmps : Array Value) (w : World) (g : Nat) (cs : List Value) (v : Value) (hp : tmps.getD p undef = .pointer (some ⟨g, 0, none⟩)) (hg : Blk w g 120 cs) (hl : cs.length = 3) (hv : tmps.getD q undef = v) :
    (results fn tmps).run Tryz.prog w = .ok (.tuple #[.agg cs.toArray, v]) w := by
  have hp' : tmps[p]?.getD undef = .pointer (some ⟨g, 0, none⟩) := by simpa using hp
  have hv' : tmps[q]?.getD undef = v := by simpa using hv
  have hl := run_loadVar_row (P := Tryz.prog) w g 120 120 cs.toArray (0, 0) _ hg Tryz.underlying120 rfl (by rw [infoPT]; simp [hl])
  simp [results, h, hp', hv', asAddr, hl]
theorem _root_.Go.Pt.Asc.fresh {N : List Nd} {F : List Int} {nx : Int} (h : Asc N F 0 nx) : Fresh N F := by
  refine ⟨?_, h.rg, fun f hf hm => ?_⟩
  · rw [List.nodup_iff_pairwise_ne, List.pairwise_iff_getElem]
    intro i j hi hj hij
    have := h.up i j _ _ hij (List.getElem?_eq_getElem hi) (List.getElem?_eq_getElem hj)
    omega
  · obtain ⟨x, hx, rfl⟩ := List.mem_map.1 hm
    obtain ⟨j, hj⟩ := List.getElem?_of_mem hf
    have := h.gt x hx j x.f (Nat.zero_le _) hj
    omega
/-- What Set gives. -/
def SetAns (w : World) (r : Int) (ent : Nat → En) (nx : Int) (e : Ending) (w' : World) : Prop :=
  ∃ b n c ns N mid low, e = .returned (.tuple #[.agg #[.int .i64 r, .slice (some ⟨b, 0, none⟩) n c, .slice none 0 0], .int .i64 0]) ∧ TV w' r b n c ns N mid low ent ∧ (∀ x ∈ N, x.f < nx) ∧ w.heap.size ≤ b ∧ Below w.heap.size w w'
set_option maxRecDepth 100000 in set_option maxHeartbeats 3200000 in
theorem set (r : Int) (b n c : Nat) (ns : List Value) (N : List Nd) (mid low : Nat → Option Int) (ent : Nat → En) (p : Nat) (fr : Int) (wb : Bool) (v : Value) (F : List Int) (nx : Int) (w : World) (H : TV w r b n c ns N mid low ent) (hp : p < 512) (hfr : 0 ≤ fr ∧ fr ≤ 4294967295) (he : (ent p).k = 0) (hS : Sl w v F) (hF : F.length = endL mid low p) (hA : Asc N F 0 nx) :
    Calls Tryz.prog 67 #[.agg #[.int .i64 r, .slice (some ⟨b, 0, none⟩) n c, .slice none 0 0], .int .i64 p, .int .u64 (wd ⟨1, fr, wb⟩), v] w (SetAns w r (upd ent p ⟨1, fr, wb⟩) nx) := by
  have b0 := below_box w (.cells #[.int .i64 r, .slice (some ⟨b, 0, none⟩) n c, .slice none 0 0] 120)
  have X0 := PX.new (r := r) (c := c) (n := n) H.nv
  have b1 := below_box (w.alloc (.cells #[.int .i64 r, .slice (some ⟨b, 0, none⟩) n c, .slice none 0 0] 120)) (.cells #[.int .i64 0, .slice none 0 0, .slice none 0 0] 120)
  have X1 := X0.below b1
  have z1 := Blk.new (w.alloc (.cells #[.int .i64 r, .slice (some ⟨b, 0, none⟩) n c, .slice none 0 0] 120)) 120 #[.int .i64 0, .slice none 0 0, .slice none 0 0] _ rfl
  have s1 : (w.alloc (.cells #[.int .i64 r, .slice (some ⟨b, 0, none⟩) n c, .slice none 0 0] 120)).heap.size = w.heap.size + 1 := by simp
  rw [s1] at z1
  have HH := Lib.hid H; have HA := Lib.hid hA; have HF := Lib.hid hF; have HS := Lib.hid hS; have HE := Lib.hid he
  have hve : VE ⟨1, fr, wb⟩ := ⟨.inr (.inl ⟨rfl, hfr.1, hfr.2⟩)⟩
  have HVE := Lib.hid hve
  have HWD := Lib.hid (show wd ⟨1, fr, wb⟩ = wd ⟨1, fr, wb⟩ from rfl)
  clear H hA hF hS b0 b1 X0 s1 hve he
  go_enter Tryz.func67, Tryz.ntmps67
  go_upto_region 1 with fail
  obtain ⟨w1, hw1⟩ : ∃ W, W = (w.alloc (.cells #[.int .i64 r, .slice (some ⟨b, 0, none⟩) n c, .slice none 0 0] 120)).alloc (.cells #[.int .i64 0, .slice none 0 0, .slice none 0 0] 120) := ⟨_, rfl⟩
  rw [← hw1] at X1 z1 ⊢
  obtain ⟨g8, hg8⟩ : ∃ g, w.heap.size + 1 = g := ⟨_, rfl⟩
  have l8 : w.heap.size ≤ g8 := by omega
  rw [hg8] at z1 ⊢
  obtain ⟨g, hg⟩ : ∃ g, w.heap.size = g := ⟨_, rfl⟩
  have X1 : PX w g r b n c ns N w1 := by rw [← hg]; exact X1
  have ng : g8 ≠ g := by omega
  rw [hg]
  clear hw1 hg hg8
  have HCK := Lib.hid (checked r b n c ns N mid low ent p w1 ⟨X1.v, HH.out.ln, HH.out.tr⟩ hp)
  go_wp2_with ((with_reducible refine ldPT ?_ X1.x ?_); (focus rfl))
  refine HCK.out.mono ?_
  rintro e w2 ⟨rfl, b2⟩
  have X2 := X1.below b2
  have z2 := z1.later b2
  clear X1 b2 HCK z1
  have HDE := Lib.hid (decE HVE.out w2)
  go_wp2_with fail
  refine HDE.out.mono ?_
  rintro e w3 ⟨rfl, b3⟩
  have X3 := X2.below b3
  have z3 := z2.later b3
  have hz := Blk.new w3 131 #[.int .i64 0, .int .i64 0, .bool false, .bool false, .bool false, .bool false] _ rfl
  have bz := below_box w3 (.cells #[.int .i64 0, .int .i64 0, .bool false, .bool false, .bool false, .bool false] 131)
  clear X2 z2 b3 HDE
  go_upto_region 5 with ((with_reducible refine stE (k := 1) (n := fr) (b := wb) ?_ ?_ hz rfl ?_); (focus rfl); (focus rfl); intro w4 hB4 hg4)
  have b4 : Below w3.heap.size w3 w4 := bz.grown hg4 bz.size (fun q hq => by cases hq; exact Nat.le_refl _)
  have X4 := X3.below b4
  have z4 := z3.later b4
  have d0 : w4.cell? ⟨w3.heap.size, 0, none⟩ = some (.int .i64 1) := by rw [hB4.cell]; rfl
  have d5 : w4.cell? ⟨w3.heap.size, 5, none⟩ = some (.bool false) := by rw [hB4.cell]; rfl
  obtain ⟨g4, hg4'⟩ : ∃ q, w3.heap.size = q := ⟨_, rfl⟩
  rw [hg4'] at d0 d5 ⊢
  clear X3 z3 b4 hB4 hg4 hz bz hg4'
  have HLA := Lib.hid (last r b n c ns N mid low ent p w4 X4.v HH.out.ln (by have := HH.out.le; omega) HH.out.tr hp)
  try simp only [Act.put]
  go_wp2_with ((with_reducible refine ldPT ?_ X4.x ?_); (focus rfl))
  refine HLA.out.mono ?_
  rintro e w5 ⟨a, l, E, rfl, hL, b5⟩
  have X5 := X4.below b5
  have z5 := z4.later b5
  have HL := Lib.hid hL
  clear X4 z4 b5 HLA hL d0 d5
  have hz := Blk.new w5 186 #[.int .i64 0, .int .i64 0, .int .u64 0] _ rfl
  have bz := below_box w5 (.cells #[.int .i64 0, .int .i64 0, .int .u64 0] 186)
  go_upto_region 8 with ((with_reducible refine stSt (s := ⟨a, l, E⟩) ?_ ?_ hz rfl ?_); (focus rfl); (focus rfl); intro w6 hB6 hg6)
  have b6 : Below w5.heap.size w5 w6 := bz.grown hg6 bz.size (fun q hq => by cases hq; exact Nat.le_refl _)
  have X6 := X5.below b6
  have z6 := z5.later b6
  have d1 : w6.cell? ⟨w5.heap.size, 1, none⟩ = some (.int .i64 l) := by rw [hB6.cell]; rfl
  have d2 : w6.cell? ⟨w5.heap.size, 2, none⟩ = some (.int .u64 (wd E)) := by rw [hB6.cell]; rfl
  obtain ⟨g6, hg6'⟩ : ∃ q, w5.heap.size = q := ⟨_, rfl⟩
  rw [hg6'] at d1 d2 ⊢
  clear X5 z5 b6 hB6 hg6 hz bz hg6'
  have HEN := Lib.hid (entryE (HL.out.ve HH.out.tr hp) w6)
  have hEk : E.k = 0 := by rw [HL.out.he]; exact (HH.out.tr.endE hp).2 HE.out
  have hfl : ∀ W, (Instr.field 131 (.agg (enC E.k E.n E.b).toArray) 0).run Tryz.prog W = .ok (.int .i64 0) W := fun W => by
    rw [hEk]; simp [Instr.field, go_sem, asAgg, enC]
  obtain ⟨W0, hW0⟩ : ∃ q, wd E = q := ⟨_, rfl⟩
  rw [hW0] at d2 HEN ⊢
  clear hW0 hEk
  try simp only [Act.put]
  go_wp2_with fail
  refine HEN.out.mono ?_
  rintro e w7 ⟨rfl, b7⟩
  have X7 := X6.below b7
  have z7 := z6.later b7
  have d1' := cell_later b7 d1
  clear X6 z6 b7 d1 d2 HEN
  have HFR := Lib.hid (fresh r b n c ns N mid low ent v F l w7 ⟨X7.v, HH.out.ln, HH.out.tr⟩ (HS.out.below X7.u) (by rw [HF.out, HL.out.hl]) HL.out.l2 HA.out.fresh)
  go_wp2_with ((with_reducible refine ldPT ?_ X7.x ?_); (focus rfl))
  refine HFR.out.mono ?_
  rintro e w8 ⟨rfl, b8⟩
  have X8 := X7.below b8
  have z8 := z7.below b8 z7.lt
  clear X7 z7 b8 HFR d1'
  have hn0 : 0 < n := by
    obtain ⟨x, hx, _⟩ := HH.out.tr.root
    rw [← HH.out.ln]; exact List.length_pos_of_mem hx
  have HCL := Lib.hid (clonePT r b n c ns N w8 X8.v HH.out.ln (by have := HH.out.le; omega) hn0)
  go_wp2_with ((with_reducible refine ldPT ?_ X8.x ?_); (focus rfl))
  refine HCL.out.mono ?_
  rintro e w9 ⟨b', c', rfl, O9, b9⟩
  rw [HH.out.ln] at O9 ⊢
  have hu8 := X8.u
  clear X8 HCL
  have hz := Blk.new w9 120 #[.int .i64 0, .slice none 0 0, .slice none 0 0] _ rfl
  have bz := below_box w9 (.cells #[.int .i64 0, .slice none 0 0, .slice none 0 0] 120)
  go_upto_region 13 with ((with_reducible refine stPT (r := r) (b := b') (n := n) (c := c') ?_ ?_ hz rfl ?_); (focus rfl); (focus rfl); intro w10 hB10 hg10)
  have b10 : Below w9.heap.size w9 w10 := bz.grown hg10 bz.size (fun q hq => by cases hq; exact Nat.le_refl _)
  have P10 : PO w8 w9.heap.size r b' n c' N w10 := ⟨below_then b9 b10, b9.size, hB10, own_later O9 b10, HH.out.ln⟩
  obtain ⟨gt, hgt⟩ : ∃ q, w9.heap.size = q := ⟨_, rfl⟩
  rw [hgt] at P10 ⊢
  clear b10 hB10 hg10 hz bz hgt O9 b9
  have HDE := Lib.hid (deepen w8 gt r ent p v F nx n w10 ⟨b', c', N, mid, low, P10, HH.out.tr, by rw [HF.out]; rfl, HA.out⟩ (HS.out.below hu8) hp (by rw [HF.out, ← HL.out.hl]; exact HL.out.l2))
  try simp only [Act.put]
  go_wp2_with fail
  refine HDE.out.mono ?_
  rintro e w11 ⟨rfl, n2, b2, c2, N2, mid2, low2, P11, T11, hend, hasc⟩
  obtain ⟨hm2, f2, hl2⟩ := endL0 (show endL mid2 low2 p = 0 by omega)
  have HPU := Lib.hid (put w8 gt r b2 n2 c2 N2 mid2 low2 ent p f2 ⟨1, fr, wb⟩ w11 P11 T11 hp hm2 hl2)
  have HT := Lib.hid (T11.put hp hl2 HVE.out (.inr rfl)); have HAS := Lib.hid hasc
  clear hend hm2 hl2 T11 HDE P10 P11 hasc
  go_wp2_with fail
  refine HPU.out.mono ?_
  rintro e w12 ⟨rfl, P12⟩
  have z12 := z8.later P12.u
  clear HPU
  go_wp2_with first | ((with_reducible refine ldPT ?_ P12.x ?_); (focus rfl)) | ((with_reducible refine stPT (r := r) (b := b2) (n := n2) (c := c2) ?_ ?_ z12 rfl ?_); (focus rfl); (focus rfl); intro w13 hB13 hg13)
  refine bodyPost_ret (resPT1 rfl _ _ g8 _ (.int .i64 0) rfl hB13 rfl rfl) rfl ?_
  have hn2 : 0 < n2 := by
    obtain ⟨x, hx, _⟩ := HT.out.root
    have := List.length_pos_of_mem hx
    rw [P12.ln] at this; exact this
  obtain ⟨ns2, hN2⟩ := P12.nv hn2
  have u12 := below_then hu8 P12.u
  refine ⟨b2, n2, c2, ns2, _, mid2, low2, rfl, ⟨⟨hN2.x.grown hg13 (by simpa using z12.ne_type hN2.x (by decide)), hN2.n, hN2.row⟩, P12.ln, HT.out⟩, fun x hx => ?_, Nat.le_trans hu8.size P12.bl.1, u12.grown hg13 u12.size (fun k hk => by cases hk; exact l8)⟩
  obtain ⟨y, hy, he, _⟩ := setF_mem hx
  rw [he]; exact HAS.out.lt y hy
end Go.Proofs.YtdddkfpcbfgocaaGreat
namespace Go.Grow
open Go.RowKit Go.Over
section
variable {w : World} {B g n cap k : Nat} {e : TypeId} {xs zs : List Value}
theorem own_open (h : w.ownsRow B e k (.slice (some ⟨g, 0, none⟩) n cap) n xs) : ∃ zs : List Value, Blk w g e zs ∧ zs.length = cap * k ∧ zs.take (n * k) = xs ∧ B ≤ g ∧ n ≤ cap ∧ cap ≤ maxLen := by
  rcases h.2 with ⟨h1, _⟩ | ⟨g', cap', cur, h1, h2, h3, h4, h5, h6, h7⟩
  · cases h1
  · cases h1
    exact ⟨cur.toList, by unfold Blk; rw [h3], by simpa using h6, h7, h2, h4, h5⟩
theorem own_shut (h1 : B ≤ g) (h2 : Blk w g e zs) (h3 : n ≤ cap) (h4 : cap ≤ maxLen) (h5 : zs.length = cap * k) (h6 : zs.take (n * k) = xs) : w.ownsRow B e k (.slice (some ⟨g, 0, none⟩) n cap) n xs := by
  have hl : n * k ≤ cap * k := Nat.mul_le_mul_right _ h3
  refine ⟨?_, .inr ⟨g, cap, zs.toArray, rfl, h1, h2, h3, h4, by simpa using h5, by simpa using h6⟩⟩
  rw [← h6, List.length_take, h5]
  omega
theorem lay_take {zs cs : List Value} {o m : Nat} (h : o + cs.length ≤ m) : (lay zs o cs).take m = lay (zs.take m) o cs := by
  have e1 : min m o = o := by omega
  have e2 : min o m = o := by omega
  unfold lay
  rw [List.take_append, List.take_append, List.take_take, e1, List.drop_take, List.take_take, e2]
  have e3 : cs.take (m - (zs.take o).length) = cs := List.take_of_length_le (by rw [List.length_take]; omega)
  rw [e3]
  rcases Nat.lt_or_ge zs.length o with ho | ho
  · have e4 : zs.drop (o + cs.length) = [] := List.drop_eq_nil_of_le (by omega)
    rw [e4]
    simp
  · have e5 : (zs.take o ++ cs).length = o + cs.length := by rw [List.length_append, List.length_take]; omega
    rw [e5]
end
section
variable {α : Type} {f : α → List Value} {k : Nat} {w W : World} {B g n cap i : Nat} {e : TypeId} {l : List α}
/-- An element is read. -/
theorem own_elem (hf : ∀ x, (f x).length = k) (h : w.ownsRow B e k (.slice (some ⟨g, 0, none⟩) n cap) n (l.flatMap f)) {x : α} (hx : l[i]? = some x) : ∃ zs : List Value, Blk w g e zs ∧ ∀ j v, (f x)[j]? = some v → zs[i * k + j]? = some v := by
  obtain ⟨zs, h1, h2, h3, _⟩ := own_open h
  refine ⟨zs, h1, fun j v hv => ?_⟩
  have h4 := flat_get hf hx hv
  rw [← h3, List.getElem?_take] at h4
  split at h4
  · exact h4
  · cases h4
/-- An element is written. -/
theorem own_write (hf : ∀ x, (f x).length = k) (h : w.ownsRow B e k (.slice (some ⟨g, 0, none⟩) n cap) n (l.flatMap f)) (hn : l.length = n) (hi : i < n) (x : α) : ∃ zs : List Value, Blk w g e zs ∧ i * k + (f x).length ≤ zs.length ∧ ∀ W, Blk W g e (lay zs (i * k) (f x)) → W.ownsRow B e k (.slice (some ⟨g, 0, none⟩) n cap) n ((l.set i x).flatMap f) := by
  obtain ⟨zs, h1, h2, h3, h4, h5, h6⟩ := own_open h
  have hb : i * k + k ≤ n * k := by
    have := Nat.mul_le_mul_right k (show i + 1 ≤ n from hi)
    rw [Nat.succ_mul] at this; exact this
  have hc : n * k ≤ cap * k := Nat.mul_le_mul_right _ h5
  refine ⟨zs, h1, by rw [hf, h2]; omega, fun W hW => own_shut h4 hW h5 h6 (by rw [lay_len (by rw [hf, h2]; omega), h2]) ?_⟩
  rw [lay_take (by rw [hf]; exact hb), h3, flat_lay hf (by rw [hn]; exact hi)]
end
end Go.Grow
namespace Go.Pt
/-- A mapping, as a number: 512 times its space and its page. -/
def mpC (k : Nat) : List Value := [.int .i64 ((k / 512 : Nat) : Int), .int .i64 ((k % 512 : Nat) : Int)]
theorem mpC_len (k : Nat) : (mpC k).length = 2 := rfl
theorem mpC_one (k : Nat) : ∀ v ∈ mpC k, v.oneCell' = true := by
  intro u hu
  simp [mpC] at hu
  rcases hu with rfl | rfl <;> rfl
theorem filter_next {α : Type} {l : List α} {keep : α → Bool} {j : Nat} {x : α} (h : l[j]? = some x) : (l.take (j + 1)).filter keep = (l.take j).filter keep ++ (if keep x then [x] else []) := by
  rw [List.take_add_one, h, List.filter_append]
  congr 1
  cases hk : keep x <;> simp [hk]
theorem filter_all {α : Type} {l : List α} {keep : α → Bool} (h : ∀ x ∈ l, keep x = true) : l.filter keep = l := List.filter_eq_self.2 h
end Go.Pt
namespace Go.Proofs.YtdddkfpcbfgocaaGreat
open Go.RowKit Go.Over Go.Seg Go.Grow Go.Pt
theorem infoM : (Tryz.prog.info? 126).map (·.size) = some 2 := by kernel_rfl
section
variable {ops : Array Oper} {rest : List Oper} {i j : Nat} {ty : TypeId} {pos : String} {af : Array Edge} {a : Act} {w : World} {Q : Exit → Act → World → Prop} {g k : Nat}
/-- A mapping is stored whole. -/
theorem stMp {zs : List Value} (hx : a.eval (.tmp i) = .pointer (some ⟨g, 0, none⟩)) (hy : a.eval (.tmp j) = .agg (mpC k).toArray) (hB : Blk w g 126 zs) (hz : zs.length = 2)
    (h : ∀ W, Blk W g 126 (mpC k) → w.grownBy W (some g) → wpList Tryz.prog ops Q rest (a.put none undef) W) :
    wpList Tryz.prog ops Q ({ dst := none, op := .store 126 (.tmp i) (.tmp j), type := ty, pos := pos, after := af, guard := none } :: rest) a w := by
  have e : lay zs 0 (mpC k) = mpC k := by
    have hl : (mpC k).length = 2 := rfl
    unfold lay
    rw [hl, List.take_zero, List.nil_append, List.drop_eq_nil_of_le (by omega), List.append_nil]
  exact wpList_store_part (cs := mpC k) (by rw [infoM]; rfl) hx hy hB (by rw [hz]; exact Nat.le_refl _) (mpC_one k) fun W q1 q2 => h W (by rw [← e]; exact q1) q2
end
/-- What the search gives. -/
def IdxAns {α : Type} (w : World) (l : List α) (keep : α → Bool) (e : Ending) (w' : World) : Prop :=
  Below w.heap.size w w' ∧ ((e = .returned (.int .i64 (-1)) ∧ ∀ x ∈ l, keep x = true) ∨ ∃ (i : Nat) (x : α), e = .returned (.int .i64 i) ∧ l[i]? = some x ∧ keep x = false ∧ ∀ y ∈ l.take i, keep y = true)
/-- What the deletion gives. -/
def DelK {α : Type} (enc : α → List Value) (k : Nat) (t : TypeId) (w : World) (base : Nat) (V : Value) (l : List α) (e : Ending) (w' : World) : Prop :=
  ∃ V', e = .returned V' ∧ w'.ownsRow base t k V' l.length (l.flatMap enc) ∧ w.grownBy w' V.ownBlock ∧ V'.ownBlock = V.ownBlock
/-- What is known of the function: it keeps an element or not, and makes new memory alone. -/
structure KeepsClr (gc : Nat) (g : Nat) (l : List Nd) (keep : Nd → Bool) (G : World → Prop) : Prop where
  call : ∀ (W : World) (x : Nd), x ∈ l → G W → Calls Tryz.prog 131 #[.agg (ndC x).toArray, .pointer (some ⟨gc, 0, none⟩)] W fun e W' => e = .returned (.bool (!keep x)) ∧ Below W.heap.size W W'
  below : ∀ W W', G W → Below W.heap.size W W' → G W'
  row : ∀ W W', G W → W.grownBy W' (some g) → G W'
set_option maxRecDepth 100000 in set_option maxHeartbeats 3200000 in
theorem idxClr (gc : Nat) (g n cap base : Nat) (keep : Nd → Bool) (G : World → Prop) (l : List Nd) (w : World) (HK : KeepsClr gc g l keep G) (HG : G w) (hO : w.ownsRow base 183 9 (.slice (some ⟨g, 0, none⟩) n cap) n (l.flatMap ndC)) (hn : l.length = n) (hm : n ≤ 100000) :
    Calls Tryz.prog 167 #[.slice (some ⟨g, 0, none⟩) n cap, .func (.func 131) #[] #[.pointer (some ⟨gc, 0, none⟩)]] w (IdxAns w l keep) := by
  have HN := Lib.hid hn; have HKK := Lib.hid HK; have HG0 := Lib.hid HG; have HO := Lib.hid hO
  clear hn HK HG hO
  go_enter Tryz.func167, Tryz.ntmps167
  go_wp2
  go_loopg [8] n (fun gg v8 wr => ∃ i : Nat, i + gg = n ∧ v8 = .int .i64 i ∧ Below w.heap.size w wr ∧ ∀ y ∈ l.take i, keep y = true)
  case atStart => exact ⟨0, by omega, rfl, Below.refl _ _, by simp⟩
  case round =>
    obtain ⟨i, hi, rfl, hb, hall⟩ := hrel
    have HALL := Lib.hid hall
    clear hall
    cases gk with
    | zero =>
      obtain rfl : n = i := by omega
      have hin : ¬ n < n := by omega
      clear hi
      go_wp2
      go_ret
      exact ⟨hb, .inl ⟨rfl, fun x hx => HALL.out x (by rw [← HN.out, List.take_length]; exact hx)⟩⟩
    | succ gg =>
      have hin : i < n := by omega
      have HI := Lib.hid hi
      obtain ⟨x, hx⟩ := get_some HN.out hin
      obtain ⟨zs, hB, hz⟩ := own_elem ndC_len (own_later HO.out hb) hx
      have HX := Lib.hid hx; have HZ := Lib.hid hz
      have hcl := HKK.out.call wr x (List.mem_of_getElem? HX.out) (HKK.out.below _ _ HG0.out hb)
      have HCL := Lib.hid hcl
      clear hi hx hz hcl
      go_wp2_with ((with_reducible refine wpList_load_part Tryz.underlying183 rfl (by rw [infoN]; exact congrArg some (ndC_len x).symm) ?_ hB HZ.out ?_); (focus rfl))
      refine HCL.out.mono ?_
      rintro e w2 ⟨rfl, b2⟩
      have hb2 := below_then hb b2
      clear HCL HZ hB b2
      cases hk : keep x with
      | true =>
        have HKX := Lib.hid hk
        clear hk
        simp only [Bool.not_true]
        go_wp2
        go_roundg gg
        case rel => exact ⟨i + 1, by have := HI.out; omega, by go_num, hb2, fun y hy => by
          rw [List.take_add_one, HX.out] at hy
          rcases List.mem_append.1 hy with hy | hy
          · exact HALL.out y hy
          · simp at hy; rw [hy]; exact HKX.out⟩
        case measure => omega
      | false =>
        have HKX := Lib.hid hk
        clear hk
        simp only [Bool.not_false]
        go_wp2
        go_ret
        exact ⟨hb2, .inr ⟨i, x, rfl, HX.out, HKX.out, HALL.out⟩⟩
/-- What is known of the function: it keeps an element or not, and makes new memory alone. -/
structure KeepsDrp (gc : Nat) (g : Nat) (l : List Nat) (keep : Nat → Bool) (G : World → Prop) : Prop where
  call : ∀ (W : World) (x : Nat), x ∈ l → G W → Calls Tryz.prog 136 #[.agg (mpC x).toArray, .pointer (some ⟨gc, 0, none⟩)] W fun e W' => e = .returned (.bool (!keep x)) ∧ Below W.heap.size W W'
  below : ∀ W W', G W → Below W.heap.size W W' → G W'
  row : ∀ W W', G W → W.grownBy W' (some g) → G W'
set_option maxRecDepth 100000 in set_option maxHeartbeats 3200000 in
theorem idxDrp (gc : Nat) (g n cap base : Nat) (keep : Nat → Bool) (G : World → Prop) (l : List Nat) (w : World) (HK : KeepsDrp gc g l keep G) (HG : G w) (hO : w.ownsRow base 126 2 (.slice (some ⟨g, 0, none⟩) n cap) n (l.flatMap mpC)) (hn : l.length = n) (hm : n ≤ 100000) :
    Calls Tryz.prog 172 #[.slice (some ⟨g, 0, none⟩) n cap, .func (.func 136) #[] #[.pointer (some ⟨gc, 0, none⟩)]] w (IdxAns w l keep) := by
  have HN := Lib.hid hn; have HKK := Lib.hid HK; have HG0 := Lib.hid HG; have HO := Lib.hid hO
  clear hn HK HG hO
  go_enter Tryz.func172, Tryz.ntmps172
  go_wp2
  go_loopg [8] n (fun gg v8 wr => ∃ i : Nat, i + gg = n ∧ v8 = .int .i64 i ∧ Below w.heap.size w wr ∧ ∀ y ∈ l.take i, keep y = true)
  case atStart => exact ⟨0, by omega, rfl, Below.refl _ _, by simp⟩
  case round =>
    obtain ⟨i, hi, rfl, hb, hall⟩ := hrel
    have HALL := Lib.hid hall
    clear hall
    cases gk with
    | zero =>
      obtain rfl : n = i := by omega
      have hin : ¬ n < n := by omega
      clear hi
      go_wp2
      go_ret
      exact ⟨hb, .inl ⟨rfl, fun x hx => HALL.out x (by rw [← HN.out, List.take_length]; exact hx)⟩⟩
    | succ gg =>
      have hin : i < n := by omega
      have HI := Lib.hid hi
      obtain ⟨x, hx⟩ := get_some HN.out hin
      obtain ⟨zs, hB, hz⟩ := own_elem mpC_len (own_later HO.out hb) hx
      have HX := Lib.hid hx; have HZ := Lib.hid hz
      have hcl := HKK.out.call wr x (List.mem_of_getElem? HX.out) (HKK.out.below _ _ HG0.out hb)
      have HCL := Lib.hid hcl
      clear hi hx hz hcl
      go_wp2_with ((with_reducible refine wpList_load_part Tryz.underlying126 rfl (by rw [infoM]; exact congrArg some (mpC_len x).symm) ?_ hB HZ.out ?_); (focus rfl))
      refine HCL.out.mono ?_
      rintro e w2 ⟨rfl, b2⟩
      have hb2 := below_then hb b2
      clear HCL HZ hB b2
      cases hk : keep x with
      | true =>
        have HKX := Lib.hid hk
        clear hk
        simp only [Bool.not_true]
        go_wp2
        go_roundg gg
        case rel => exact ⟨i + 1, by have := HI.out; omega, by go_num, hb2, fun y hy => by
          rw [List.take_add_one, HX.out] at hy
          rcases List.mem_append.1 hy with hy | hy
          · exact HALL.out y hy
          · simp at hy; rw [hy]; exact HKX.out⟩
        case measure => omega
      | false =>
        have HKX := Lib.hid hk
        clear hk
        simp only [Bool.not_false]
        go_wp2
        go_ret
        exact ⟨hb2, .inr ⟨i, x, rfl, HX.out, HKX.out, HALL.out⟩⟩
/-- What is known of the function: it keeps an element or not, and makes new memory alone. -/
structure KeepsChk  (g : Nat) (l : List Nat) (keep : Nat → Bool) (G : World → Prop) : Prop where
  call : ∀ (W : World) (x : Nat), x ∈ l → G W → Calls Tryz.prog 159 #[.agg (mpC x).toArray] W fun e W' => e = .returned (.bool (!keep x)) ∧ Below W.heap.size W W'
  below : ∀ W W', G W → Below W.heap.size W W' → G W'
  row : ∀ W W', G W → W.grownBy W' (some g) → G W'
set_option maxRecDepth 100000 in set_option maxHeartbeats 3200000 in
theorem idxChk  (g n cap base : Nat) (keep : Nat → Bool) (G : World → Prop) (l : List Nat) (w : World) (HK : KeepsChk  g l keep G) (HG : G w) (hO : w.ownsRow base 126 2 (.slice (some ⟨g, 0, none⟩) n cap) n (l.flatMap mpC)) (hn : l.length = n) (hm : n ≤ 100000) :
    Calls Tryz.prog 172 #[.slice (some ⟨g, 0, none⟩) n cap, .func (.func 159) #[] #[]] w (IdxAns w l keep) := by
  have HN := Lib.hid hn; have HKK := Lib.hid HK; have HG0 := Lib.hid HG; have HO := Lib.hid hO
  clear hn HK HG hO
  go_enter Tryz.func172, Tryz.ntmps172
  go_wp2
  go_loopg [8] n (fun gg v8 wr => ∃ i : Nat, i + gg = n ∧ v8 = .int .i64 i ∧ Below w.heap.size w wr ∧ ∀ y ∈ l.take i, keep y = true)
  case atStart => exact ⟨0, by omega, rfl, Below.refl _ _, by simp⟩
  case round =>
    obtain ⟨i, hi, rfl, hb, hall⟩ := hrel
    have HALL := Lib.hid hall
    clear hall
    cases gk with
    | zero =>
      obtain rfl : n = i := by omega
      have hin : ¬ n < n := by omega
      clear hi
      go_wp2
      go_ret
      exact ⟨hb, .inl ⟨rfl, fun x hx => HALL.out x (by rw [← HN.out, List.take_length]; exact hx)⟩⟩
    | succ gg =>
      have hin : i < n := by omega
      have HI := Lib.hid hi
      obtain ⟨x, hx⟩ := get_some HN.out hin
      obtain ⟨zs, hB, hz⟩ := own_elem mpC_len (own_later HO.out hb) hx
      have HX := Lib.hid hx; have HZ := Lib.hid hz
      have hcl := HKK.out.call wr x (List.mem_of_getElem? HX.out) (HKK.out.below _ _ HG0.out hb)
      have HCL := Lib.hid hcl
      clear hi hx hz hcl
      go_wp2_with ((with_reducible refine wpList_load_part Tryz.underlying126 rfl (by rw [infoM]; exact congrArg some (mpC_len x).symm) ?_ hB HZ.out ?_); (focus rfl))
      refine HCL.out.mono ?_
      rintro e w2 ⟨rfl, b2⟩
      have hb2 := below_then hb b2
      clear HCL HZ hB b2
      cases hk : keep x with
      | true =>
        have HKX := Lib.hid hk
        clear hk
        simp only [Bool.not_true]
        go_wp2
        go_roundg gg
        case rel => exact ⟨i + 1, by have := HI.out; omega, by go_num, hb2, fun y hy => by
          rw [List.take_add_one, HX.out] at hy
          rcases List.mem_append.1 hy with hy | hy
          · exact HALL.out y hy
          · simp at hy; rw [hy]; exact HKX.out⟩
        case measure => omega
      | false =>
        have HKX := Lib.hid hk
        clear hk
        simp only [Bool.not_false]
        go_wp2
        go_ret
        exact ⟨hb2, .inr ⟨i, x, rfl, HX.out, HKX.out, HALL.out⟩⟩
theorem clr_info (K : Nat) (t : TypeId) (z : Value) (b : Nat) (h : (Tryz.prog.info? t).map (fun i => (i.zero, i.size, i.bytes)) = some (some z, K, b)) (hs : z.cells.size = K) (h1 : ∀ v ∈ z.cells.toList, v.oneCell' = true) : ∃ i z, Tryz.prog.info? t = some i ∧ i.zero = some z ∧ z.cells.size = K ∧ ∀ v ∈ z.cells.toList, v.oneCell' = true := by
  obtain ⟨i, hi, hz0, hz1, hz2⟩ := info_parts h
  exact ⟨i, _, hi, hz0, hs, h1⟩
theorem clrN : ∃ i z, Tryz.prog.info? 183 = some i ∧ i.zero = some z ∧ z.cells.size = 9 ∧ ∀ v ∈ z.cells.toList, v.oneCell' = true :=
  clr_info 9 183 (.agg #[.int .i64 0, .int .u64 0, .int .u64 0, .int .u64 0, .int .u64 0, .int .u64 0, .int .u64 0, .int .u64 0, .int .u64 0]) 72 (by kernel_rfl) rfl (by intro v hv; simp [Value.cells] at hv; rcases hv with rfl | rfl <;> rfl)
theorem clrM : ∃ i z, Tryz.prog.info? 126 = some i ∧ i.zero = some z ∧ z.cells.size = 2 ∧ ∀ v ∈ z.cells.toList, v.oneCell' = true :=
  clr_info 2 126 (.agg #[.int .i64 0, .int .i64 0]) 16 (by kernel_rfl) rfl (by intro v hv; simp [Value.cells] at hv; subst hv; rfl)
/-- A state of the deletion: the first i elements are those that are kept of the first j. -/
structure DelS {α : Type} (l cur : List α) (keep : α → Bool) (n i j : Nat) : Prop where
  ln : cur.length = n
  ij : i < j
  jn : j ≤ n
  tk : cur.take i = (l.take j).filter keep
  dr : ∀ q, j ≤ q → cur[q]? = l[q]?
theorem DelS.skip {α : Type} {l cur : List α} {keep : α → Bool} {n i j : Nat} {x : α} (h : DelS l cur keep n i j) (hx : l[j]? = some x) (hk : keep x = false) (hj : j < n) : DelS l cur keep n i (j + 1) :=
  ⟨h.ln, by have := h.ij; omega, hj, by rw [filter_next hx, hk, h.tk]; simp, fun q hq => h.dr q (by omega)⟩
theorem DelS.keep {α : Type} {l cur : List α} {keep : α → Bool} {n i j : Nat} {x : α} (h : DelS l cur keep n i j) (hx : l[j]? = some x) (hk : keep x = true) (hj : j < n) : DelS l (cur.set i x) keep n (i + 1) (j + 1) := by
  have h1 := h.ij
  have h2 := h.ln
  refine ⟨by rw [List.length_set]; exact h.ln, by omega, hj, ?_, fun q hq => ?_⟩
  · rw [filter_next hx, hk, List.take_add_one, List.getElem?_set_self (by omega), List.take_set_of_le (Nat.le_refl i), h.tk]; rfl
  · rw [List.getElem?_set_ne (by omega)]; exact h.dr q (by omega)
set_option maxRecDepth 100000 in set_option maxHeartbeats 3200000 in
theorem delClr (gc g n cap base : Nat) (keep : Nd → Bool) (G : World → Prop) (l : List Nd) (w : World) (HK : KeepsClr gc g l keep G) (HG : G w) (hO : w.ownsRow base 183 9 (.slice (some ⟨g, 0, none⟩) n cap) n (l.flatMap ndC)) (hn : l.length = n) (hm : n ≤ 100000) :
    Calls Tryz.prog 130 #[.slice (some ⟨g, 0, none⟩) n cap, .func (.func 131) #[] #[.pointer (some ⟨gc, 0, none⟩)]] w (DelK ndC 9 183 w base (.slice (some ⟨g, 0, none⟩) n cap) (l.filter keep)) := by
  have HIX := Lib.hid (idxClr gc g n cap base keep G l w HK HG hO hn hm)
  have HN := Lib.hid hn; have HKK := Lib.hid HK; have HG0 := Lib.hid HG; have HO := Lib.hid hO
  obtain ⟨_, _, _, _, _, hnc, hcm⟩ := own_open hO
  unfold maxLen at hcm
  clear hn HK HG hO
  go_enter Tryz.func130, Tryz.ntmps130
  go_wp2_with fail
  refine HIX.out.mono ?_
  rintro e w2 ⟨b2, ⟨rfl, hall⟩ | ⟨i0, x0, rfl, hx0, hk0, hall⟩⟩
  · have O2 := own_later HO.out b2
    have HFA := Lib.hid (filter_all hall)
    clear hall HIX
    go_wp2
    go_ret
    refine ⟨_, rfl, ?_, below_grow _ b2, rfl⟩
    rw [HFA.out, HN.out]; exact O2
  · have O2 := own_later HO.out b2
    have G2 := HKK.out.below _ _ HG0.out b2
    have hi0 : i0 < n := by rw [← HN.out]; exact (List.getElem?_eq_some_iff.1 hx0).1
    have D2 : DelS l l keep n i0 (i0 + 1) := ⟨HN.out, by omega, hi0, by rw [filter_next hx0, hk0, filter_all hall]; simp, fun _ _ => rfl⟩
    have g2 : w.grownBy w2 (some g) := below_grow _ b2
    have ti : ((i0 : Int) == -1) = false := by simp
    clear hall HIX hx0 hk0 b2
    go_wp2
    go_loopg [5, 6] (n - (i0 + 1)) (fun gg v5 v6 wr => ∃ (i j : Nat) (cur : List Nd), j + gg = n ∧ v5 = .int .i64 i ∧ v6 = .int .i64 j ∧ wr.ownsRow base 183 9 (.slice (some ⟨g, 0, none⟩) n cap) n (cur.flatMap ndC) ∧ G wr ∧ w.grownBy wr (some g) ∧ DelS l cur keep n i j)
    case atStart => exact ⟨i0, i0 + 1, l, by omega, rfl, by go_num, O2, G2, g2, D2⟩
    case round =>
      clear O2 G2 g2 D2
      obtain ⟨i, j, cur, hj, rfl, rfl, O3, G3, g3, D3⟩ := hrel
      have hij := D3.ij
      have hjn := D3.jn
      have HG3 := Lib.hid G3; have HD3 := Lib.hid D3
      cases gk with
      | zero =>
        obtain rfl : n = j := by omega
        have hin : ¬ n < n := by omega
        obtain ⟨zs, hB, hcl, htk, hbg, hn1, hc1⟩ := own_open O3
        have HCL := Lib.hid hcl; have HTK := Lib.hid htk
        have z1 : ¬ cap = i := by omega
        have z2 : (i : Int) ≤ (n : Int) := by omega
        have z3 : ¬ ((n : Int) = 0) := by omega
        have hfit : i * 9 + (n - i) * 9 ≤ zs.length := by rw [hcl]; omega
        clear hj O3 D3 G3 hcl htk
        go_wp2_with (refine wpList_clear_k Tryz.underlying117 clrN rfl (.tmp 38) rfl g (i * 9) _ _ rfl ?d0 _ 183 hB ?d1 ?_)
        case d0 => omega
        case d1 => exact hfit
        intro w3 new hB3 hln htk hg3
        have hown := own_shut (B := base) (n := i) (k := 9) (cap := cap) hbg hB3 (by omega) hc1 (by rw [hln]; exact HCL.out) rfl
        have hg4 := trans_grown g3 hg3
        have HF := Lib.hid (show new.take (i * 9) = (l.filter keep).flatMap ndC from by
          have h1 := HD3.out.tk
          rw [show n = l.length from HN.out.symm, List.take_length] at h1
          rw [htk, ← h1, ← flat_take ndC_len, ← HTK.out, List.take_take]
          congr 1; omega)
        have HLF := Lib.hid (show (l.filter keep).length = i from by
          have h1 := HD3.out.tk
          rw [show n = l.length from HN.out.symm, List.take_length] at h1
          have := HD3.out.ln
          rw [← h1, List.length_take]; omega)
        clear hB hB3 hg3 htk hfit
        go_wp2
        go_ret
        refine ⟨_, rfl, ?_, hg4, rfl⟩
        rw [HLF.out, ← HF.out]
        exact hown
      | succ gg =>
        have hin : j < n := by omega
        have HJ := Lib.hid hj
        obtain ⟨x, hx⟩ := get_some HN.out hin
        have hxc : cur[j]? = some x := by rw [D3.dr j (Nat.le_refl _)]; exact hx
        obtain ⟨zs, hB, hz⟩ := own_elem ndC_len O3 hxc
        have HX := Lib.hid hx; have HZ := Lib.hid hz
        have hZ := Blk.new wr 183 #[.int .i64 0, .int .u64 0, .int .u64 0, .int .u64 0, .int .u64 0, .int .u64 0, .int .u64 0, .int .u64 0, .int .u64 0] _ rfl
        have bz := below_box wr (.cells #[.int .i64 0, .int .u64 0, .int .u64 0, .int .u64 0, .int .u64 0, .int .u64 0, .int .u64 0, .int .u64 0, .int .u64 0] 183)
        clear hj hx hxc hz D3 G3
        go_upto_region 8 with first | ((with_reducible refine wpList_load_part Tryz.underlying183 rfl (by rw [infoN]; exact congrArg some (ndC_len x).symm) ?_ hB HZ.out ?_); (focus rfl)) | ((with_reducible refine stNd (nd := x) ?_ ?_ hZ rfl ?_); (focus rfl); (focus rfl); intro w4 hB4 hg4)
        have b4 : Below wr.heap.size wr w4 := bz.grown hg4 bz.size (fun q hq => by cases hq; exact Nat.le_refl _)
        have O4 := own_later O3 b4
        have G4 := HKK.out.below _ _ HG3.out b4
        have g4 := trans_grown g3 (below_grow (some g) b4)
        have hcl := HKK.out.call w4 x (List.mem_of_getElem? HX.out) G4
        have HCL := Lib.hid hcl
        obtain ⟨gl, hgl⟩ : ∃ q, wr.heap.size = q := ⟨_, rfl⟩
        rw [hgl] at hB4 ⊢
        clear hB hZ bz hg4 b4 hgl hcl HZ O3 g3
        try simp only [Act.put]
        go_wp2_with ((with_reducible refine wpList_load_part Tryz.underlying183 rfl (by rw [infoN]; exact congrArg some (ndC_len x).symm) ?_ hB4 (fun j v hv => (by rw [Nat.zero_add]; exact hv)) ?_); (focus rfl))
        refine HCL.out.mono ?_
        rintro e w5 ⟨rfl, b5⟩
        have O5 := own_later O4 b5
        have HG5 := Lib.hid (HKK.out.below _ _ G4 b5)
        have g5 := trans_grown g4 (below_grow (some g) b5)
        have hB5 := hB4.later b5
        clear O4 G4 g4 hB4 b5 HCL
        cases hk : keep x with
        | false =>
          have HD5 := Lib.hid (HD3.out.skip HX.out hk hin)
          clear hk
          simp only [Bool.not_false]
          go_wp2
          go_roundg gg
          case rel => exact ⟨i, j + 1, cur, by have := HJ.out; omega, rfl, by go_num, O5, HG5.out, g5, HD5.out⟩
          case measure => omega
        | true =>
          have HD5 := Lib.hid (HD3.out.keep HX.out hk hin)
          obtain ⟨zs, hB, hfit, hK⟩ := own_write ndC_len O5 HD3.out.ln (show i < n by omega) x
          have HKW := Lib.hid hK
          clear hk O5 hK
          simp only [Bool.not_true]
          go_upto_region 10 with first | ((with_reducible refine wpList_load_part Tryz.underlying183 rfl (by rw [infoN]; exact congrArg some (ndC_len x).symm) ?_ hB5 (fun j v hv => (by rw [Nat.zero_add]; exact hv)) ?_); (focus rfl)) | ((with_reducible refine wpList_store_part (off := i * 9) (cs := ndC x) (by rw [infoN]; exact congrArg some (ndC_len x).symm) ?_ ?_ hB hfit (ndC_one x) ?_); (focus rfl); (focus rfl); intro w7 hB7 hg7)
          have O7 := HKW.out w7 hB7
          have HG7 := Lib.hid (HKK.out.row _ _ HG5.out hg7)
          have g7 := trans_grown g5 hg7
          clear hB hfit HKW hB7 hg7 hB5 g5 HG5
          try simp only [Act.put]
          go_wp2
          go_roundg gg
          case rel => exact ⟨i + 1, j + 1, _, by have := HJ.out; omega, by go_num, by go_num, O7, HG7.out, g7, HD5.out⟩
          case measure => omega
set_option maxRecDepth 100000 in set_option maxHeartbeats 3200000 in
theorem delDrp (gc g n cap base : Nat) (keep : Nat → Bool) (G : World → Prop) (l : List Nat) (w : World) (HK : KeepsDrp gc g l keep G) (HG : G w) (hO : w.ownsRow base 126 2 (.slice (some ⟨g, 0, none⟩) n cap) n (l.flatMap mpC)) (hn : l.length = n) (hm : n ≤ 100000) :
    Calls Tryz.prog 135 #[.slice (some ⟨g, 0, none⟩) n cap, .func (.func 136) #[] #[.pointer (some ⟨gc, 0, none⟩)]] w (DelK mpC 2 126 w base (.slice (some ⟨g, 0, none⟩) n cap) (l.filter keep)) := by
  have HIX := Lib.hid (idxDrp gc g n cap base keep G l w HK HG hO hn hm)
  have HN := Lib.hid hn; have HKK := Lib.hid HK; have HG0 := Lib.hid HG; have HO := Lib.hid hO
  obtain ⟨_, _, _, _, _, hnc, hcm⟩ := own_open hO
  unfold maxLen at hcm
  clear hn HK HG hO
  go_enter Tryz.func135, Tryz.ntmps135
  go_wp2_with fail
  refine HIX.out.mono ?_
  rintro e w2 ⟨b2, ⟨rfl, hall⟩ | ⟨i0, x0, rfl, hx0, hk0, hall⟩⟩
  · have O2 := own_later HO.out b2
    have HFA := Lib.hid (filter_all hall)
    clear hall HIX
    go_wp2
    go_ret
    refine ⟨_, rfl, ?_, below_grow _ b2, rfl⟩
    rw [HFA.out, HN.out]; exact O2
  · have O2 := own_later HO.out b2
    have G2 := HKK.out.below _ _ HG0.out b2
    have hi0 : i0 < n := by rw [← HN.out]; exact (List.getElem?_eq_some_iff.1 hx0).1
    have D2 : DelS l l keep n i0 (i0 + 1) := ⟨HN.out, by omega, hi0, by rw [filter_next hx0, hk0, filter_all hall]; simp, fun _ _ => rfl⟩
    have g2 : w.grownBy w2 (some g) := below_grow _ b2
    have ti : ((i0 : Int) == -1) = false := by simp
    clear hall HIX hx0 hk0 b2
    go_wp2
    go_loopg [5, 6] (n - (i0 + 1)) (fun gg v5 v6 wr => ∃ (i j : Nat) (cur : List Nat), j + gg = n ∧ v5 = .int .i64 i ∧ v6 = .int .i64 j ∧ wr.ownsRow base 126 2 (.slice (some ⟨g, 0, none⟩) n cap) n (cur.flatMap mpC) ∧ G wr ∧ w.grownBy wr (some g) ∧ DelS l cur keep n i j)
    case atStart => exact ⟨i0, i0 + 1, l, by omega, rfl, by go_num, O2, G2, g2, D2⟩
    case round =>
      clear O2 G2 g2 D2
      obtain ⟨i, j, cur, hj, rfl, rfl, O3, G3, g3, D3⟩ := hrel
      have hij := D3.ij
      have hjn := D3.jn
      have HG3 := Lib.hid G3; have HD3 := Lib.hid D3
      cases gk with
      | zero =>
        obtain rfl : n = j := by omega
        have hin : ¬ n < n := by omega
        obtain ⟨zs, hB, hcl, htk, hbg, hn1, hc1⟩ := own_open O3
        have HCL := Lib.hid hcl; have HTK := Lib.hid htk
        have z1 : ¬ cap = i := by omega
        have z2 : (i : Int) ≤ (n : Int) := by omega
        have z3 : ¬ ((n : Int) = 0) := by omega
        have hfit : i * 2 + (n - i) * 2 ≤ zs.length := by rw [hcl]; omega
        clear hj O3 D3 G3 hcl htk
        go_wp2_with (refine wpList_clear_k Tryz.underlying123 clrM rfl (.tmp 38) rfl g (i * 2) _ _ rfl ?d0 _ 126 hB ?d1 ?_)
        case d0 => omega
        case d1 => exact hfit
        intro w3 new hB3 hln htk hg3
        have hown := own_shut (B := base) (n := i) (k := 2) (cap := cap) hbg hB3 (by omega) hc1 (by rw [hln]; exact HCL.out) rfl
        have hg4 := trans_grown g3 hg3
        have HF := Lib.hid (show new.take (i * 2) = (l.filter keep).flatMap mpC from by
          have h1 := HD3.out.tk
          rw [show n = l.length from HN.out.symm, List.take_length] at h1
          rw [htk, ← h1, ← flat_take mpC_len, ← HTK.out, List.take_take]
          congr 1; omega)
        have HLF := Lib.hid (show (l.filter keep).length = i from by
          have h1 := HD3.out.tk
          rw [show n = l.length from HN.out.symm, List.take_length] at h1
          have := HD3.out.ln
          rw [← h1, List.length_take]; omega)
        clear hB hB3 hg3 htk hfit
        go_wp2
        go_ret
        refine ⟨_, rfl, ?_, hg4, rfl⟩
        rw [HLF.out, ← HF.out]
        exact hown
      | succ gg =>
        have hin : j < n := by omega
        have HJ := Lib.hid hj
        obtain ⟨x, hx⟩ := get_some HN.out hin
        have hxc : cur[j]? = some x := by rw [D3.dr j (Nat.le_refl _)]; exact hx
        obtain ⟨zs, hB, hz⟩ := own_elem mpC_len O3 hxc
        have HX := Lib.hid hx; have HZ := Lib.hid hz
        have hZ := Blk.new wr 126 #[.int .i64 0, .int .i64 0] _ rfl
        have bz := below_box wr (.cells #[.int .i64 0, .int .i64 0] 126)
        clear hj hx hxc hz D3 G3
        go_upto_region 8 with first | ((with_reducible refine wpList_load_part Tryz.underlying126 rfl (by rw [infoM]; exact congrArg some (mpC_len x).symm) ?_ hB HZ.out ?_); (focus rfl)) | ((with_reducible refine stMp (k := x) ?_ ?_ hZ rfl ?_); (focus rfl); (focus rfl); intro w4 hB4 hg4)
        have b4 : Below wr.heap.size wr w4 := bz.grown hg4 bz.size (fun q hq => by cases hq; exact Nat.le_refl _)
        have O4 := own_later O3 b4
        have G4 := HKK.out.below _ _ HG3.out b4
        have g4 := trans_grown g3 (below_grow (some g) b4)
        have hcl := HKK.out.call w4 x (List.mem_of_getElem? HX.out) G4
        have HCL := Lib.hid hcl
        obtain ⟨gl, hgl⟩ : ∃ q, wr.heap.size = q := ⟨_, rfl⟩
        rw [hgl] at hB4 ⊢
        clear hB hZ bz hg4 b4 hgl hcl HZ O3 g3
        try simp only [Act.put]
        go_wp2_with ((with_reducible refine wpList_load_part Tryz.underlying126 rfl (by rw [infoM]; exact congrArg some (mpC_len x).symm) ?_ hB4 (fun j v hv => (by rw [Nat.zero_add]; exact hv)) ?_); (focus rfl))
        refine HCL.out.mono ?_
        rintro e w5 ⟨rfl, b5⟩
        have O5 := own_later O4 b5
        have HG5 := Lib.hid (HKK.out.below _ _ G4 b5)
        have g5 := trans_grown g4 (below_grow (some g) b5)
        have hB5 := hB4.later b5
        clear O4 G4 g4 hB4 b5 HCL
        cases hk : keep x with
        | false =>
          have HD5 := Lib.hid (HD3.out.skip HX.out hk hin)
          clear hk
          simp only [Bool.not_false]
          go_wp2
          go_roundg gg
          case rel => exact ⟨i, j + 1, cur, by have := HJ.out; omega, rfl, by go_num, O5, HG5.out, g5, HD5.out⟩
          case measure => omega
        | true =>
          have HD5 := Lib.hid (HD3.out.keep HX.out hk hin)
          obtain ⟨zs, hB, hfit, hK⟩ := own_write mpC_len O5 HD3.out.ln (show i < n by omega) x
          have HKW := Lib.hid hK
          clear hk O5 hK
          simp only [Bool.not_true]
          go_upto_region 10 with first | ((with_reducible refine wpList_load_part Tryz.underlying126 rfl (by rw [infoM]; exact congrArg some (mpC_len x).symm) ?_ hB5 (fun j v hv => (by rw [Nat.zero_add]; exact hv)) ?_); (focus rfl)) | ((with_reducible refine wpList_store_part (off := i * 2) (cs := mpC x) (by rw [infoM]; exact congrArg some (mpC_len x).symm) ?_ ?_ hB hfit (mpC_one x) ?_); (focus rfl); (focus rfl); intro w7 hB7 hg7)
          have O7 := HKW.out w7 hB7
          have HG7 := Lib.hid (HKK.out.row _ _ HG5.out hg7)
          have g7 := trans_grown g5 hg7
          clear hB hfit HKW hB7 hg7 hB5 g5 HG5
          try simp only [Act.put]
          go_wp2
          go_roundg gg
          case rel => exact ⟨i + 1, j + 1, _, by have := HJ.out; omega, by go_num, by go_num, O7, HG7.out, g7, HD5.out⟩
          case measure => omega
end Go.Proofs.YtdddkfpcbfgocaaGreat
namespace Go.Proofs.YtdddkfpcbfgocaaGreat
open Go.RowKit Go.Over Go.Seg Go.Grow Go.Pt
/-- Where a number stands. -/
def IdI (F : List Int) (x : Int) (w : World) (e : Ending) (w' : World) : Prop := ∃ r : Int, e = .returned (.int .i64 r) ∧ (0 ≤ r ↔ x ∈ F) ∧ -1 ≤ r ∧ r ≤ 1000000 ∧ w = w'
set_option maxRecDepth 100000 in set_option maxHeartbeats 3200000 in
theorem idxI (v : Value) (F : List Int) (x : Int) (w : World) (H : Sl w v F) (hm : F.length ≤ 1000) : Calls Tryz.prog 168 #[v, .int .i64 x] w (IdI F x w) := by
  obtain ⟨a, c, rfl, h1, h2, h3, hI⟩ := H
  obtain ⟨n, hn⟩ : ∃ n, F.length = n := ⟨_, rfl⟩
  rw [hn] at h1 hm ⊢
  have HN := Lib.hid hn
  clear hn h1 h2 h3
  go_enter Tryz.func168, Tryz.ntmps168
  go_wp2
  go_loopg [8] n (fun gg v8 wr => ∃ i : Nat, i + gg = n ∧ v8 = .int .i64 i ∧ w = wr ∧ x ∉ F.take i)
  case atStart => exact ⟨0, by omega, rfl, rfl, by simp⟩
  case round =>
    obtain ⟨i, hi, rfl, rfl, hnot⟩ := hrel
    have HNT := Lib.hid hnot
    clear hnot
    cases gk with
    | zero =>
      obtain rfl : n = i := by omega
      have hin : ¬ n < n := by omega
      clear hi
      go_wp2
      go_ret
      refine ⟨-1, rfl, ⟨fun h => by omega, fun h => ?_⟩, by omega, by omega, rfl⟩
      have := HNT.out
      rw [← HN.out, List.take_length] at this
      exact absurd h this
    | succ gg =>
      have hin : i < n := by omega
      have HI := Lib.hid hi
      obtain ⟨y, hy⟩ := get_some HN.out hin
      obtain ⟨b, off, rfl, cx⟩ := hI.at hy
      have HY := Lib.hid hy
      clear hi hy
      by_cases hxy : x = y
      · have HE := Lib.hid hxy
        have ty : (x == y) = true := by simpa using hxy
        clear hxy
        go_wp2
        go_ret
        exact ⟨i, rfl, ⟨fun _ => by rw [HE.out]; exact List.mem_of_getElem? HY.out, fun _ => by omega⟩, by omega, by omega, rfl⟩
      · have HE := Lib.hid hxy
        have ty : (x == y) = false := by simpa using hxy
        clear hxy
        go_wp2
        go_roundg gg
        case rel => exact ⟨i + 1, by have := HI.out; omega, by go_num, rfl, fun h => by
          rw [List.take_add_one, HY.out] at h
          rcases List.mem_append.1 h with h | h
          · exact HNT.out h
          · simp at h; exact HE.out h⟩
        case measure => omega
set_option maxRecDepth 100000 in set_option maxHeartbeats 3200000 in
theorem containsI (v : Value) (F : List Int) (x : Int) (w : World) (H : Sl w v F) (hm : F.length ≤ 1000) : Calls Tryz.prog 132 #[v, .int .i64 x] w fun e w' => e = .returned (.bool (F.contains x)) ∧ w = w' := by
  have HI := Lib.hid (idxI v F x w H hm)
  clear H
  go_enter Tryz.func132, Tryz.ntmps132
  go_wp2_with fail
  refine HI.out.mono ?_
  rintro e w2 ⟨r, rfl, hr, h0, h1, rfl⟩
  by_cases hx : x ∈ F
  · have h2 := hr.2 hx
    have hc : F.contains x = true := by simpa using hx
    have HC := Lib.hid hc
    clear hr hx hc HI
    go_wp2
    go_ret
    exact ⟨ret_bool HC.out.symm, rfl⟩
  · have h2 : ¬ 0 ≤ r := fun h => hx (hr.1 h)
    have hc : F.contains x = false := by simpa using hx
    have HC := Lib.hid hc
    clear hr hx hc HI
    go_wp2
    go_ret
    exact ⟨ret_bool (by rw [HC.out]; simpa using h2), rfl⟩
/-- The frames that are freed, in a variable. -/
structure FV (gc g : Nat) (B : Nat) (vF : Value) (F : List Int) (W : World) : Prop where
  x : Blk W gc 24 [vF]
  o : Own W B vF F
  n1 : gc ≠ g
  n2 : vF.ownBlock ≠ some g
set_option maxRecDepth 100000 in set_option maxHeartbeats 3200000 in
theorem clearFn (gc g B : Nat) (vF : Value) (F : List Int) (W : World) (x : Nd) (H : FV gc g B vF F W) (hm : F.length ≤ 1000) : Calls Tryz.prog 131 #[.agg (ndC x).toArray, .pointer (some ⟨gc, 0, none⟩)] W fun e W' => e = .returned (.bool (!(!F.contains x.f))) ∧ Below W.heap.size W W' := by
  have b0 := below_box W (.cells #[.int .i64 x.f, .int .u64 (wd (x.e 0)), .int .u64 (wd (x.e 1)), .int .u64 (wd (x.e 2)), .int .u64 (wd (x.e 3)), .int .u64 (wd (x.e 4)), .int .u64 (wd (x.e 5)), .int .u64 (wd (x.e 6)), .int .u64 (wd (x.e 7))] 183)
  have y0 := Blk.new W 183 #[.int .i64 x.f, .int .u64 (wd (x.e 0)), .int .u64 (wd (x.e 1)), .int .u64 (wd (x.e 2)), .int .u64 (wd (x.e 3)), .int .u64 (wd (x.e 4)), .int .u64 (wd (x.e 5)), .int .u64 (wd (x.e 6)), .int .u64 (wd (x.e 7))] (ndC x) rfl
  have x0 := H.x.later b0
  have c0 : (W.alloc (.cells #[.int .i64 x.f, .int .u64 (wd (x.e 0)), .int .u64 (wd (x.e 1)), .int .u64 (wd (x.e 2)), .int .u64 (wd (x.e 3)), .int .u64 (wd (x.e 4)), .int .u64 (wd (x.e 5)), .int .u64 (wd (x.e 6)), .int .u64 (wd (x.e 7))] 183)).cell? ⟨gc, 0, none⟩ = some vF := by rw [x0.cell]; rfl
  have hne : gc ≠ W.heap.size := by have := H.x.lt; omega
  have HCI := Lib.hid (containsI vF F x.f _ (H.o.sl.below b0) hm)
  have HE := Lib.hid (show (!(!F.contains x.f)) = F.contains x.f by simp)
  obtain ⟨q, hq⟩ : ∃ q, F.contains x.f = q := ⟨_, rfl⟩
  have HQ := Lib.hid hq
  rw [hq] at HCI HE
  clear H x0 hq
  show Calls Tryz.prog 131 #[.agg #[.int .i64 x.f, .int .u64 (wd (x.e 0)), .int .u64 (wd (x.e 1)), .int .u64 (wd (x.e 2)), .int .u64 (wd (x.e 3)), .int .u64 (wd (x.e 4)), .int .u64 (wd (x.e 5)), .int .u64 (wd (x.e 6)), .int .u64 (wd (x.e 7))], .pointer (some ⟨gc, 0, none⟩)] W _
  go_enter Tryz.func131, Tryz.ntmps131
  go_upto_region 1 with fail
  obtain ⟨w1, hw1⟩ : ∃ V, V = W.alloc (.cells #[.int .i64 x.f, .int .u64 (wd (x.e 0)), .int .u64 (wd (x.e 1)), .int .u64 (wd (x.e 2)), .int .u64 (wd (x.e 3)), .int .u64 (wd (x.e 4)), .int .u64 (wd (x.e 5)), .int .u64 (wd (x.e 6)), .int .u64 (wd (x.e 7))] 183) := ⟨_, rfl⟩
  rw [← hw1] at b0 y0 c0 HCI ⊢
  have d0 : w1.cell? ⟨W.heap.size, 0, none⟩ = some (.int .i64 x.f) := by rw [y0.cell]; rfl
  obtain ⟨g0, hg0⟩ : ∃ q, W.heap.size = q := ⟨_, rfl⟩
  have hb0 := Lib.hid b0
  rw [hg0] at d0 ⊢
  clear hw1 y0 b0 hg0
  go_wp2_with fail
  refine HCI.out.mono ?_
  rintro e w2 ⟨rfl, rfl⟩
  go_wp2
  go_ret
  refine ⟨?_, ?_⟩
  · rw [HQ.out]; exact ret_bool HE.out.symm
  · exact hb0.out
theorem FV.keeps {gc g B : Nat} {vF : Value} {F : List Int} {l : List Nd} (hm : F.length ≤ 1000) : KeepsClr gc g l (fun x => !F.contains x.f) (FV gc g B vF F) :=
  ⟨fun W x _ h => clearFn gc g B vF F W x h hm, fun _ _ h hb => ⟨h.x.later hb, own_later h.o hb, h.n1, h.n2⟩,
    fun _ _ h hg => ⟨h.x.grown hg (fun e => h.n1 (Option.some.inj e).symm), World.ownsRow.kept h.o hg (.inr h.n2), h.n1, h.n2⟩⟩
end Go.Proofs.YtdddkfpcbfgocaaGreat
namespace Go.Pt
/-- The frame of the i-th node of the walk. -/
def frI (r fm fl : Int) (i : Nat) : Int := if i = 0 then r else if i = 1 then fm else fl
/-- Where the removal stands before it comes to the i-th node. -/
structure ClrS (N : List Nd) (low : Nat → Option Int) (ent : Nat → En) (p : Nat) (fm fl : Int) (i : Nat) (C : List Nd) (F : List Int) : Prop where
  h : (i = 2 ∧ C = N ∧ F = []) ∨
    (i = 1 ∧ C = setF N fl (p % 8) e0 ∧ F = [fl] ∧ ∀ j, j < 8 → (upd ent p e0 (8 * (p / 8) + j)).k = 0) ∨
    (i = 0 ∧ C = setF (setF N fl (p % 8) e0) fm (p / 8 % 8) e0 ∧ F = [fl, fm] ∧ (∀ j, j < 8 → (upd ent p e0 (8 * (p / 8) + j)).k = 0) ∧ ∀ j, j < 8 → upd low (p / 8) none (8 * (p / 64) + j) = none)
section
variable {r : Int} {N : List Nd} {mid low : Nat → Option Int} {ent : Nat → En} {p : Nat} {fm fl : Int} {i : Nat} {C : List Nd} {F : List Int}
theorem ClrS.fs (h : ClrS N low ent p fm fl i C F) : C.map (·.f) = N.map (·.f) := by
  rcases h.h with ⟨_, rfl, _⟩ | ⟨_, rfl, _⟩ | ⟨_, rfl, _⟩
  · rfl
  · rw [setF_f]
  · rw [setF_f, setF_f]
theorem ClrS.flen (h : ClrS N low ent p fm fl i C F) : F.length ≤ 2 ∧ i ≤ 2 := by
  rcases h.h with ⟨rfl, _, rfl⟩ | ⟨rfl, _, rfl, _⟩ | ⟨rfl, _, rfl, _⟩ <;> simp
theorem ClrS.at (h : ClrS N low ent p fm fl i C F) {q : Nat} {x : Nd} (hx : N[q]? = some x) : ∃ y, C[q]? = some y ∧ y.f = x.f := by
  have h1 : (C.map (·.f))[q]? = (N.map (·.f))[q]? := by rw [h.fs]
  rw [List.getElem?_map, List.getElem?_map, hx] at h1
  cases hy : C[q]? with
  | none => rw [hy] at h1; cases h1
  | some y => rw [hy] at h1; exact ⟨y, rfl, Option.some.inj h1⟩
theorem ClrS.fo (h : ClrS N low ent p fm fl i C F) (hT : Tr r N mid low ent) : FO C := by
  rcases h.h with ⟨_, rfl, _⟩ | ⟨_, rfl, _⟩ | ⟨_, rfl, _⟩
  · exact hT.fo
  · exact hT.fo.setF _ _ _
  · exact (hT.fo.setF _ _ _).setF _ _ _
theorem dg_clr (p : Nat) (hp : p < 512) : dgP p 0 = p % 8 ∧ dgP p 1 = p / 8 % 8 ∧ dgP p 2 = p / 64 := by
  unfold dgP
  refine ⟨by simp, rfl, ?_⟩
  show p / 64 % 8 = _
  omega
theorem filt1 (f : Int) : (fun x : Nd => !([f] : List Int).contains x.f) = fun x => decide (x.f ≠ f) := by
  funext x
  by_cases h : x.f = f <;> simp [h]
theorem filt2 (f g : Int) : (fun x : Nd => !([f, g] : List Int).contains x.f) = fun x => decide (x.f ≠ g) && decide (x.f ≠ f) := by
  funext x
  by_cases h : x.f = f <;> by_cases h2 : x.f = g <;> simp [h, h2]
/-- Where the removal ends, the table is valid without the entry. -/
theorem ClrS.done (h : ClrS N low ent p fm fl i C F) (hT : Tr r N mid low ent) (hp : p < 512) (hm : mid (p / 64) = some fm) (hl : low (p / 8) = some fl) :
    ∃ mid' low', Tr r ((setF C (frI r fm fl i) (dgP p (2 - i)) e0).filter fun x => !F.contains x.f) mid' low' (upd ent p e0) := by
  obtain ⟨d0, d1, d2⟩ := dg_clr p hp
  have T1 := hT.put (E := e0) hp hl ve0 (.inl rfl)
  have hm' : mid (p / 8 / 8) = some fm := by rw [show p / 8 / 8 = p / 64 by omega]; exact hm
  rcases h.h with ⟨rfl, rfl, rfl⟩ | ⟨rfl, rfl, rfl, hz⟩ | ⟨rfl, rfl, rfl, hz, hz2⟩
  · refine ⟨mid, low, ?_⟩
    rw [show frI r fm fl 2 = fl from rfl, show 2 - 2 = 0 from rfl, d0]
    rw [filter_all (fun x _ => by simp)]
    exact T1
  · refine ⟨mid, upd low (p / 8) none, ?_⟩
    rw [show frI r fm fl 1 = fm from rfl, show 2 - 1 = 1 from rfl, d1, filt1]
    exact T1.cutLow (k := p / 8) (by omega) hm' hl hz
  · refine ⟨upd mid (p / 64) none, upd low (p / 8) none, ?_⟩
    rw [show frI r fm fl 0 = r from rfl, show 2 - 0 = 2 from rfl, d2, filt2, ← List.filter_filter, setF_filter _ r (p / 64) e0 (fun f => decide (f ≠ fl))]
    have T2 := T1.cutLow (k := p / 8) (by omega) hm' hl hz
    exact T2.cutMid (i := p / 64) (by omega) hm hz2
/-- It goes on upward from a table that is empty. -/
theorem ClrS.next (h : ClrS N low ent p fm fl i C F) (hT : Tr r N mid low ent) (hp : p < 512) (hm : mid (p / 64) = some fm) (hl : low (p / 8) = some fl) (hi : 0 < i) {q : Nat} {x : Nd} (hx : C[q]? = some x) (hxf : x.f = frI r fm fl i)
    (hz : ∀ j, j < 8 → ((ndSet x (dgP p (2 - i)) e0).e j).k = 0) : ClrS N low ent p fm fl (i - 1) (setF C (frI r fm fl i) (dgP p (2 - i)) e0) (F ++ [frI r fm fl i]) := by
  obtain ⟨d0, d1, d2⟩ := dg_clr p hp
  have T1 := hT.put (E := e0) hp hl ve0 (.inl rfl)
  have hm' : mid (p / 8 / 8) = some fm := by rw [show p / 8 / 8 = p / 64 by omega]; exact hm
  rcases h.h with ⟨rfl, rfl, rfl⟩ | ⟨rfl, rfl, rfl, hz1⟩ | ⟨rfl, _⟩
  · refine ⟨.inr (.inl ⟨rfl, ?_, rfl, fun j hj => ?_⟩)⟩
    · rw [show 2 - 2 = 0 from rfl, d0]; rfl
    · have hy := (mem_setF (j := p % 8) (e := e0) (fr := fl) (List.mem_of_getElem? hx)).1 hxf
      obtain ⟨z, hz3, h1, h2⟩ := T1.lw (p / 8) fl (by omega) hl
      have he := T1.fo.uniq hy hz3 (by rw [h1]; exact hxf)
      rw [← h2 j hj, ← he]
      have := hz j hj
      rw [show 2 - 2 = 0 from rfl, d0] at this
      exact this
  · refine ⟨.inr (.inr ⟨rfl, ?_, rfl, hz1, fun j hj => ?_⟩)⟩
    · rw [show 2 - 1 = 1 from rfl, d1]; rfl
    · have T2 := T1.cutLow (k := p / 8) (by omega) hm' hl hz1
      have hy := (mem_setF (j := p / 8 % 8) (e := e0) (fr := fm) (List.mem_of_getElem? hx)).1 hxf
      have hfm : fm ≠ fl := fun e => hT.d3 (p / 64) (p / 8) fm (by omega) (by omega) hm (by rw [hl, e])
      have hy2 : ndSet x (p / 8 % 8) e0 ∈ (setF (setF N fl (p % 8) e0) fm (p / 8 % 8) e0).filter fun x => decide (x.f ≠ fl) := List.mem_filter.2 ⟨hy, by
        show decide (x.f ≠ fl) = true
        rw [hxf]; show decide (fm ≠ fl) = true; simpa using hfm⟩
      obtain ⟨z, hz3, h1, h2⟩ := T2.md (p / 64) fm (by omega) hm
      have he := T2.fo.uniq hy2 hz3 (by rw [h1]; exact hxf)
      have := hz j hj
      rw [show 2 - 1 = 1 from rfl, d1, he, h2 j hj] at this
      cases hc : upd low (p / 8) none (8 * (p / 64) + j) with
      | none => rfl
      | some f => rw [hc] at this; exact absurd this (by simp [tabE])
  · omega
end
/-- All entries of the nodes are entries. -/
theorem Tr.veN {r : Int} {N : List Nd} {mid low : Nat → Option Int} {ent : Nat → En} (h : Tr r N mid low ent) {x : Nd} (hx : x ∈ N) {j : Nat} (hj : j < 8) : VE (x.e j) := by
  obtain ⟨a, ha⟩ := List.getElem?_of_mem hx
  rcases h.all x hx with h1 | ⟨i, hi, h1⟩ | ⟨k, hk, h1⟩
  · rw [h.rootAt ha h1 hj]; exact h.veM hj
  · rw [h.midAt hi ha h1 hj]; exact h.veL (by omega)
  · rw [h.lowAt hk ha h1 hj]; exact h.ve _ (by omega)
theorem setF_ve {N : List Nd} {fr : Int} {q : Nat} (h : ∀ x ∈ N, ∀ j, j < 8 → VE (x.e j)) : ∀ x ∈ setF N fr q e0, ∀ j, j < 8 → VE (x.e j) := fun x hx j hj => by
  obtain ⟨y, hy, _, ⟨_, rfl⟩ | ⟨_, rfl⟩⟩ := setF_mem hx
  · show VE (if j = q then e0 else y.e j)
    split
    · exact ve0
    · exact h y hy j hj
  · exact h x hy j hj
theorem ClrS.ve {r : Int} {N C : List Nd} {mid low : Nat → Option Int} {ent : Nat → En} {p i : Nat} {fm fl : Int} {F : List Int} (h : ClrS N low ent p fm fl i C F) (hT : Tr r N mid low ent) : ∀ x ∈ C, ∀ j, j < 8 → VE (x.e j) := by
  have h0 : ∀ x ∈ N, ∀ j, j < 8 → VE (x.e j) := fun x hx j hj => hT.veN hx hj
  rcases h.h with ⟨_, rfl, _⟩ | ⟨_, rfl, _⟩ | ⟨_, rfl, _⟩
  · exact h0
  · exact setF_ve h0
  · exact setF_ve (setF_ve h0)
/-- Whether a node has no entry. -/
def allZ (x : Nd) : Bool := (List.range 8).all fun j => decide (wd (x.e j) = 0)
theorem allZ_k {x : Nd} (h : allZ x = true) (hv : ∀ j, j < 8 → VE (x.e j)) : ∀ j, j < 8 → (x.e j).k = 0 := fun j hj => by
  unfold allZ at h
  have := List.all_eq_true.1 h j (List.mem_range.2 hj)
  exact (hv j hj).zero.1 (by simpa using this)
end Go.Pt
namespace Go.Grow
open Go.RowKit Go.Over
section
variable {P : Program} {ops : Array Oper} {rest : List Oper} {a : Act} {S : World → Prop} {R : Act → Prop} {g off d i : Nat} {t ty ty' : TypeId} {pos : String} {af : Array Edge} {zs cs : List Value} {D : TypeDesc}
theorem wpQuiet_load_part (hu : P.underlying ty = some D) (hd : (match D with | .struct _ | .array _ _ => true | _ => false) = true) (hi : (P.info? ty).map (·.size) = some cs.length)
    (hx : a.eval (.tmp i) = .pointer (some ⟨g, off, none⟩)) (hB : ∀ w, S w → Blk w g t zs) (hcs : ∀ j v, cs[j]? = some v → zs[off + j]? = some v)
    (h : wpQuiet P ops S R rest (a.put (some d) (.agg cs.toArray))) :
    wpQuiet P ops S R ({ dst := some d, op := .load ty (.tmp i), type := ty', pos := pos, after := af, guard := none } :: rest) a := by
  refine BigFrame.wpQuiet_want rfl fun K hK => ⟨_, fun w hS => ?_, hK _ h⟩
  unfold Oper.quietAt execOp
  simp only [hx, Instr.loadAt, Instr.sureAddr, Sem.run_bind, Sem.run_pure, Result.andThen_ok, run_loadVar_part (hB w hS) hcs hu hd hi]
  exact ⟨rfl, rfl⟩
theorem wpQuiet_load_part_g {gd : Nat × Bool} (hw : Region.wanted { dst := some d, op := .load ty (.tmp i), type := ty', pos := pos, after := af, guard := some gd } (yielded ops a.tmps) = true) (hu : P.underlying ty = some D) (hd : (match D with | .struct _ | .array _ _ => true | _ => false) = true) (hi : (P.info? ty).map (·.size) = some cs.length)
    (hx : a.eval (.tmp i) = .pointer (some ⟨g, off, none⟩)) (hB : ∀ w, S w → Blk w g t zs) (hcs : ∀ j v, cs[j]? = some v → zs[off + j]? = some v)
    (h : wpQuiet P ops S R rest (a.put (some d) (.agg cs.toArray))) :
    wpQuiet P ops S R ({ dst := some d, op := .load ty (.tmp i), type := ty', pos := pos, after := af, guard := some gd } :: rest) a := by
  refine BigFrame.wpQuiet_want hw fun K hK => ⟨_, fun w hS => ?_, hK _ h⟩
  unfold Oper.quietAt execOp
  simp only [hx, Instr.loadAt, Instr.sureAddr, Sem.run_bind, Sem.run_pure, Result.andThen_ok, run_loadVar_part (hB w hS) hcs hu hd hi]
  exact ⟨rfl, rfl⟩
end
end Go.Grow
