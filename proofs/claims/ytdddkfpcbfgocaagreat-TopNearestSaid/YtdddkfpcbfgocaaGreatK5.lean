/- Walks: the zone of a frame; the check of a valid allocator. Walks: how many frames of a zone are free, and how many may be taken. Walks: is a frame in a cache; is it free? A region that draws its order, walked along a plan of two stages: before the first operation that breaks the class, and behind it. Walks: copies of rows. Walks: a copy of an allocator, whose zones and caches can be replaced. Walks: a copy of an allocator (continued). Walks: frames are given to a zone; the list of a cache is drained. Walks: a batch of frames is taken from a zone into a cache. Walks: all caches are drained. Walks: a frame is given back through the cache of a processor. -/
import Derived.Test.YtdddkfpcbfgocaaGreatK4
import Derived.Test.YtdddkfpcbfgocaaGreatK2
namespace Go.Proofs.YtdddkfpcbfgocaaGreat
open Go.RowKit Go.Over Go.Zn Go.Can Go.Seg Go.Grow
section
variable {ops : Array Oper} {rest : List Oper} {d i : Nat} {ty : TypeId} {pos : String} {af : Array Edge} {a : Act} {w : World} {Q : Exit → Act → World → Prop} {b k : Nat} {zc : List Value} {zs : List Z} {z : Z}
/-- A zone is loaded out of a row, behind a guard. -/
theorem ldqg {gd : Nat × Bool} (hw : Region.wanted { dst := some d, op := .load 102 (.tmp i), type := ty, pos := pos, after := af, guard := some gd } (yielded ops a.tmps) = true) (hx : a.eval (.tmp i) = .pointer (some ⟨b, k * 10, none⟩)) (h : QV w b zc zs) (hz : zs[k]? = some z)
    (hK : wpList Tryz.prog ops Q rest (a.put (some d) (.agg (seg zc (k * 10) 10).toArray)) w) :
    wpList Tryz.prog ops Q ({ dst := some d, op := .load 102 (.tmp i), type := ty, pos := pos, after := af, guard := some gd } :: rest) a w :=
  wpList_load_part_g Tryz.underlying102 rfl (by rw [infoZ, (h.row k z hz).len]) hw hx h.x (h.get hz) hK
end
theorem AX.mapped {w W W' : World} {g m : Nat} {s : Sh} {zc ccs : List Value} {a : A} {l : List Int} (h : AX w g s zc ccs a W) (hm : Ms W m l) (hl : w.heap.size ≤ m) (hg : W.grownBy W' (some m)) : AX w g s zc ccs a W' := by
  have kp : ∀ {q t : Nat} {bs : List Value}, Blk W q t bs → Blk W' q t bs := fun hq => hq.grown hg (by simpa using hm.ne hq)
  exact ⟨h.b.grown hg h.b.size (fun k hk => by cases hk; exact hl), h.l, kp h.x, h.v.past (kp h.v.q.x) (kp h.v.c.x) (fun _ _ => kp) (fun _ _ => kp)⟩
theorem Lc.mapped {W W' : World} {m : Nat} {v : Value} {L : List (List Int)} {l : List Int} (h : Lc W v L) (hm : Ms W m l) (hg : W.grownBy W' (some m)) : Lc W' v L := by
  obtain ⟨b, c, bs, h1, h2, h3, h4⟩ := h
  exact ⟨b, c, bs, h1, h2, h3, h4.kept hg hm⟩
set_option maxRecDepth 100000 in set_option maxHeartbeats 3200000 in
theorem zoneof (v : Value) (a : A) (x : Int) (w : World) (H : Ra w v a) (hr : ∀ z ∈ a.zs, Rng z) (h6 : a.zs.length ≤ 6) : Calls Tryz.prog 38 #[v, .int .i64 x] w fun e w' => e = .returned (.int .i64 (zoneI a.zs x 0)) ∧ Below w.heap.size w w' := by
  obtain ⟨s, zc, ccs, rfl, hV⟩ := H
  have X0 := (AX.new hV).below (below_box _ (.cells #[.int .i64 x] 3))
  have hs : (w.alloc (.cells (s.cells a.bt a.hi).toArray 28)).heap.size = w.heap.size + 1 := by simp
  have N0 := Blk.new (w.alloc (.cells (s.cells a.bt a.hi).toArray 28)) 3 #[.int .i64 x] [.int .i64 x] rfl
  rw [hs] at N0
  rw [hV.ez] at h6
  have HR := Lib.hid hr
  clear hV hs hr
  go_enter Tryz.func38, Tryz.ntmps38
  go_upto_region 1 with fail
  obtain ⟨w1, hw1⟩ : ∃ W, W = (w.alloc (.cells (s.cells a.bt a.hi).toArray 28)).alloc (.cells #[.int .i64 x] 3) := ⟨_, rfl⟩
  rw [← hw1] at X0 N0 ⊢
  obtain ⟨g3, hg3⟩ : ∃ g, w.heap.size + 1 = g := ⟨_, rfl⟩
  rw [hg3] at N0 ⊢
  obtain ⟨g, hg0⟩ : ∃ g, w.heap.size = g := ⟨_, rfl⟩
  have X1 : AX w g s zc ccs a w1 := by rw [← hg0]; exact X0
  rw [hg0]
  clear hw1 X0 hg0 hg3
  have c3 := X1.c3
  have HC := Lib.hid (idxZ s.bz s.nz s.cz zc a.zs x g3 w1 X1.v.q X1.v.ez h6 HR.out N0)
  have hb := X1.b
  clear X1 N0
  go_wp2_with fail
  refine HC.out.mono ?_
  rintro e w2 ⟨rfl, b2⟩
  have hb2 := below_then hb b2
  go_wp2
  go_ret
  exact ⟨rfl, hb2⟩
set_option maxRecDepth 100000 in set_option maxHeartbeats 3200000 in
theorem acheck (v : Value) (a : A) (w : World) (H : Ra w v a) (hV : VA a) : Calls Tryz.prog 37 #[v] w fun e w' => e = .returned (.int .i64 0) ∧ Below w.heap.size w w' := by
  have HV := Lib.hid hV
  clear hV
  obtain ⟨s, zc, ccs, rfl, hV⟩ := H
  have X0 := AX.new hV
  clear hV
  go_enter Tryz.func37, Tryz.ntmps37
  go_upto_region 1 with fail
  obtain ⟨w1, hw1⟩ : ∃ W, W = w.alloc (.cells (s.cells a.bt a.hi).toArray 28) := ⟨_, rfl⟩
  have X1 : AX w w.heap.size s zc ccs a w1 := by rw [hw1]; exact X0
  rw [← hw1]
  obtain ⟨g, hg0⟩ : ∃ g, w.heap.size = g := ⟨_, rfl⟩
  rw [hg0] at X1 ⊢
  clear hw1 X0 hg0
  have HMA := Lib.hid (fun W (h : AW W s zc ccs a) => machineOk (.slice s.an s.nn s.cn) a.nodes a.bt a.hi s.bz s.nz s.cz (.slice (some ⟨s.bc, 0, none⟩) s.nc s.cc) W h.nd HV.out.n0 HV.out.n4 HV.out.nr HV.out.b1 HV.out.bh HV.out.h64 (by rw [← h.ez]; exact HV.out.z1) (by rw [← h.ez]; exact HV.out.z6))
  have HN := Lib.hid X1.v.ez
  have z6 : s.nz ≤ 6 := by rw [← X1.v.ez]; exact HV.out.z6
  have z1 : 1 ≤ s.nz := by rw [← X1.v.ez]; exact HV.out.z1
  go_wp2_with ((with_reducible refine lda ?_ X1.x ?_); (focus rfl))
  refine (HMA.out _ X1.v).mono ?_
  rintro e w2 ⟨rfl, b2⟩
  have X2 := X1.below b2
  have c3 := X2.c3
  clear X1 b2 HMA
  go_wp2
  go_loopg [25, 3] s.nz (fun gg v25 v3 wr => ∃ (i : Nat) (E : Int), i + gg = s.nz ∧ v25 = .int .i64 i ∧ v3 = .int .i64 E ∧ 0 ≤ E ∧ E ≤ 256 ∧ (i < s.nz → E = (zn a i).st) ∧ AX w g s zc ccs a wr)
  case atStart => exact ⟨0, 0, by omega, rfl, rfl, by omega, by omega, fun _ => HV.out.s0.symm, X2⟩
  case round =>
    clear X2 c3
    obtain ⟨i, E, hi, rfl, rfl, hE0, hE1, hE, X3⟩ := hrel
    cases gk with
    | succ gg =>
      have hin : i < s.nz := by omega
      have HI := Lib.hid hi
      obtain ⟨z, hz⟩ := get_some HN.out hin
      have hzn := zn_of hz
      have hvz : VZ z := by have := HV.out.vz i (by rw [HN.out]; exact hin); rw [hzn] at this; exact this
      have hE' := hE hin
      rw [hzn] at hE'
      have hnx : i + 1 < s.nz → (zn a (i + 1)).st = z.st + z.ct := fun h => by have := HV.out.ss i (by rw [HN.out]; exact h); rw [hzn] at this; exact this
      have HNX := Lib.hid hnx
      have Q3 := X3.v.q
      have hZ := Q3.row i z hz
      have h1c := hZ.one
      have hzl := hZ.len
      have hz2 := Blk.new wr 102 #[.int .i64 0, .int .i64 0, .int .i64 0, .int .i64 0, .int .i64 0, .slice none 0 0, .slice none 0 0, .slice none 0 0, .slice none 0 0, .slice none 0 0] zP rfl
      have hsz := X3.b.size
      have HZV := Lib.hid (hZ.below (below_box wr (.cells #[.int .i64 0, .int .i64 0, .int .i64 0, .int .i64 0, .int .i64 0, .slice none 0 0, .slice none 0 0, .slice none 0 0, .slice none 0 0, .slice none 0 0] 102))); have HZ := Lib.hid hz; have HVZ := Lib.hid hvz
      have r1 := hvz.r.st0; have r2 := hvz.r.ct0; have r3 := hvz.r.ct1
      clear hi hz hZ hE hzn hvz hnx
      go_upto_region 7 with first | ((with_reducible refine ldq ?_ Q3 HZ.out ?_); (focus rfl)) | ((with_reducible refine stZ (cs := seg zc (i * 10) 10) ?_ ?_ hz2 zP_len hzl h1c ?_); (focus rfl); (focus rfl); intro w5 hB5 hg5)
      have X5 : AX w g s zc ccs a w5 := X3.kept (bs := zP) hg5
      have HZ5 := Lib.hid (show ZV w5 (seg zc (i * 10) 10) z from HZV.out.past fun b bs hb => hb.grown hg5 (by simpa using Ne.symm (hb.ne_type hz2 (by decide))))
      clear X3 hz2 h1c hg5 Q3 HZV
      go_wp2_with ((with_reducible refine ld ?_ hB5 hzl ?_); (focus rfl))
      refine (check _ z w5 ⟨_, rfl, HZ5.out⟩ HVZ.out).mono ?_
      rintro e w6 ⟨rfl, b6⟩
      have X6 := X5.below b6
      have hB6 := hB5.later b6
      have q2 : w6.cell? ⟨wr.heap.size, 2, none⟩ = some (.int .i64 z.st) := by rw [hB6.cell]; exact HZ5.out.st
      have q3 : w6.cell? ⟨wr.heap.size, 3, none⟩ = some (.int .i64 z.ct) := by rw [hB6.cell]; exact HZ5.out.ct
      clear X5 hB5 b6 hB6 hzl
      subst hE'
      go_wp2
      go_roundg gg
      case rel => exact ⟨i + 1, z.st + z.ct, by have := HI.out; omega, by go_num, by go_num, by omega, by omega, fun h => (HNX.out h).symm, X6⟩
      case measure => omega
    | zero =>
      have hin : ¬ i < s.nz := by omega
      have hcn : s.nc = s.nn := by rw [← X3.v.ec, ← X3.v.en]; exact HV.out.nc
      have c0 := X3.c0
      have c4 := X3.c4
      rw [← hcn] at c0
      have HC := Lib.hid X3.v.ec
      have hnc4 : s.nc ≤ 4 := by rw [hcn, ← X3.v.en]; exact HV.out.n4
      clear hi hE hE0 hE1 hcn
      go_wp2
      go_loopg [53] s.nc (fun gg v53 wr => ∃ c : Nat, c + gg = s.nc ∧ v53 = .int .i64 c ∧ AX w g s zc ccs a wr)
      case atStart => exact ⟨0, by omega, rfl, X3⟩
      case round =>
        clear X3 c0 c4 hin
        obtain ⟨c, hc, rfl, X4⟩ := hrel
        cases gk with
        | succ gg =>
          have hcl : c < s.nc := by omega
          have HI := Lib.hid hc
          obtain ⟨L, hL⟩ := get_some HC.out hcl
          obtain ⟨v, hv, hLc⟩ := X4.v.c.row c L hL
          obtain ⟨b, cap, hvf, q1, q2⟩ := hLc.form
          have hvc := HV.out.vc hL
          have hLn : L.length = s.nz := by rw [HV.out.cl hL]; exact HN.out
          have dv : wr.cell? ⟨s.bc, c, none⟩ = some v := by rw [X4.v.c.x.cell]; exact hv
          rw [hLn] at hvf q1
          subst hvf
          have hpc := fun W (h : Lc W (.slice (some ⟨b, 0, none⟩) s.nz cap) L) => pcheck (.agg #[.slice (some ⟨b, 0, none⟩) s.nz cap]) L W ⟨_, rfl, h⟩ hvc
          rw [hLn] at hpc
          have HPC := Lib.hid hpc; have HLN := Lib.hid hLn; have HL := Lib.hid hL; have HLC := Lib.hid hLc
          have bN := below_box wr (.cells #[.slice (some ⟨b, 0, none⟩) s.nz cap] 93)
          have c4 := X4.c4
          clear hc hL hv hLc hLn hpc hvc
          go_upto_region 19 with fail
          have X5 := X4.below bN
          have L5 := HLC.out.below bN
          have d8 := (Blk.new wr 93 #[.slice (some ⟨b, 0, none⟩) s.nz cap] [.slice (some ⟨b, 0, none⟩) s.nz cap] rfl).cell 0
          simp only [List.getElem?_cons_zero] at d8
          obtain ⟨w5, hw5⟩ : ∃ W, W = wr.alloc (.cells #[.slice (some ⟨b, 0, none⟩) s.nz cap] 93) := ⟨_, rfl⟩
          obtain ⟨g8, hg8⟩ : ∃ g, wr.heap.size = g := ⟨_, rfl⟩
          rw [← hw5, hg8] at d8
          rw [← hw5] at X5 L5
          rw [hg8, ← hw5]
          clear hw5 hg8 bN X4 c4 dv HLC
          have c3 := X5.c3
          have HC5 := Lib.hid (HPC.out w5 L5)
          have HL5 := Lib.hid L5
          clear L5 HPC
          go_wp2_with fail
          refine HC5.out.mono ?_
          rintro e w6 ⟨rfl, b6⟩
          have X6 := X5.below b6
          have d8 := cell_later b6 d8
          have HL6 := Lib.hid (HL5.out.below b6)
          clear X5 b6 c3 HC5 HL5
          go_wp2
          go_loopg [68] s.nz (fun g2 v68 wj => ∃ z : Nat, z + g2 = s.nz ∧ v68 = .int .i64 z ∧ w6 = wj)
          case atStart => exact ⟨0, by omega, rfl, rfl⟩
          case round =>
            obtain ⟨z, hz, rfl, rfl⟩ := hrel
            cases gk with
            | succ g2 =>
              have hzl : z < s.nz := by omega
              have HZ := Lib.hid hz
              obtain ⟨l, hl⟩ := get_some HLN.out hzl
              obtain ⟨al, m, cl, dl, hm, _⟩ := HL6.out.at hl
              have hm2 := (HV.out.at_ HL.out hl).2.1
              rw [hm] at hm2
              have c2 := X6.c2
              have tm : decide (((a.hi : Nat) : Int) < (m : Int)) = false := by simp; omega
              clear hz hl hm
              go_wp2
              go_roundg g2
              case rel => exact ⟨z + 1, by have := HZ.out; omega, by go_num, rfl⟩
              case measure => omega
            | zero =>
              have hzl : ¬ z < s.nz := by omega
              clear hz
              go_wp2
              go_roundg gg
              case rel => exact ⟨c + 1, by have := HI.out; omega, by go_num, X6⟩
              case measure => omega
        | zero =>
          have hcl : ¬ c < s.nc := by omega
          clear hc
          have hmk := fun W => run_makeMap (P := Tryz.prog) 160 W
          have c4 := X4.c4
          go_upto_region 30 with fail
          have bN := below_box wr (.map #[] 0)
          have X5 := X4.below bN
          have M5 : Ms (wr.alloc (.map #[] 0)) wr.heap.size (((allF a).take 0).flatten) := MapS.made _ _ _ _
          have hlm : w.heap.size ≤ wr.heap.size := X4.b.size
          obtain ⟨w5, hw5⟩ : ∃ W, W = wr.alloc (.map #[] 0) := ⟨_, rfl⟩
          obtain ⟨m, hm⟩ : ∃ g, wr.heap.size = g := ⟨_, rfl⟩
          rw [← hw5] at X5 M5
          rw [hm] at M5 hlm
          rw [hm, ← hw5]
          clear hw5 hm bN X4 c4 hcl hmk
          have c4 := X5.c4
          go_wp2
          go_loopg [83] s.nc (fun gg v83 wr => ∃ c : Nat, c + gg = s.nc ∧ v83 = .int .i64 c ∧ AX w g s zc ccs a wr ∧ Ms wr m (((allF a).take c).flatten))
          case atStart => exact ⟨0, by omega, rfl, X5, M5⟩
          case round =>
            clear X5 M5 c4
            obtain ⟨c, hc, rfl, X6, M6⟩ := hrel
            cases gk with
            | zero =>
              have hcl : ¬ c < s.nc := by omega
              clear hc
              go_wp2
              go_ret
              exact ⟨rfl, X6.b⟩
            | succ gg =>
              have hcl : c < s.nc := by omega
              have HI := Lib.hid hc
              obtain ⟨L, hL⟩ := get_some HC.out hcl
              obtain ⟨v, hv, hLc⟩ := X6.v.c.row c L hL
              obtain ⟨b, cap, hvf, q1, q2⟩ := hLc.form
              have hLn : L.length = s.nz := by rw [HV.out.cl hL]; exact HN.out
              have dv : wr.cell? ⟨s.bc, c, none⟩ = some v := by rw [X6.v.c.x.cell]; exact hv
              rw [hLn] at hvf q1
              subst hvf
              have HLN := Lib.hid hLn; have HL := Lib.hid hL
              have bN := below_box wr (.cells #[.slice (some ⟨b, 0, none⟩) s.nz cap] 93)
              have c4 := X6.c4
              have X7 := X6.below bN
              have M7 : Ms (wr.alloc (.cells #[.slice (some ⟨b, 0, none⟩) s.nz cap] 93)) m (((allF a).take c).flatten ++ (L.take 0).flatten) := by simpa using M6.later bN
              have L7 := hLc.below bN
              have d8 := (Blk.new wr 93 #[.slice (some ⟨b, 0, none⟩) s.nz cap] [.slice (some ⟨b, 0, none⟩) s.nz cap] rfl).cell 0
              simp only [List.getElem?_cons_zero] at d8
              clear hc hL hv hLc hLn X6 M6
              go_upto_region 33 with fail
              obtain ⟨w7, hw7⟩ : ∃ W, W = wr.alloc (.cells #[.slice (some ⟨b, 0, none⟩) s.nz cap] 93) := ⟨_, rfl⟩
              rw [← hw7] at d8 X7 M7 L7 ⊢
              obtain ⟨g8, hg8⟩ : ∃ g, wr.heap.size = g := ⟨_, rfl⟩
              rw [hg8] at d8 ⊢
              clear hw7 hg8 bN c4 dv
              go_wp2
              go_loopg [90] s.nz (fun g2 v90 wj => ∃ z : Nat, z + g2 = s.nz ∧ v90 = .int .i64 z ∧ AX w g s zc ccs a wj ∧ Lc wj (.slice (some ⟨b, 0, none⟩) s.nz cap) L ∧ Ms wj m (((allF a).take c).flatten ++ (L.take z).flatten))
              case atStart => exact ⟨0, by omega, rfl, X7, L7, M7⟩
              case round =>
                clear X7 L7 M7 d8
                obtain ⟨z, hz, rfl, X8, L8, M8⟩ := hrel
                cases gk with
                | zero =>
                  have hzl : ¬ z < s.nz := by omega
                  have HE := Lib.hid (show ((allF a).take (c + 1)).flatten = ((allF a).take c).flatten ++ (L.take z).flatten by
                    rw [all_take HL.out, List.take_of_length_le (l := L) (by rw [HLN.out]; omega)])
                  clear hz
                  go_wp2
                  go_roundg gg
                  case rel => exact ⟨c + 1, by have := HI.out; omega, by go_num, X8, by rw [HE.out]; exact M8⟩
                  case measure => omega
                | succ g2 =>
                  have hzl : z < s.nz := by omega
                  have HZ := Lib.hid hz
                  obtain ⟨l, hl⟩ := get_some HLN.out hzl
                  obtain ⟨al, q, cl, dl, hm, hsl⟩ := L8.at hl
                  have hq256 := (HV.out.vc HL.out).len hl
                  rw [hm] at hq256
                  have M80 : Ms wr m (((allF a).take c).flatten ++ ((L.take z).flatten ++ l.take 0)) := by simpa using M8
                  have HM := Lib.hid hm; have HLL := Lib.hid hl; have HSL := Lib.hid hsl
                  have S80 := hsl
                  clear hz hl hm hsl M8
                  go_wp2
                  go_loopg [97] q (fun g3 v97 wk => ∃ j : Nat, j + g3 = q ∧ v97 = .int .i64 j ∧ AX w g s zc ccs a wk ∧ Lc wk (.slice (some ⟨b, 0, none⟩) s.nz cap) L ∧ Sl wk (.slice al q cl) l ∧ Ms wk m (((allF a).take c).flatten ++ ((L.take z).flatten ++ l.take j)))
                  case atStart => exact ⟨0, by omega, rfl, X8, L8, S80, M80⟩
                  case round =>
                    clear X8 L8 S80 M80 dl HSL
                    obtain ⟨j, hj, rfl, X9, L9, S9, M9⟩ := hrel
                    cases gk with
                    | zero =>
                      have hjl : ¬ j < q := by omega
                      have HE := Lib.hid (show ((allF a).take c).flatten ++ (L.take (z + 1)).flatten = ((allF a).take c).flatten ++ ((L.take z).flatten ++ l.take j) by
                        rw [flat_take HLL.out, List.take_of_length_le (l := l) (by rw [HM.out]; omega)])
                      clear hj
                      go_wp2
                      go_roundg g2
                      case rel => exact ⟨z + 1, by have := HZ.out; omega, by go_num, X9, L9, by rw [HE.out]; exact M9⟩
                      case measure => omega
                    | succ g3 =>
                      have hjl : j < q := by omega
                      have HJ := Lib.hid hj
                      obtain ⟨x, hx⟩ := get_some HM.out hjl
                      obtain ⟨_, _, _, hat⟩ := HV.out.at_ HL.out HLL.out
                      obtain ⟨hinz, hnc⟩ := hat x (List.mem_of_getElem? hx)
                      obtain ⟨p1, p2⟩ := HV.out.seen HL.out HLL.out hx
                      obtain ⟨hx0, hx1⟩ := HV.out.inr (by rw [HN.out]; exact hzl) hinz
                      obtain ⟨y, hy⟩ := get_some HN.out hzl
                      have hzn := zn_of hy
                      have hvz : VZ y := by have := HV.out.vz z (by rw [HN.out]; exact hzl); rw [hzn] at this; exact this
                      have hzi := HV.out.zoneI (by rw [HN.out]; exact hzl) hinz
                      rw [hzn] at hinz hnc
                      obtain ⟨a1, c1, e1, _, _, _, hI⟩ := S9
                      have hS9 : Sl wr (.slice al q cl) l := ⟨a1, c1, e1, by assumption, by assumption, by assumption, hI⟩
                      rw [HM.out] at e1
                      cases e1
                      obtain ⟨bb, off, rfl, cx⟩ := hI.at hx
                      have hlk := Ms.run M9 hx0 hx1
                      rw [show (((allF a).take c).flatten ++ ((L.take z).flatten ++ l.take j)).contains x = false by simpa using p1] at hlk
                      have HZO := Lib.hid (zoneof _ a x wr X9.ra (fun z' hz' => by
                        obtain ⟨i', hi'⟩ := List.getElem?_of_mem hz'
                        have := HV.out.vz i' (lt_of hi'); rw [zn_of hi'] at this; exact this.r) HV.out.z6)
                      rw [hzi] at HZO
                      have HY := Lib.hid hy; have HVZ := Lib.hid hvz; have HNC := Lib.hid hnc; have HP := Lib.hid p1
                      have HR0 := Lib.hid (show R y.st y.ct x 0 from by unfold inZ at hinz; exact ⟨by omega, hinz.1, by rw [pw_zero]; omega, by rw [pw_zero]; omega⟩)
                      have hwf := wf_small hx0 hx1
                      have hln : (((allF a).take c).flatten ++ ((L.take z).flatten ++ l.take j)).length < maxLen := by unfold maxLen; omega
                      have HE := Lib.hid (show ((allF a).take c).flatten ++ ((L.take z).flatten ++ l.take (j + 1)) = (((allF a).take c).flatten ++ ((L.take z).flatten ++ l.take j)) ++ [x] by
                        rw [List.take_add_one, hx]; simp)
                      clear hj hx hat hinz hnc hzn hvz hzi hy p1 p2 hI
                      go_wp2_with ((with_reducible refine lda ?_ X9.x ?_); (focus rfl))
                      refine HZO.out.mono ?_
                      rintro e w10 ⟨rfl, b10⟩
                      have X10 := X9.below b10
                      have L10 := L9.below b10
                      have S10 := hS9.below b10
                      have M10 := M9.later b10
                      have hlk := Ms.run M10 hx0 hx1
                      rw [show (((allF a).take c).flatten ++ ((L.take z).flatten ++ l.take j)).contains x = false by simpa using HP.out] at hlk
                      have Q10 := X10.v.q
                      have c3 := X10.c3
                      clear X9 L9 hS9 M9 b10 HZO cx
                      go_wp2_with ((with_reducible refine ldqg ?_ ?_ Q10 HY.out ?_); (focus rfl); (focus rfl))
                      refine (isfree _ y x w10 ⟨_, rfl, Q10.row z y HY.out⟩ HVZ.out HR0.out).mono ?_
                      rintro e w11 ⟨⟨b', rfl, hb'⟩, b11⟩
                      have hbf : b' = false := by
                        cases b' with
                        | false => rfl
                        | true => exact absurd (hb'.1 rfl) HNC.out
                      subst hbf
                      have X11 := X10.below b11
                      have L11 := L10.below b11
                      have S11 := S10.below b11
                      have M11 := M10.later b11
                      have p1 := HP.out
                      clear X10 L10 S10 M10 b11 Q10 c3 hlk hb'
                      go_wp2_with ((with_reducible refine wpList_add Tryz.underlying160 Tryz.underlying3 Tryz.underlying4 ?_ ?_ M11 hwf p1 hln ?_); (focus rfl); (focus rfl); intro w12 M12 hg12)
                      have X12 := X11.mapped M11 hlm hg12
                      have L12 := L11.mapped M11 hg12
                      have S12 := S11.past fun b0 bs0 hb0 => hb0.grown hg12 (by simpa using Ms.ne M11 hb0)
                      rw [← HE.out] at M12
                      clear X11 L11 S11 M11 hg12 p1
                      go_wp2
                      go_roundg g3
                      case rel => exact ⟨j + 1, by have := HJ.out; omega, by go_num, X12, L12, S12, M12⟩
                      case measure => omega
end Go.Proofs.YtdddkfpcbfgocaaGreat
namespace Go.Proofs.YtdddkfpcbfgocaaGreat
open Go.RowKit Go.Over Go.Zn Go.Can Go.Seg Go.Grow
set_option maxRecDepth 100000 in set_option maxHeartbeats 3200000 in
theorem acount (v : Value) (a : A) (z : Nat) (w : World) (H : Ra w v a) (hV : VA a) (hz : z < a.zs.length) : Calls Tryz.prog 52 #[v, .int .i64 z] w fun e w' => e = .returned (.int .i64 ((cntA a z : Nat) : Int)) ∧ Below w.heap.size w w' := by
  have HV := Lib.hid hV
  clear hV
  obtain ⟨s, zc, ccs, rfl, hV⟩ := H
  have X0 := AX.new hV
  clear hV
  go_enter Tryz.func52, Tryz.ntmps52
  go_upto_region 1 with fail
  obtain ⟨w1, hw1⟩ : ∃ W, W = w.alloc (.cells (s.cells a.bt a.hi).toArray 28) := ⟨_, rfl⟩
  have X1 : AX w w.heap.size s zc ccs a w1 := by rw [hw1]; exact X0
  rw [← hw1]
  obtain ⟨g, hg0⟩ : ∃ g, w.heap.size = g := ⟨_, rfl⟩
  rw [hg0] at X1 ⊢
  clear hw1 X0 hg0
  have HN := Lib.hid X1.v.ez
  rw [HN.out] at hz
  obtain ⟨y, hy⟩ := get_some HN.out hz
  have hzn := zn_of hy
  have hvz : VZ y := by have := HV.out.vz z (by rw [HN.out]; exact hz); rw [hzn] at this; exact this
  have Q1 := X1.v.q
  have c3 := X1.c3
  have hcn := cnt_le hvz (Nat.le_refl 5)
  have HY := Lib.hid hy; have HVZ := Lib.hid hvz
  obtain ⟨N, hN⟩ : ∃ N, cntN y.fr 5 = N := ⟨_, rfl⟩
  have hA := HV.out
  have HA := Lib.hid (show cntA a z = N + sumC a.cs z by unfold cntA; rw [hzn, hN])
  have hle := cntA_le HV.out (z := z) (by rw [HN.out]; exact hz)
  rw [HA.out] at hle
  have HCN := Lib.hid (fun W (h : QV W s.bz zc a.zs) => by have := count (.agg (seg zc (z * 10) 10).toArray) y W ⟨_, rfl, h.row z y HY.out⟩ HVZ.out; rw [hN] at this; exact this)
  rw [hN] at hcn
  clear hy hzn hvz hN hA
  go_wp2_with ((with_reducible refine ldq ?_ Q1 HY.out ?_); (focus rfl))
  refine (HCN.out _ Q1).mono ?_
  rintro e w2 ⟨rfl, b2⟩
  have X2 := X1.below b2
  have c4 := X2.c4
  have HC := Lib.hid X2.v.ec
  have hnc4 : s.nc ≤ 4 := by rw [← X2.v.ec, HV.out.nc]; exact HV.out.n4
  have HLE := Lib.hid hle
  clear X1 b2 Q1 c3 HCN hle
  go_wp2
  go_loopg [17, 5] s.nc (fun gg v17 v5 wr => ∃ c : Nat, c + gg = s.nc ∧ v17 = .int .i64 c ∧ v5 = .int .i64 ((N + sumC (a.cs.take c) z : Nat) : Int) ∧ AX w g s zc ccs a wr)
  case atStart => exact ⟨0, by omega, rfl, by simp [sumC], X2⟩
  case round =>
    clear X2 c4
    obtain ⟨c, hc, rfl, rfl, X3⟩ := hrel
    cases gk with
    | zero =>
      have hcl : ¬ c < s.nc := by omega
      have HE := Lib.hid (show N + sumC (a.cs.take c) z = cntA a z by rw [HA.out, List.take_of_length_le (by rw [HC.out]; omega)])
      obtain ⟨T, hT⟩ : ∃ T, N + sumC (a.cs.take c) z = T := ⟨_, rfl⟩
      rw [hT] at HE ⊢
      clear hc hT
      go_wp2
      go_ret
      exact ⟨ret_int (by rw [HE.out]), X3.b⟩
    | succ gg =>
      have hcl : c < s.nc := by omega
      have HI := Lib.hid hc
      obtain ⟨L, hL⟩ := get_some HC.out hcl
      obtain ⟨v, hv, hLc⟩ := X3.v.c.row c L hL
      obtain ⟨b, cap, hvf, q1, q2⟩ := hLc.form
      have hLn : L.length = s.nz := by rw [HV.out.cl hL]; exact HN.out
      have dv : wr.cell? ⟨s.bc, c, none⟩ = some v := by rw [X3.v.c.x.cell]; exact hv
      rw [hLn] at hvf q1
      subst hvf
      obtain ⟨l, hl⟩ := get_some hLn hz
      have hsum := sumC_take (z := z) hL
      rw [getD_of hl] at hsum
      have hmono : sumC (a.cs.take (c + 1)) z ≤ sumC a.cs z := by
        unfold sumC
        conv => rhs; rw [← List.take_append_drop (c + 1) a.cs]
        rw [List.flatMap_append, List.length_append]; omega
      have hle := HLE.out
      have bN := below_box wr (.cells #[.slice (some ⟨b, 0, none⟩) s.nz cap] 93)
      obtain ⟨al, m, cl, dl, hm, _⟩ := (hLc.below bN).at hl
      rw [hm] at hsum
      have c4 := X3.c4
      have X4 := X3.below bN
      obtain ⟨T, hT⟩ : ∃ T, N + sumC (a.cs.take c) z = T := ⟨_, rfl⟩
      have hTm : T + m ≤ 256 := by omega
      have HE := Lib.hid (show N + sumC (a.cs.take (c + 1)) z = T + m by omega)
      rw [hT]
      clear hc hL hv hLc hLn hl hsum hmono hle hm hT
      go_wp2
      go_roundg gg
      case rel => exact ⟨c + 1, by have := HI.out; omega, by go_num, by rw [HE.out]; go_num, X4⟩
      case measure => omega
set_option maxRecDepth 100000 in set_option maxHeartbeats 3200000 in
theorem aroom (v : Value) (a : A) (z : Nat) (w : World) (H : Ra w v a) (hV : VA a) (hz : z < a.zs.length) : Calls Tryz.prog 51 #[v, .int .i64 z] w fun e w' => e = .returned (.int .i64 (((cntA a z : Nat) : Int) - (zn a z).mn)) ∧ Below w.heap.size w w' := by
  have HV := Lib.hid hV
  have HZ0 := Lib.hid hz
  obtain ⟨y, hy⟩ := get_some (l := a.zs) rfl hz
  have hzn := zn_of hy
  have hle := cntA_le hV hz
  have hmn := (hV.vz z hz).r
  have m0 := hmn.mn0; have m1 := hmn.mn1; have m2 := hmn.ct1; have m3 := hmn.st0
  rw [hzn] at m0 m1 m2 m3 ⊢
  obtain ⟨N, hN⟩ : ∃ N, cntA a z = N := ⟨_, rfl⟩
  obtain ⟨M, hM⟩ : ∃ M, y.mn = M := ⟨_, rfl⟩
  rw [hM] at m0 m1 ⊢
  rw [hN] at hle ⊢
  have HY := Lib.hid hy; have HNN := Lib.hid hN; have HMM := Lib.hid hM
  clear hV hy hzn hN hM hmn
  obtain ⟨s, zc, ccs, rfl, hV⟩ := H
  have X0 := AX.new hV
  clear hV
  go_enter Tryz.func51, Tryz.ntmps51
  go_upto_region 1 with fail
  obtain ⟨w1, hw1⟩ : ∃ W, W = w.alloc (.cells (s.cells a.bt a.hi).toArray 28) := ⟨_, rfl⟩
  have X1 : AX w w.heap.size s zc ccs a w1 := by rw [hw1]; exact X0
  rw [← hw1]
  obtain ⟨g, hg0⟩ : ∃ g, w.heap.size = g := ⟨_, rfl⟩
  rw [hg0] at X1 ⊢
  clear hw1 X0 hg0
  rw [X1.v.ez] at hz
  have C := fun u => calls_over (acount _ a z _ (X1.below (below_over w1 u)).ra HV.out HZ0.out)
  rw [HNN.out] at C
  have HC := Lib.hid C
  have c3 := over_cell X1.c3
  have c4 := over_cell (show w1.cell? ⟨s.bz, z * 10 + 4, none⟩ = some (.int .i64 M) from by
    rw [X1.v.q.x.cell, ← HMM.out]; exact X1.v.q.get HY.out 4 _ (X1.v.q.row z y HY.out).mn)
  clear C
  go_wp2_with fail
  refine wp_region_over (by kernel_rfl) (by kernel_rfl) ?_
  go_big_quiet_want
  rename_i K hK
  refine quiet_run (v := .agg (s.cells a.bt a.hi).toArray) (fun w' hw' => ?_) ?_
  · obtain ⟨u, rfl⟩ := hw'
    exact run_load_row rfl g rfl 28 (s.cells a.bt a.hi).toArray (0, 0) _ (X1.x.later (below_over w1 u)) Tryz.underlying28 rfl (by rw [infoA]; rfl)
  refine hK _ ?_
  clear hK K
  simp only [Act.put, List.setIfInBounds_toArray, List.set_cons_succ, List.set_cons_zero]
  repeat (go_big_quiet_step ((go_at_call 52; exact HC.out _)))
  refine wpQuiet_nil ?_
  rintro _ ⟨u, rfl⟩
  have hfin := (X1.below (below_over w1 u)).b
  go_wp2
  go_ret
  exact ⟨rfl, hfin⟩
end Go.Proofs.YtdddkfpcbfgocaaGreat
namespace Go.Proofs.YtdddkfpcbfgocaaGreat
open Go.RowKit Go.Over Go.Zn Go.Can Go.Seg Go.Grow
theorem contains_drop {l : List Int} {x y : Int} {i : Nat} (h : l[i]? = some y) : (l.drop i).contains x = (x == y || (l.drop (i + 1)).contains x) := by
  rw [drop_get h, List.contains_cons]
set_option maxRecDepth 100000 in set_option maxHeartbeats 3200000 in
theorem indexOf (v : Value) (l : List Int) (x : Int) (w : World) (H : Sl w v l) (hl : l.length ≤ 256) : Calls Tryz.prog 168 #[v, .int .i64 x] w fun e w' => (∃ r : Int, e = .returned (.int .i64 r) ∧ decide (0 ≤ r) = l.contains x) ∧ w = w' := by
  obtain ⟨a, c, rfl, h1, h2, h3, hI⟩ := H
  obtain ⟨n, hn⟩ : ∃ n, l.length = n := ⟨_, rfl⟩
  rw [hn] at h1 hl ⊢
  have HN := Lib.hid hn
  have H0 := Lib.hid (show l.contains x = (l.drop 0).contains x from rfl)
  clear hn h1 h2 h3
  go_enter Tryz.func168, Tryz.ntmps168
  go_wp2
  go_loopg [8] n (fun gg v8 wr => ∃ i : Nat, i + gg = n ∧ v8 = .int .i64 i ∧ l.contains x = (l.drop i).contains x ∧ w = wr)
  case atStart => exact ⟨0, by omega, rfl, H0.out, rfl⟩
  case round =>
    clear H0
    obtain ⟨i, hi, rfl, hc, rfl⟩ := hrel
    have HC := Lib.hid hc
    clear hc
    cases gk with
    | zero =>
      have hin : ¬ i < n := by omega
      have HE := Lib.hid (show l.contains x = false by rw [HC.out, List.drop_eq_nil_of_le (by rw [HN.out]; omega)]; rfl)
      clear hi
      go_wp2
      go_ret
      exact ⟨⟨_, rfl, by rw [HE.out]; rfl⟩, rfl⟩
    | succ gg =>
      have hin : i < n := by omega
      have HI := Lib.hid hi
      obtain ⟨y, hy⟩ := get_some HN.out hin
      obtain ⟨b, off, rfl, cx⟩ := hI.at hy
      have hd := contains_drop (x := x) hy
      by_cases hxy : x = y
      · have HE := Lib.hid (show l.contains x = true by rw [HC.out, hd, hxy]; simp)
        have t1 : (x == y) = true := by rw [hxy]; simp
        clear hi hy hd hxy
        go_wp2
        go_ret
        exact ⟨⟨_, rfl, by rw [HE.out]; simp⟩, rfl⟩
      · have t1 : (x == y) = false := by simpa using hxy
        have HE := Lib.hid (show l.contains x = (l.drop (i + 1)).contains x by rw [HC.out, hd, t1]; rfl)
        clear hi hy hd hxy
        go_wp2
        go_roundg gg
        case rel => exact ⟨i + 1, by have := HI.out; omega, by go_num, HE.out, rfl⟩
        case measure => omega
set_option maxRecDepth 100000 in set_option maxHeartbeats 3200000 in
theorem containsOf (v : Value) (l : List Int) (x : Int) (w : World) (H : Sl w v l) (hl : l.length ≤ 256) : Calls Tryz.prog 132 #[v, .int .i64 x] w fun e w' => e = .returned (.bool (l.contains x)) ∧ w = w' := by
  have HC := Lib.hid (indexOf v l x w H hl)
  clear H hl
  go_enter Tryz.func132, Tryz.ntmps132
  go_wp2_with fail
  refine HC.out.mono ?_
  rintro e w2 ⟨⟨r, rfl, hr⟩, rfl⟩
  have HR := Lib.hid hr
  clear hr HC
  go_wp2
  go_ret
  exact ⟨ret_bool HR.out, rfl⟩
set_option maxRecDepth 100000 in set_option maxHeartbeats 3200000 in
theorem incache (v : Value) (L : List (List Int)) (z : Nat) (x : Int) (l : List Int) (g4 g5 : Nat) (w : World) (H : Rc w v L) (hl : L[z]? = some l) (hl6 : l.length ≤ 256) (h4 : Blk w g4 3 [.int .i64 z]) (h5 : Blk w g5 3 [.int .i64 x]) :
    Calls Tryz.prog 145 #[v, .pointer (some ⟨g4, 0, none⟩), .pointer (some ⟨g5, 0, none⟩)] w fun e w' => e = .returned (.bool (l.contains x)) ∧ Below w.heap.size w w' := by
  obtain ⟨v0, rfl, hLc⟩ := H
  obtain ⟨b, c, hvf, hlc, _⟩ := hLc.form
  obtain ⟨n, hn⟩ : ∃ n, L.length = n := ⟨_, rfl⟩
  have hzn := lt_of hl
  rw [hn] at hvf hlc hzn
  subst hvf
  have b1 := below_box w (.cells #[.slice (some ⟨b, 0, none⟩) n c] 93)
  have d1 := (Blk.new w 93 #[.slice (some ⟨b, 0, none⟩) n c] [.slice (some ⟨b, 0, none⟩) n c] rfl).cell 0
  have d4 := (h4.later b1).cell 0
  have d5 := (h5.later b1).cell 0
  simp only [List.getElem?_cons_zero] at d1 d4 d5
  obtain ⟨al, m, cl, dl, hm, hsl⟩ := (hLc.below b1).at hl
  have HSL := Lib.hid hsl
  clear hn hl h4 h5 hLc hm hsl
  go_enter Tryz.func145, Tryz.ntmps145
  go_upto_region 1 with fail
  obtain ⟨w1, hw1⟩ : ∃ W, W = w.alloc (.cells #[.slice (some ⟨b, 0, none⟩) n c] 93) := ⟨_, rfl⟩
  rw [← hw1] at b1 d1 d4 d5 dl HSL ⊢
  obtain ⟨g, hg0⟩ : ∃ g, w.heap.size = g := ⟨_, rfl⟩
  rw [hg0] at d1 ⊢
  clear hw1 hg0
  have HC := Lib.hid (fun u => calls_over_same (containsOf (.slice al m cl) l x (over w1 u) (HSL.out.below (below_over w1 u)) hl6))
  have d1 := over_cell d1; have d4 := over_cell d4; have d5 := over_cell d5; have dl := over_cell dl
  refine wp_region_over (by kernel_rfl) (by kernel_rfl) ?_
  repeat (go_big_quiet_step ((go_at_call 132; exact HC.out _)))
  refine wpQuiet_nil ?_
  rintro _ ⟨u, rfl⟩
  have hfin := below_then b1 (below_over w1 u)
  go_wp2
  go_ret
  exact ⟨rfl, hfin⟩
/-- The cache that a frame is in. -/
def CacheAns (a : A) (z : Nat) (x : Int) (e : Ending) : Prop :=
  (∃ c : Nat, c < a.cs.length ∧ x ∈ lst a c z ∧ e = .returned (.int .i64 c)) ∨ (¬ Ca a z x ∧ e = .returned (.int .i64 (-1)))
set_option maxRecDepth 100000 in set_option maxHeartbeats 3200000 in
theorem idxC (s : Sh) (zc ccs : List Value) (a : A) (z : Nat) (x : Int) (g4 g5 : Nat) (w : World) (H : AW w s zc ccs a) (hV : VA a) (hz : z < a.zs.length) (h4 : Blk w g4 3 [.int .i64 z]) (h5 : Blk w g5 3 [.int .i64 x]) :
    Calls Tryz.prog 144 #[.slice (some ⟨s.bc, 0, none⟩) s.nc s.cc, .func (.func 145) #[] #[.pointer (some ⟨g4, 0, none⟩), .pointer (some ⟨g5, 0, none⟩)]] w fun e w' => CacheAns a z x e ∧ Below w.heap.size w w' := by
  have HV := Lib.hid hV; have HW := Lib.hid H; have HZ := Lib.hid hz; have H4 := Lib.hid h4; have H5 := Lib.hid h5
  have HC := Lib.hid H.ec
  have hnc4 : s.nc ≤ 4 := by rw [← H.ec, hV.nc]; exact hV.n4
  clear hV H hz h4 h5
  go_enter Tryz.func144, Tryz.ntmps144
  go_wp2
  go_loopg [8] s.nc (fun gg v8 wr => ∃ c : Nat, c + gg = s.nc ∧ v8 = .int .i64 c ∧ Below w.heap.size w wr ∧ ∀ d, d < c → x ∉ lst a d z)
  case atStart => exact ⟨0, by omega, rfl, Below.refl _ _, fun d hd => by omega⟩
  case round =>
    obtain ⟨c, hc, rfl, B1, hno⟩ := hrel
    have HNO := Lib.hid hno
    clear hno
    cases gk with
    | zero =>
      have hcl : ¬ c < s.nc := by omega
      have HE := Lib.hid (show ¬ Ca a z x from fun ⟨d, hd, hx⟩ => HNO.out d (by rw [HC.out] at hd; omega) hx)
      clear hc
      go_wp2
      go_ret
      exact ⟨.inr ⟨HE.out, rfl⟩, B1⟩
    | succ gg =>
      have hcl : c < s.nc := by omega
      have HI := Lib.hid hc
      obtain ⟨L, hL⟩ := get_some HC.out hcl
      have W1 := HW.out.below B1
      obtain ⟨v, hv, hLc⟩ := W1.c.row c L hL
      have dv : wr.cell? ⟨s.bc, c, none⟩ = some v := by rw [W1.c.x.cell]; exact hv
      obtain ⟨l, hl⟩ := get_some (l := L) (HV.out.cl hL) HZ.out
      have hC := incache (.agg #[v]) L z x l g4 g5 wr ⟨_, rfl, hLc⟩ hl ((HV.out.vc hL).len hl) (H4.out.later B1) (H5.out.later B1)
      obtain ⟨b, hb⟩ : ∃ b, l.contains x = b := ⟨_, rfl⟩
      rw [hb] at hC
      have hle := lst_of hL hl
      have HCC := Lib.hid hC; have HB := Lib.hid hb; have HLE := Lib.hid hle
      have hBc := W1.c.x
      clear hc hL hv hLc hl hC hb hle W1
      go_wp2_with fail
      refine HCC.out.mono ?_
      rintro e w2 ⟨rfl, b2⟩
      have B2 := below_then B1 b2
      clear B1 b2 dv hBc HCC
      cases b with
      | true =>
        have HE := Lib.hid (show x ∈ lst a c z by rw [HLE.out]; have := HB.out; simpa using this)
        go_wp2
        go_ret
        exact ⟨.inl ⟨c, by rw [HC.out]; exact hcl, HE.out, rfl⟩, B2⟩
      | false =>
        have HE := Lib.hid (show x ∉ lst a c z by rw [HLE.out]; have := HB.out; simpa using this)
        go_wp2
        go_roundg gg
        case rel => exact ⟨c + 1, by have := HI.out; omega, by go_num, B2, fun d hd => by
          by_cases e : d = c
          · subst e; exact HE.out
          · exact HNO.out d (by omega)⟩
        case measure => omega
set_option maxRecDepth 100000 in set_option maxHeartbeats 3200000 in
theorem cachedof (v : Value) (a : A) (z : Nat) (x : Int) (w : World) (H : Ra w v a) (hV : VA a) (hz : z < a.zs.length) : Calls Tryz.prog 89 #[v, .int .i64 z, .int .i64 x] w fun e w' => CacheAns a z x e ∧ Below w.heap.size w w' := by
  obtain ⟨s, zc, ccs, rfl, hW⟩ := H
  have X0 := ((AX.new hW).below (below_box _ (.cells #[.int .i64 z] 3))).below (below_box _ (.cells #[.int .i64 x] 3))
  have hs : (w.alloc (.cells (s.cells a.bt a.hi).toArray 28)).heap.size = w.heap.size + 1 := by simp
  have hs2 : ((w.alloc (.cells (s.cells a.bt a.hi).toArray 28)).alloc (.cells #[.int .i64 z] 3)).heap.size = w.heap.size + 2 := by simp
  have N4 := (Blk.new (w.alloc (.cells (s.cells a.bt a.hi).toArray 28)) 3 #[.int .i64 z] [.int .i64 z] rfl).later (below_box _ (.cells #[.int .i64 x] 3))
  have N5 := Blk.new ((w.alloc (.cells (s.cells a.bt a.hi).toArray 28)).alloc (.cells #[.int .i64 z] 3)) 3 #[.int .i64 x] [.int .i64 x] rfl
  rw [hs] at N4
  rw [hs2] at N5
  have HV := Lib.hid hV; have HZ := Lib.hid hz
  clear hW hs hs2 hV hz
  go_enter Tryz.func89, Tryz.ntmps89
  go_upto_region 1 with fail
  obtain ⟨w1, hw1⟩ : ∃ W, W = ((w.alloc (.cells (s.cells a.bt a.hi).toArray 28)).alloc (.cells #[.int .i64 z] 3)).alloc (.cells #[.int .i64 x] 3) := ⟨_, rfl⟩
  rw [← hw1] at X0 N4 N5 ⊢
  obtain ⟨g5, hg5⟩ : ∃ g, w.heap.size + 2 = g := ⟨_, rfl⟩
  obtain ⟨g4, hg4⟩ : ∃ g, w.heap.size + 1 = g := ⟨_, rfl⟩
  simp only [Nat.add_assoc, Nat.reduceAdd] at N4 N5 ⊢
  rw [hg5] at N5 ⊢
  rw [hg4] at N4 ⊢
  obtain ⟨g, hg0⟩ : ∃ g, w.heap.size = g := ⟨_, rfl⟩
  have X1 : AX w g s zc ccs a w1 := by rw [← hg0]; exact X0
  rw [hg0]
  clear hw1 X0 hg0 hg4 hg5
  have c4 := X1.c4
  have HC := Lib.hid (idxC s zc ccs a z x g4 g5 w1 X1.v HV.out HZ.out N4 N5)
  have hb := X1.b
  clear X1 N4 N5
  go_wp2_with fail
  refine HC.out.mono ?_
  rintro e w2 ⟨hA, b2⟩
  have hb2 := below_then hb b2
  rcases hA with ⟨c, h1, h2, rfl⟩ | ⟨h1, rfl⟩
  · have HE := Lib.hid (show CacheAns a z x (.returned (.int .i64 c)) from .inl ⟨c, h1, h2, rfl⟩)
    clear h1 h2 HC
    go_wp2
    go_ret
    exact ⟨HE.out, hb2⟩
  · have HE := Lib.hid (show CacheAns a z x (.returned (.int .i64 (-1))) from .inr ⟨h1, rfl⟩)
    clear h1 HC
    go_wp2
    go_ret
    exact ⟨HE.out, hb2⟩
section
variable {ops : Array Oper} {rest : List Oper} {d i : Nat} {ty : TypeId} {pos : String} {af : Array Edge} {a : Act} {w : World} {Q : Exit → Act → World → Prop} {g bt hi : Nat} {s : Sh}
theorem ldag {gd : Nat × Bool} (hw : Region.wanted { dst := some d, op := .load 28 (.tmp i), type := ty, pos := pos, after := af, guard := some gd } (yielded ops a.tmps) = true)
    (hx : a.eval (.tmp i) = .pointer (some ⟨g, 0, none⟩)) (hB : Blk w g 28 (s.cells bt hi)) (h : wpList Tryz.prog ops Q rest (a.put (some d) (.agg (s.cells bt hi).toArray)) w) :
    wpList Tryz.prog ops Q ({ dst := some d, op := .load 28 (.tmp i), type := ty, pos := pos, after := af, guard := some gd } :: rest) a w := by
  refine wpList_step fun K hK => ?_
  simp only [hw, if_true]
  exact wp_load_row 28 (.tmp i) rfl g hx 28 (s.cells bt hi).toArray (0, 0) _ hB Tryz.underlying28 rfl (by rw [infoA]; rfl) (hK _ _ h)
end
set_option maxRecDepth 100000 in set_option maxHeartbeats 3200000 in
theorem afree (v : Value) (a : A) (z : Nat) (x : Int) (w : World) (H : Ra w v a) (hV : VA a) (hz : z < a.zs.length) (hx : inZ (zn a z) x) : Calls Tryz.prog 39 #[v, .int .i64 z, .int .i64 x] w fun e w' => (∃ b, e = .returned (.bool b) ∧ (b = true ↔ Fr a z x)) ∧ Below w.heap.size w w' := by
  have HV := Lib.hid hV; have HZ := Lib.hid hz; have HX := Lib.hid hx
  obtain ⟨y, hy⟩ := get_some (l := a.zs) rfl hz
  have hzn := zn_of hy
  have hvz : VZ y := by have := hV.vz z hz; rw [hzn] at this; exact this
  have HVZ := Lib.hid hvz; have HY := Lib.hid hy; have HZN := Lib.hid hzn
  rw [hzn] at hx
  have HR0 := Lib.hid (show R y.st y.ct x 0 from by unfold inZ at hx; exact ⟨by omega, hx.1, by rw [pw_zero]; omega, by rw [pw_zero]; omega⟩)
  clear hV hx hy hzn hvz
  obtain ⟨s, zc, ccs, rfl, hV⟩ := H
  have X0 := AX.new hV
  clear hV
  go_enter Tryz.func39, Tryz.ntmps39
  go_upto_region 1 with fail
  obtain ⟨w1, hw1⟩ : ∃ W, W = w.alloc (.cells (s.cells a.bt a.hi).toArray 28) := ⟨_, rfl⟩
  have X1 : AX w w.heap.size s zc ccs a w1 := by rw [hw1]; exact X0
  rw [← hw1]
  obtain ⟨g, hg0⟩ : ∃ g, w.heap.size = g := ⟨_, rfl⟩
  rw [hg0] at X1 ⊢
  clear hw1 X0 hg0
  rw [X1.v.ez] at hz
  have Q1 := X1.v.q
  have c3 := X1.c3
  go_wp2_with ((with_reducible refine ldq ?_ Q1 HY.out ?_); (focus rfl))
  refine (isfree _ y x w1 ⟨_, rfl, Q1.row z y HY.out⟩ HVZ.out HR0.out).mono ?_
  rintro e w2 ⟨⟨b, rfl, hb⟩, b2⟩
  have X2 := X1.below b2
  clear X1 b2 Q1 c3
  cases b with
  | true =>
    have HE := Lib.hid (show Fr a z x from .inl (by rw [HZN.out]; exact hb.1 rfl))
    clear hb
    go_wp2
    go_ret
    exact ⟨⟨_, rfl, fun _ => HE.out, fun _ => rfl⟩, X2.b⟩
  | false =>
    have HNC := Lib.hid (show ¬ Cov (F (zn a z).fr) x from fun h => by rw [HZN.out] at h; have := hb.2 h; cases this)
    clear hb
    go_wp2_with ((with_reducible refine ldag ?_ ?_ X2.x ?_); (focus rfl); (focus rfl))
    refine (cachedof _ a z x w2 X2.ra HV.out HZ.out).mono ?_
    rintro e w3 ⟨hA, b3⟩
    have X3 := X2.below b3
    clear X2 b3
    rcases hA with ⟨c, h1, h2, rfl⟩ | ⟨h1, rfl⟩
    · have HE := Lib.hid (show Fr a z x from .inr ⟨c, h1, h2⟩)
      have tc : decide (0 ≤ (c : Int)) = true := by simp
      clear h1 h2
      go_wp2
      go_ret
      exact ⟨⟨_, rfl, fun _ => HE.out, fun _ => rfl⟩, X3.b⟩
    · have HE := Lib.hid (show ¬ Fr a z x from fun h => h.elim HNC.out h1)
      clear h1
      go_wp2
      go_ret
      exact ⟨⟨_, rfl, fun h => (by cases h), fun h => absurd h HE.out⟩, X3.b⟩
end Go.Proofs.YtdddkfpcbfgocaaGreat
namespace Go.Seg
section
variable {P : Program} {ops : Array Oper} {md : Region.Mode} {S : World → Prop} {Q : Exit → Act → World → Prop} {brks : List Nat}
/-- The class is kept, until one of some operations breaks it. -/
def wpAnyB (P : Program) (md : Region.Mode) (ops : Array Oper) (brks : List Nat) (S : World → Prop) (Q : Exit → Act → World → Prop) : Nat → Array Bool → Act → World → Prop
  | 0, listed, a, w => Region.ready md ops listed = [] ∧ Q .normal a w
  | f + 1, listed, a, w =>
    (Region.ready md ops listed = [] → Q .normal a w) ∧
    ∀ i ∈ Region.ready md ops listed, wpOp P ops Q i (fun a' w' => (i ∈ brks → wpAny P md ops Q f (listed.setIfInBounds i true) a' w') ∧ (i ∉ brks → S w' ∧ wpAnyB P md ops brks S Q f (listed.setIfInBounds i true) a' w')) a w
theorem wpAnyB_any : ∀ (f : Nat) (listed : Array Bool) (a : Act) (w : World), wpAnyB P md ops brks S Q f listed a w → wpAny P md ops Q f listed a w
  | 0, _, _, _, h => h
  | f + 1, _, _, _, h => ⟨h.1, fun i hi => wpOp_mono (fun a' w' h' => by
    by_cases e : i ∈ brks
    · exact h'.1 e
    · exact wpAnyB_any f _ a' w' (h'.2 e).2) (h.2 i hi)⟩
/-- Those operations wait for operation i. -/
def Waits (md : Region.Mode) (ops : Array Oper) (brks : List Nat) (i : Nat) : Prop := ∀ j ∈ brks, ∀ o, ops[j]? = some o → ∃ e ∈ o.after, Region.binds md e = true ∧ e.on = i
theorem firstB {i : Nat} {oi : Oper} {v : Value} (hi : ops[i]? = some oi) (hwt : Waits md ops brks i) (hil : i ∉ brks) (hsel : ∀ (j : Nat) (o : Oper) cs b, ops[j]? = some o → o.op ≠ .select cs b)
    (hQ : ∀ c a d v w, Q (.panic c) (Act.put a d v) w → Q (.panic c) a w) :
    ∀ (fuel : Nat) (listed : Array Bool) (a : Act) (w : World), S w →
      (∀ j oj, ops[j]? = some oj → j ≠ i → listed.getD j true = false → (∀ e ∈ oj.after, Region.binds md e = true → e.on ≠ i) → oi.apart ops oj = true) →
      i ∈ Region.ready md ops listed → (∀ w, S w → YieldsAt P ops w oi v a) →
      wpAnyB P md ops brks S Q fuel (listed.setIfInBounds i true) (a.put oi.dst v) w → wpAnyB P md ops brks S Q (fuel + 1) listed a w := by
  intro fuel
  induction fuel with
  | zero =>
    intro listed a w hS _ hr hy H
    refine ⟨fun h => (by rw [h] at hr; cases hr), fun j hj => ?_⟩
    by_cases hji : j = i
    · subst hji; exact wpOp_of_yields hi (hy w hS) ⟨fun h => absurd h hil, fun _ => ⟨hS, H⟩⟩
    · have := ready_mono hj hji
      rw [H.1] at this
      cases this
  | succ fuel ih =>
    intro listed a w hS hfree hr hy H
    refine ⟨fun h => (by rw [h] at hr; cases hr), fun j hj => ?_⟩
    by_cases hji : j = i
    · subst hji; exact wpOp_of_yields hi (hy w hS) ⟨fun h => absurd h hil, fun _ => ⟨hS, H⟩⟩
    · have h1 := H.2 j (ready_mono hj hji)
      obtain ⟨hjun, oj, hoj, hall⟩ := mem_ready.1 hj
      have hnot : ∀ e ∈ oj.after, Region.binds md e = true → e.on ≠ i := fun e he hb heq => by
        have h1 := hall e he hb
        have h0 := (mem_ready.1 hr).1
        rw [heq] at h1
        rcases Nat.lt_or_ge i listed.size with h' | h'
        · simp [h'] at h0 h1; rw [h0] at h1; cases h1
        · simp [Array.getElem?_eq_none h'] at h1
      have hjl : j ∉ brks := fun hm => by
        obtain ⟨e, he, hb, heq⟩ := hwt j hm oj hoj
        exact hnot e he hb heq
      have h2 := wpOp_put hoj (hfree j oj hoj hji hjun hnot) (fun cs b => hsel i oi cs b hi) (fun cs b => hsel j oj cs b hoj) hQ hy h1
      have hfree' : ∀ k ok, ops[k]? = some ok → k ≠ i → (listed.setIfInBounds j true).getD k true = false →
          (∀ e ∈ ok.after, Region.binds md e = true → e.on ≠ i) → oi.apart ops ok = true := fun k ok hk hki hun hno => by
        refine hfree k ok hk hki ?_ hno
        by_cases hjk : j = k
        · subst hjk; exact hjun
        · rw [getD_set_ne true hjk] at hun; exact hun
      refine wpOp_mono (fun a' w' h3 => ⟨fun h => absurd h hjl, fun _ => ?_⟩) h2
      obtain ⟨q1, q2⟩ := h3.2.2 hjl
      refine ⟨q1, ih (listed.setIfInBounds j true) a' w' q1 hfree' (ready_mono hr (Ne.symm hji)) h3.1 ?_⟩
      rw [Array.setIfInBounds_comm _ _ hji]
      exact q2
theorem anyB_of_quiets (hs : Region.noSelect ops = true) (hQ : ∀ c a d v w, Q (.panic c) (Act.put a d v) w → Q (.panic c) a w) {f : Nat} :
    ∀ (l : List Oper) (ks : List Nat) (listed : Array Bool) (a : Act) (w : World), (ks.map fun k => ops[k]?) = l.map some → quietB md ops ks listed = true → (∀ k ∈ ks, Waits md ops brks k ∧ k ∉ brks) → S w →
      wpEachF P ops S (fun a' w' => wpAnyB P md ops brks S Q f (setAll listed ks) a' w') l a w → wpAnyB P md ops brks S Q (f + l.length) listed a w
  | [], [], _, _, _, _, _, _, _, h => h
  | [], _ :: _, _, _, _, hl, _, _, _, _ => by simp at hl
  | _ :: _, [], _, _, _, hl, _, _, _, _ => by simp at hl
  | o :: l, k :: ks, listed, a, w, hl, hB, hk, hS, h => by
    simp only [List.map_cons, List.cons.injEq] at hl
    simp only [quietB, Bool.and_eq_true] at hB
    obtain ⟨⟨hr, hf⟩, hB'⟩ := hB
    obtain ⟨v, hy, hK⟩ := h
    obtain ⟨k1, k2⟩ := hk k (by simp)
    exact firstB hl.1 k1 k2 (Region.noSelect_spec hs) hQ (f + l.length) listed a w hS (Region.free_spec hl.1 hf) (by simpa using hr) hy
      (anyB_of_quiets hs hQ l ks _ _ _ hl.2 hB' (fun j hj => hk j (by simp [hj])) hS hK)
inductive Plan2 where
  | quiet (ks : List Nat) (p : Plan2)
  | only (k : Nat) (p : Plan2)
  | brk (k : Nat) (p : Plan)
def Plan2.size : Plan2 → Nat
  | .quiet ks p => p.size + ks.length
  | .only _ p => p.size + 1
  | .brk _ p => p.size + 1
def waitsB (md : Region.Mode) (ops : Array Oper) (brks : List Nat) (i : Nat) : Bool := brks.all fun j => match ops[j]? with
  | none => true
  | some o => o.after.any fun e => Region.binds md e && decide (e.on = i)
theorem waitsB_spec {i : Nat} (h : waitsB md ops brks i = true) : Waits md ops brks i := by
  intro j hj o ho
  have := List.all_eq_true.1 h j hj
  simp only [ho, Array.any_eq_true, Bool.and_eq_true, decide_eq_true_eq] at this
  obtain ⟨q, hq, h2, h3⟩ := this
  exact ⟨_, Array.getElem_mem hq, h2, h3⟩
def planB2 (md : Region.Mode) (l : List Oper) (brks : List Nat) : Plan2 → Array Bool → Bool
  | .quiet ks p, listed => quietB md l.toArray ks listed && (inOrder l ks).all (fun o => valueOp o.op) && ks.all (fun k => decide (k < l.length)) && ks.all (fun k => waitsB md l.toArray brks k && decide (k ∉ brks)) && planB2 md l brks p (setAll listed ks)
  | .only k p, listed => decide (Region.ready md l.toArray listed = [k]) && decide (k < l.length) && decide (k ∉ brks) && planB2 md l brks p (listed.setIfInBounds k true)
  | .brk k p, listed => decide (Region.ready md l.toArray listed = [k]) && decide (k < l.length) && decide (k ∈ brks) && planB md l l.toArray.size p (listed.setIfInBounds k true)
def wpPlan2 (P : Program) (l : List Oper) (S : World → Prop) (Q : Exit → Act → World → Prop) : Plan2 → Act → World → Prop
  | .quiet ks p, a, w => wpQuiet P l.toArray S (fun a' => wpPlan2 P l S Q p a' w) (inOrder l ks) a
  | .only k p, a, w => wpList P l.toArray (Kept S fun a' w' => wpPlan2 P l S Q p a' w') (inOrder l [k]) a w
  | .brk k p, a, w => wpList P l.toArray (Kept (fun _ => True) fun a' w' => wpPlan P l (fun _ => True) Q p a' w') (inOrder l [k]) a w
theorem anyB_plan {l : List Oper} (hs : Region.noSelect l.toArray = true) (hQ : ∀ c a d v w, Q (.panic c) (Act.put a d v) w → Q (.panic c) a w) :
    ∀ (p : Plan2) (x : Nat) (listed : Array Bool) (a : Act) (w : World), planB2 md l brks p listed = true → S w → wpPlan2 P l S Q p a w → wpAnyB P md l.toArray brks S Q (p.size + x) listed a w
  | .quiet ks p, x, listed, a, w, hB, hS, h => by
    simp only [planB2, Bool.and_eq_true] at hB
    obtain ⟨⟨⟨⟨b1, b2⟩, b3⟩, b4⟩, b5⟩ := hB
    obtain ⟨i0, j0⟩ := inOrder_map ks b3
    have g := anyB_of_quiets (P := P) (S := S) (Q := Q) (brks := brks) hs hQ (f := p.size + x) (inOrder l ks) ks listed a w i0 b1 (fun k hk => by
        have := List.all_eq_true.1 b4 k hk
        simp only [Bool.and_eq_true, decide_eq_true_eq] at this
        exact ⟨waitsB_spec this.1, this.2⟩) hS
      (eachF_of_quiet (inOrder l ks) a (fun o ho => List.all_eq_true.1 b2 o ho) (wpQuiet_imp (fun a' hh => anyB_plan hs hQ p x _ a' w b5 hS hh) _ _ h))
    rw [j0] at g
    show wpAnyB P md l.toArray brks S Q (p.size + ks.length + x) listed a w
    rw [show p.size + ks.length + x = p.size + x + ks.length by omega]
    exact g
  | .only k p, x, listed, a, w, hB, hS, h => by
    simp only [planB2, Bool.and_eq_true, decide_eq_true_eq] at hB
    obtain ⟨⟨⟨b1, b2⟩, b4⟩, b3⟩ := hB
    obtain ⟨o, m1, m2⟩ := one_of b2
    simp only [wpPlan2, m1] at h
    show wpAnyB P md l.toArray brks S Q (p.size + 1 + x) listed a w
    rw [show p.size + 1 + x = p.size + x + 1 by omega]
    refine ⟨fun h1 => (by rw [b1] at h1; cases h1), fun i hi => ?_⟩
    rw [b1] at hi
    obtain rfl := List.mem_singleton.1 hi
    exact op_of_list m2 hS h fun a' w' hs' hk => ⟨fun hm => absurd hm b4, fun _ => ⟨hs', anyB_plan hs hQ p x _ a' w' b3 hs' hk⟩⟩
  | .brk k p, x, listed, a, w, hB, hS, h => by
    simp only [planB2, Bool.and_eq_true, decide_eq_true_eq] at hB
    obtain ⟨⟨⟨b1, b2⟩, b4⟩, b3⟩ := hB
    obtain ⟨o, m1, m2⟩ := one_of b2
    simp only [wpPlan2, m1] at h
    show wpAnyB P md l.toArray brks S Q (p.size + 1 + x) listed a w
    rw [show p.size + 1 + x = p.size + x + 1 by omega]
    refine ⟨fun h1 => (by rw [b1] at h1; cases h1), fun i hi => ?_⟩
    rw [b1] at hi
    obtain rfl := List.mem_singleton.1 hi
    exact op_of_list m2 trivial h fun a' w' _ hk => ⟨fun _ => wpAnyL_any _ _ _ _ (anyL_plan (S := fun _ => True) lasts_none hs hQ p x _ a' w' b3 trivial hk), fun hm => absurd b4 hm⟩
def planRB2 (l : List Oper) (brks : List Nat) (p : Plan2) : Bool := Region.noSelect l.toArray && decide (p.size ≤ l.length) && planB2 .any l brks p (Array.replicate l.toArray.size false)
/-- THE REGION, ALONG A PLAN OF TWO STAGES. -/
theorem wp_region_stages {id : Nat} {a : Act} {w : World} {l : List Oper} (S0 : World → Prop) (p : Plan2) (brks : List Nat) (hm : P.follows .mixedOrders = true) (hB : planRB2 l brks p = true) (h0 : S0 { w with drawn := w.drawn + 1 })
    (h : ∀ W, S0 W → W = { w with drawn := w.drawn + 1 } → wpPlan2 P l (fun w' => ∃ u, w' = hold S0 W u) (NoPanic Q) p a W) : (Code.region id l.toArray true).wp P Q a w := by
  refine wp_region_noPanic (wp_region_any hm ?_)
  simp only [planRB2, Bool.and_eq_true, decide_eq_true_eq] at hB
  obtain ⟨⟨b1, b3⟩, b4⟩ := hB
  have g := anyB_plan (md := .any) b1 (fun c a d v w h => h) p (l.length - p.size) _ a _ b4 (hold_of h0) (h _ h0 rfl)
  rw [show p.size + (l.length - p.size) = l.length by omega] at g
  have g4 := wpAnyB_any _ _ _ _ g
  simpa using g4
end
end Go.Seg
namespace Go.Proofs.YtdddkfpcbfgocaaGreat
open Go.RowKit Go.Over Go.Zn Go.Can Go.Seg Go.Grow
theorem KZ : Kind Tryz.prog 25 102 10 160 := Kind.mk' Tryz.underlying25 (z := .agg #[.int .i64 0, .int .i64 0, .int .i64 0, .int .i64 0, .int .i64 0, .slice none 0 0, .slice none 0 0, .slice none 0 0, .slice none 0 0, .slice none 0 0]) (by kernel_rfl) rfl (by decide) (by decide)
theorem KC : Kind Tryz.prog 26 93 1 24 := Kind.mk' Tryz.underlying26 (z := .agg #[.slice none 0 0]) (by kernel_rfl) rfl (by decide) (by decide)
theorem KL : Kind Tryz.prog 91 24 1 24 := Kind.mk' Tryz.underlying91 (z := .slice none 0 0) (by kernel_rfl) rfl (by decide) (by decide)
theorem own_open {w : World} {base e size n : Nat} {v : Value} {xs : List Value} (h : w.ownsRow base e size v n xs) (hn : 0 < n) :
    ∃ g cap cur, v = .slice (some ⟨g, 0, none⟩) n cap ∧ base ≤ g ∧ Blk w g e cur ∧ n ≤ cap ∧ cap ≤ maxLen ∧ cur.length = cap * size ∧ cur.take (n * size) = xs := by
  rcases h.2 with ⟨_, rfl⟩ | ⟨g, cap, cur, rfl, h1, h2, h3, h4, h5, h6⟩
  · omega
  · exact ⟨g, cap, cur.toList, rfl, h1, by unfold Blk; simpa using h2, h3, h4, by simpa using h5, by simpa using h6⟩
/-- What a copy of a row gives. -/
def RowCopy (w : World) (e n size : Nat) (zs : List Value) (en : Ending) (w' : World) : Prop :=
  ∃ g cap cur, en = .returned (.slice (some ⟨g, 0, none⟩) n cap) ∧ w.heap.size ≤ g ∧ Blk w' g e cur ∧ n ≤ cap ∧ cap ≤ maxLen ∧ n * size ≤ cur.length ∧ (∀ j, j < n * size → cur[j]? = zs[j]?) ∧ Below w.heap.size w w'
set_option maxRecDepth 100000 in set_option maxHeartbeats 3200000 in
theorem copyZ (b n c : Nat) (zs : List Value) (w : World) (hB : Blk w b 102 zs) (hl : n * 10 ≤ zs.length) (h1 : ∀ u ∈ zs.take (n * 10), u.oneCell' = true) (hn : 1 ≤ n) (hn6 : n ≤ 100) :
    Calls Tryz.prog 90 #[.slice (some ⟨b, 0, none⟩) n c] w (RowCopy w 102 n 10 zs) := by
  have hsrc : Grow.Src (w.alloc (.cells #[] 102)) 10 (some ⟨b, 0, none⟩) n c (zs.take (n * 10)) := ⟨by rw [List.length_take]; omega, h1, .inr ⟨_, rfl, fun j u hj => by
    rw [add_off, Nat.zero_add, (hB.later (below_box w _)).cell]
    rw [List.getElem?_take] at hj
    split at hj
    · exact hj
    · cases hj⟩⟩
  have k1 := fun w' => Lib.run_eql_slice_nil (P := Tryz.prog) w' 25 102 (some ⟨b, 0, none⟩) n c 0 0 Tryz.underlying25
  have hmade : (w.alloc (.cells #[] 102)).ownsRow w.heap.size 102 10 (.slice (some ⟨w.heap.size, 0, none⟩) 0 0) 0 [] := World.ownsRow_made w #[] 0 (Nat.le_refl _) (Nat.zero_le _) rfl
  have HS := Lib.hid hsrc
  clear hsrc hB hl h1
  go_enter Tryz.func90, Tryz.ntmps90
  go_wp2_with (at_builtin; refine wpList_append_k KZ rfl (.tmp 5) (.tmp 6) rfl _ 0 [] rfl hmade _ n c _ rfl HS.out ?c1 ?c2 ?_)
  case c1 => omega
  case c2 => simp
  intro v' w' hown hg _
  have hb : Below w.heap.size w w' := (below_box w _).grown hg (by simp) (fun k hk => by simp [Value.ownBlock] at hk; omega)
  obtain ⟨g, cap, cur, hv, q1, q2, q3, q4, q5, q6⟩ := own_open hown (by omega)
  subst hv
  have HR := Lib.hid (show RowCopy w 102 n 10 zs (.returned (.slice (some ⟨g, 0, none⟩) n cap)) w' from ⟨g, cap, cur, rfl, q1, q2, q3, q4, by rw [q5]; exact Nat.mul_le_mul_right _ q3, fun j hj => by
    have h2 : (cur.take (n * 10))[j]? = (zs.take (n * 10))[j]? := by rw [q6]; try rw [Nat.mul_one]
    rwa [List.getElem?_take, List.getElem?_take, if_pos hj, if_pos hj] at h2, hb⟩)
  clear hown hg q1 q2 q3 q4 q5 q6 hb
  go_wp2
  go_ret
  exact HR.out
set_option maxRecDepth 100000 in set_option maxHeartbeats 3200000 in
theorem copyC (b n c : Nat) (zs : List Value) (w : World) (hB : Blk w b 93 zs) (hl : n * 1 ≤ zs.length) (h1 : ∀ u ∈ zs.take (n * 1), u.oneCell' = true) (hn : 1 ≤ n) (hn6 : n ≤ 100) :
    Calls Tryz.prog 91 #[.slice (some ⟨b, 0, none⟩) n c] w (RowCopy w 93 n 1 zs) := by
  have hsrc : Grow.Src (w.alloc (.cells #[] 93)) 1 (some ⟨b, 0, none⟩) n c (zs.take (n * 1)) := ⟨by rw [List.length_take]; omega, h1, .inr ⟨_, rfl, fun j u hj => by
    rw [add_off, Nat.zero_add, (hB.later (below_box w _)).cell]
    rw [List.getElem?_take] at hj
    split at hj
    · exact hj
    · cases hj⟩⟩
  have k1 := fun w' => Lib.run_eql_slice_nil (P := Tryz.prog) w' 26 93 (some ⟨b, 0, none⟩) n c 0 0 Tryz.underlying26
  have hmade : (w.alloc (.cells #[] 93)).ownsRow w.heap.size 93 1 (.slice (some ⟨w.heap.size, 0, none⟩) 0 0) 0 [] := World.ownsRow_made w #[] 0 (Nat.le_refl _) (Nat.zero_le _) rfl
  have HS := Lib.hid hsrc
  clear hsrc hB hl h1
  go_enter Tryz.func91, Tryz.ntmps91
  go_wp2_with (at_builtin; refine wpList_append_k KC rfl (.tmp 5) (.tmp 6) rfl _ 0 [] rfl hmade _ n c _ rfl HS.out ?c1 ?c2 ?_)
  case c1 => omega
  case c2 => simp
  intro v' w' hown hg _
  have hb : Below w.heap.size w w' := (below_box w _).grown hg (by simp) (fun k hk => by simp [Value.ownBlock] at hk; omega)
  obtain ⟨g, cap, cur, hv, q1, q2, q3, q4, q5, q6⟩ := own_open hown (by omega)
  subst hv
  have HR := Lib.hid (show RowCopy w 93 n 1 zs (.returned (.slice (some ⟨g, 0, none⟩) n cap)) w' from ⟨g, cap, cur, rfl, q1, q2, q3, q4, by rw [q5]; exact Nat.mul_le_mul_right _ q3, fun j hj => by
    have h2 : (cur.take (n * 1))[j]? = (zs.take (n * 1))[j]? := by rw [q6]; try rw [Nat.mul_one]
    rwa [List.getElem?_take, List.getElem?_take, if_pos hj, if_pos hj] at h2, hb⟩)
  clear hown hg q1 q2 q3 q4 q5 q6 hb
  go_wp2
  go_ret
  exact HR.out
set_option maxRecDepth 100000 in set_option maxHeartbeats 3200000 in
theorem copyL (b n c : Nat) (zs : List Value) (w : World) (hB : Blk w b 24 zs) (hl : n * 1 ≤ zs.length) (h1 : ∀ u ∈ zs.take (n * 1), u.oneCell' = true) (hn : 1 ≤ n) (hn6 : n ≤ 100) :
    Calls Tryz.prog 92 #[.slice (some ⟨b, 0, none⟩) n c] w (RowCopy w 24 n 1 zs) := by
  have hsrc : Grow.Src (w.alloc (.cells #[] 24)) 1 (some ⟨b, 0, none⟩) n c (zs.take (n * 1)) := ⟨by rw [List.length_take]; omega, h1, .inr ⟨_, rfl, fun j u hj => by
    rw [add_off, Nat.zero_add, (hB.later (below_box w _)).cell]
    rw [List.getElem?_take] at hj
    split at hj
    · exact hj
    · cases hj⟩⟩
  have k1 := fun w' => Lib.run_eql_slice_nil (P := Tryz.prog) w' 91 24 (some ⟨b, 0, none⟩) n c 0 0 Tryz.underlying91
  have hmade : (w.alloc (.cells #[] 24)).ownsRow w.heap.size 24 1 (.slice (some ⟨w.heap.size, 0, none⟩) 0 0) 0 [] := World.ownsRow_made w #[] 0 (Nat.le_refl _) (Nat.zero_le _) rfl
  have HS := Lib.hid hsrc
  clear hsrc hB hl h1
  go_enter Tryz.func92, Tryz.ntmps92
  go_wp2_with (at_builtin; refine wpList_append_k KL rfl (.tmp 5) (.tmp 6) rfl _ 0 [] rfl hmade _ n c _ rfl HS.out ?c1 ?c2 ?_)
  case c1 => omega
  case c2 => simp
  intro v' w' hown hg _
  have hb : Below w.heap.size w w' := (below_box w _).grown hg (by simp) (fun k hk => by simp [Value.ownBlock] at hk; omega)
  obtain ⟨g, cap, cur, hv, q1, q2, q3, q4, q5, q6⟩ := own_open hown (by omega)
  subst hv
  have HR := Lib.hid (show RowCopy w 24 n 1 zs (.returned (.slice (some ⟨g, 0, none⟩) n cap)) w' from ⟨g, cap, cur, rfl, q1, q2, q3, q4, by rw [q5]; exact Nat.mul_le_mul_right _ q3, fun j hj => by
    have h2 : (cur.take (n * 1))[j]? = (zs.take (n * 1))[j]? := by rw [q6]; try rw [Nat.mul_one]
    rwa [List.getElem?_take, List.getElem?_take, if_pos hj, if_pos hj] at h2, hb⟩)
  clear hown hg q1 q2 q3 q4 q5 q6 hb
  go_wp2
  go_ret
  exact HR.out
end Go.Proofs.YtdddkfpcbfgocaaGreat
namespace Go.Proofs.YtdddkfpcbfgocaaGreat
open Go.RowKit Go.Over Go.Zn Go.Can Go.Seg Go.Grow
/-- All rows lie in blocks from B on. -/
structure AF (B : Nat) (W : World) (s : Sh) (zc ccs : List Value) : Prop where
  n : LoV B (.slice s.an s.nn s.cn)
  z : ∀ i, i < s.nz → Lo B (seg zc (i * 10) 10)
  c : ∀ (c : Nat) (v : Value), c < s.nc → ccs[c]? = some v → LoL W B v
theorem AF.past {B : Nat} {W W' : World} {s : Sh} {zc ccs : List Value} (h : AF B W s zc ccs) (hk : ∀ b bs, Blk W b 24 bs → Blk W' b 24 bs) : AF B W' s zc ccs := ⟨h.n, h.z, fun c v hc hv => (h.c c v hc hv).past hk⟩
theorem AF.below {B : Nat} {W W' : World} {s : Sh} {zc ccs : List Value} (h : AF B W s zc ccs) (hb : Below W.heap.size W W') : AF B W' s zc ccs := h.past fun _ _ hq => hq.later hb
theorem AF.weaken {B B' : Nat} {W : World} {s : Sh} {zc ccs : List Value} (h : AF B W s zc ccs) (hb : B' ≤ B) : AF B' W s zc ccs :=
  ⟨h.n.weaken hb, fun i hi k a n c hk hc => Nat.le_trans hb (h.z i hi k a n c hk hc), fun c v hc hv => (h.c c v hc hv).weaken hb⟩
/-- The rows of the zones below a place lie in blocks from B on. -/
structure LR (B : Nat) (zc : List Value) (i k : Nat) : Prop where
  h : ∀ i' k' u, (i' < i ∨ (i' = i ∧ k' < k)) → k' < 5 → zc[i' * 10 + (5 + k')]? = some u → LoV B u
theorem LR.set {B i k : Nat} {zc : List Value} {v : Value} (h : LR B zc i k) (hk : k < 5) (hv : LoV B v) : LR B (zc.set (i * 10 + (5 + k)) v) i (k + 1) := ⟨fun i' k' u h1 h2 h3 => by
  by_cases e : i' = i ∧ k' = k
  · obtain ⟨rfl, rfl⟩ := e
    by_cases hl : i' * 10 + (5 + k') < zc.length
    · rw [List.getElem?_set_self hl] at h3
      cases h3
      exact hv
    · rw [List.getElem?_eq_none (by simp; omega)] at h3
      cases h3
  · rw [List.getElem?_set_ne (by omega)] at h3
    exact h.h i' k' u (by omega) h2 h3⟩
theorem LR.next {B i : Nat} {zc : List Value} (h : LR B zc i 5) : LR B zc (i + 1) 0 := ⟨fun i' k' u h1 h2 h3 => h.h i' k' u (by omega) h2 h3⟩
theorem LR.lo {B i n : Nat} {zc : List Value} (h : LR B zc n 0) (hi : i < n) : Lo B (seg zc (i * 10) 10) := fun k a m c hk h3 => by
  rw [seg_get (by omega)] at h3
  exact h.h i k _ (.inl hi) hk h3 a m c rfl
/-- A variable that holds an allocator whose zones and caches are the call's own. -/
structure AQ (w0 : World) (g : Nat) (s : Sh) (zc ccs : List Value) (a : A) (W : World) : Prop where
  b : Below w0.heap.size w0 W
  lg : w0.heap.size ≤ g
  lz : w0.heap.size ≤ s.bz
  lc : w0.heap.size ≤ s.bc
  x : Blk W g 28 (s.cells a.bt a.hi)
  v : AW W s zc ccs a
theorem seg_in {zs : List Value} {o n j : Nat} {v : Value} (hj : j < n) : seg (zs.set (o + j) v) o n = (seg zs o n).set j v := by
  apply List.ext_getElem?
  intro k
  rcases Nat.lt_or_ge k n with hk | hk
  · rw [seg_get hk]
    by_cases e : k = j
    · subst e
      by_cases hl : o + k < zs.length
      · rw [List.getElem?_set_self hl, List.getElem?_set_self (by simp [seg]; omega)]
      · rw [List.getElem?_eq_none (by simp; omega), List.getElem?_eq_none (by simp [seg]; omega)]
    · rw [List.getElem?_set_ne (by omega), List.getElem?_set_ne (by omega), seg_get hk]
  · rw [List.getElem?_eq_none (by simp [seg]; omega), List.getElem?_eq_none (by simp [seg]; omega)]
theorem seg_out {zs : List Value} {o n j : Nat} {v : Value} (hj : j < o ∨ o + n ≤ j) : seg (zs.set j v) o n = seg zs o n := by
  apply List.ext_getElem?
  intro k
  rcases Nat.lt_or_ge k n with hk | hk
  · rw [seg_get hk, seg_get hk, List.getElem?_set_ne (by omega)]
  · rw [List.getElem?_eq_none (by simp [seg]; omega), List.getElem?_eq_none (by simp [seg]; omega)]
section
variable {w0 W W' : World} {g : Nat} {s : Sh} {zc ccs : List Value} {a : A}
theorem AQ.below (h : AQ w0 g s zc ccs a W) (hb : Below W.heap.size W W') : AQ w0 g s zc ccs a W' := ⟨below_then h.b hb, h.lg, h.lz, h.lc, h.x.later hb, h.v.below hb⟩
theorem AQ.c0 (h : AQ w0 g s zc ccs a W) : W.cell? ⟨g, 0, none⟩ = some (.slice s.an s.nn s.cn) := by rw [h.x.cell]; rfl
theorem AQ.c1 (h : AQ w0 g s zc ccs a W) : W.cell? ⟨g, 1, none⟩ = some (.int .i64 a.bt) := by rw [h.x.cell]; rfl
theorem AQ.c2 (h : AQ w0 g s zc ccs a W) : W.cell? ⟨g, 2, none⟩ = some (.int .i64 a.hi) := by rw [h.x.cell]; rfl
theorem AQ.c3 (h : AQ w0 g s zc ccs a W) : W.cell? ⟨g, 3, none⟩ = some (.slice (some ⟨s.bz, 0, none⟩) s.nz s.cz) := by rw [h.x.cell]; rfl
theorem AQ.c4 (h : AQ w0 g s zc ccs a W) : W.cell? ⟨g, 4, none⟩ = some (.slice (some ⟨s.bc, 0, none⟩) s.nc s.cc) := by rw [h.x.cell]; rfl
theorem set_grown {g i : Nat} {u : Value} : W.grownBy (W.setCell ⟨g, i, none⟩ u) (some g) := grown_cell (grown_below (Below.refl _ _))
theorem ZV.set_row {cs : List Value} {z : Z} {k : Nat} {v : Value} (h : ZV W cs z) (hk : k < 5) (hv : Sl W v (z.fr k)) : ZV W (cs.set (5 + k) v) z := by
  have hl := h.len
  refine ⟨by rw [List.length_set]; exact hl, by rw [List.getElem?_set_ne (by omega)]; exact h.nd, by rw [List.getElem?_set_ne (by omega)]; exact h.kd, by rw [List.getElem?_set_ne (by omega)]; exact h.st, by rw [List.getElem?_set_ne (by omega)]; exact h.ct, by rw [List.getElem?_set_ne (by omega)]; exact h.mn, fun j hj => ?_⟩
  by_cases e : j = k
  · subst e
    exact ⟨v, List.getElem?_set_self (by omega), hv⟩
  · obtain ⟨u, q1, q2⟩ := h.fr j hj
    exact ⟨u, by rw [List.getElem?_set_ne (by omega)]; exact q1, q2⟩
/-- A row of a zone is replaced by one of the same numbers. -/
theorem AQ.zrow {i k : Nat} {z : Z} {v : Value} (h : AQ w0 g s zc ccs a W) (hz : a.zs[i]? = some z) (hk : k < 5) (hv : Sl W v (z.fr k)) :
    AQ w0 g s (zc.set (i * 10 + (5 + k)) v) ccs a (W.setCell ⟨s.bz, i * 10 + (5 + k), none⟩ v) := by
  have hx := h.v.q.x
  have hg : W.grownBy (W.setCell ⟨s.bz, i * 10 + (5 + k), none⟩ v) (some s.bz) := set_grown
  have kp : ∀ {q t : Nat} {bs : List Value}, t ≠ 102 → Blk W q t bs → Blk (W.setCell ⟨s.bz, i * 10 + (5 + k), none⟩ v) q t bs := fun ht hq => hq.far (p := ⟨s.bz, i * 10 + (5 + k), none⟩) (hq.ne_type hx ht) v
  refine ⟨h.b.setCell (p := ⟨s.bz, i * 10 + (5 + k), none⟩) h.lz v, h.lg, h.lz, h.lc, kp (by decide) h.x, ⟨h.v.en, h.v.ez, h.v.ec, h.v.nd.past fun _ _ => kp (by decide), ⟨hx.set _ _, by rw [List.length_set]; exact h.v.q.n, fun j y hy => ?_⟩, h.v.zl, h.v.zm, h.v.c.past (kp (by decide) h.v.c.x) (fun _ _ => kp (by decide)) (fun _ _ => kp (by decide)), h.v.cl, h.v.cm⟩⟩
  by_cases e : j = i
  · subst e
    rw [hz] at hy
    cases hy
    rw [seg_in (by omega)]
    exact ((h.v.q.row j z hz).set_row hk hv).past fun _ _ => kp (by decide)
  · rw [seg_out (by omega)]
    exact (h.v.q.row j y hy).past fun _ _ => kp (by decide)
/-- A cache is replaced. -/
theorem AQ.cset {c : Nat} {L' : List (List Int)} {v : Value} (h : AQ w0 g s zc ccs a W) (hg : W.grownBy W' (some s.bc)) (hB : Blk W' s.bc 93 (ccs.set c v)) (hc : c < s.nc) (hv : Lc W v L') :
    AQ w0 g s zc (ccs.set c v) { a with cs := a.cs.set c L' } W' := by
  have hx := h.v.c.x
  have kp : ∀ {q t : Nat} {bs : List Value}, t ≠ 93 → Blk W q t bs → Blk W' q t bs := fun ht hq => hq.grown hg (by simpa using Ne.symm (hq.ne_type hx ht))
  have kl : ∀ {u : Value} {L : List (List Int)}, Lc W u L → Lc W' u L := fun ⟨b, cc, bs, h2, h3, h4, h5⟩ => ⟨b, cc, bs, h2, h3, h4, kp (by decide) h5.x, h5.n, fun i l hl => by obtain ⟨u, q1, q2⟩ := h5.row i l hl; exact ⟨u, q1, q2.past fun _ _ => kp (by decide)⟩⟩
  refine ⟨h.b.grown hg h.b.size (fun q hq => by cases hq; exact h.lc), h.lg, h.lz, h.lc, kp (by decide) h.x, ⟨h.v.en, h.v.ez, by show (a.cs.set c L').length = _; rw [List.length_set]; exact h.v.ec, h.v.nd.past fun _ _ => kp (by decide), h.v.q.past (kp (by decide) h.v.q.x) (fun _ _ => kp (by decide)), h.v.zl, h.v.zm, ⟨hB, by show (a.cs.set c L').length ≤ _; rw [List.length_set, List.length_set]; exact h.v.c.n, fun d L hL => ?_⟩, h.v.cl, h.v.cm⟩⟩
  have hcl : c < ccs.length := by have := h.v.c.n; rw [h.v.ec] at this; omega
  by_cases e : d = c
  · subst e
    rw [List.getElem?_set_self (by rw [h.v.ec]; exact hc)] at hL
    cases hL
    exact ⟨v, List.getElem?_set_self hcl, kl hv⟩
  · rw [List.getElem?_set_ne (Ne.symm e)] at hL
    obtain ⟨u, q1, q2⟩ := h.v.c.row d L hL
    exact ⟨u, by rw [List.getElem?_set_ne (Ne.symm e)]; exact q1, kl q2⟩
theorem AQ.ra (h : AQ w0 g s zc ccs a W) : Ra W (.agg (s.cells a.bt a.hi).toArray) a := ⟨s, zc, ccs, rfl, h.v⟩
end
theorem QV.copy {w w' : World} {b b' n : Nat} {zc zc' : List Value} {zs : List Z} (h : QV w b zc zs) (hb : Below w.heap.size w w') (hB : Blk w' b' 102 zc') (hn : zs.length = n) (hl : n * 10 ≤ zc'.length) (hc : ∀ j, j < n * 10 → zc'[j]? = zc[j]?) : QV w' b' zc' zs := by
  refine ⟨hB, by omega, fun i z hz => ?_⟩
  have hi := lt_of hz
  have e : seg zc' (i * 10) 10 = seg zc (i * 10) 10 := by
    apply List.ext_getElem?
    intro j
    rcases Nat.lt_or_ge j 10 with hj | hj
    · rw [seg_get hj, seg_get hj, hc _ (by omega)]
    · rw [List.getElem?_eq_none (by simp [seg]; omega), List.getElem?_eq_none (by simp [seg]; omega)]
  rw [e]
  exact (h.row i z hz).below hb
theorem CV.copy {w w' : World} {b b' n : Nat} {cc cc' : List Value} {cs : List (List (List Int))} (h : CV w b cc cs) (hb : Below w.heap.size w w') (hB : Blk w' b' 93 cc') (hn : cs.length = n) (hl : n ≤ cc'.length) (hc : ∀ j, j < n → cc'[j]? = cc[j]?) : CV w' b' cc' cs := by
  refine ⟨hB, by omega, fun c L hL => ?_⟩
  obtain ⟨v, h1, h2⟩ := h.row c L hL
  exact ⟨v, by rw [hc c (by have := lt_of hL; omega)]; exact h1, h2.below hb⟩
theorem QV.one {w : World} {b n : Nat} {zc : List Value} {zs : List Z} (h : QV w b zc zs) (hn : zs.length = n) : ∀ u ∈ zc.take (n * 10), u.oneCell' = true := by
  intro u hu
  obtain ⟨j, hj⟩ := List.getElem?_of_mem hu
  rw [List.getElem?_take] at hj
  split at hj
  · rename_i hjn
    obtain ⟨z, hz⟩ := get_some hn (show j / 10 < n by omega)
    have h1 := (h.row _ z hz).one
    have : (seg zc (j / 10 * 10) 10)[j % 10]? = some u := by rw [seg_get (by omega), show j / 10 * 10 + j % 10 = j by omega]; exact hj
    exact h1 u (List.mem_of_getElem? this)
  · cases hj
theorem CV.one {w : World} {b n : Nat} {cc : List Value} {cs : List (List (List Int))} (h : CV w b cc cs) (hn : cs.length = n) : ∀ u ∈ cc.take (n * 1), u.oneCell' = true := by
  intro u hu
  obtain ⟨j, hj⟩ := List.getElem?_of_mem hu
  rw [List.getElem?_take] at hj
  split at hj
  · rename_i hjn
    obtain ⟨L, hL⟩ := get_some hn (show j < n by omega)
    obtain ⟨v, h1, h2⟩ := h.row j L hL
    rw [hj] at h1
    cases h1
    obtain ⟨_, _, h3, _⟩ := h2.form
    rw [h3]; rfl
  · cases hj
end Go.Proofs.YtdddkfpcbfgocaaGreat
namespace Go.Proofs.YtdddkfpcbfgocaaGreat
open Go.RowKit Go.Over Go.Zn Go.Can Go.Seg Go.Grow
/-- What the region reads. -/
def CS (g : Nat) (s : Sh) (U : World) : Prop := U.cell? ⟨g, 0, none⟩ = some (.slice s.an s.nn s.cn) ∧ U.cell? ⟨g, 3, none⟩ = some (.slice (some ⟨s.bz, 0, none⟩) s.nz s.cz) ∧ U.cell? ⟨g, 4, none⟩ = some (.slice (some ⟨s.bc, 0, none⟩) s.nc s.cc)
def nilA : List Value := [.slice none 0 0, .int .i64 0, .int .i64 0, .slice none 0 0, .slice none 0 0]
/-- Lists whose rows are a call's own. -/
structure LO (W : World) (B b : Nat) (bs : List Value) (L : List (List Int)) : Prop where
  x : Blk W b 24 bs
  n : L.length ≤ bs.length
  row : ∀ (y : Nat) (l : List Int), L[y]? = some l → ∃ v, bs[y]? = some v ∧ Own W B v l
  lo : B ≤ b
def CO (W : World) (B : Nat) (ccs : List Value) (cs : List (List (List Int))) (m : Nat) : Prop :=
  ∀ (c : Nat) (L : List (List Int)), c < m → cs[c]? = some L → ∃ b k bs, ccs[c]? = some (.slice (some ⟨b, 0, none⟩) L.length k) ∧ L.length ≤ k ∧ k ≤ maxLen ∧ LO W B b bs L
theorem LO.later {W W' : World} {B b : Nat} {bs : List Value} {L : List (List Int)} (h : LO W B b bs L) (hb : Below W.heap.size W W') : LO W' B b bs L :=
  ⟨h.x.later hb, h.n, fun y l hl => by obtain ⟨v, h1, h2⟩ := h.row y l hl; exact ⟨v, h1, h2.later hb⟩, h.lo⟩
theorem LO.grown {W W' : World} {B b g t : Nat} {bs cs : List Value} {L : List (List Int)} (h : LO W B b bs L) (hB : Blk W g t cs) (ht : t ≠ 24) (h3 : t ≠ 3) (hg : W.grownBy W' (some g)) : LO W' B b bs L :=
  ⟨h.x.grown hg (by simpa using hB.ne_type h.x ht), h.n, fun y l hl => by obtain ⟨v, h1, h2⟩ := h.row y l hl; exact ⟨v, h1, h2.kept hg (.inr (hB.not_own h2 (Ne.symm h3)))⟩, h.lo⟩
theorem CO.later {W W' : World} {B m : Nat} {ccs : List Value} {cs : List (List (List Int))} (h : CO W B ccs cs m) (hb : Below W.heap.size W W') : CO W' B ccs cs m := fun c L hc hL => by
  obtain ⟨b, k, bs, h1, h2, h3, h4⟩ := h c L hc hL
  exact ⟨b, k, bs, h1, h2, h3, h4.later hb⟩
theorem CO.lol {W : World} {B m c : Nat} {ccs : List Value} {cs : List (List (List Int))} {v : Value} (h : CO W B ccs cs m) (hn : cs.length = m) (hc : c < m) (hv : ccs[c]? = some v) : LoL W B v := by
  obtain ⟨L, hL⟩ := get_some hn hc
  obtain ⟨b, k, bs, h1, h2, h3, h4⟩ := h c L hc hL
  rw [hv] at h1
  cases h1
  refine ⟨b, L.length, k, bs, rfl, h4.x, fun y u hy hu => ?_⟩
  obtain ⟨l, hl⟩ := get_some rfl hy
  obtain ⟨u', q1, q2⟩ := h4.row y l hl
  rw [hu] at q1
  cases q1
  exact q2.lov
/-- What is known of the rows of a copy: those of the zones lie in an earlier world. -/
structure OA (W1 W : World) (s : Sh) (zc ccs : List Value) (a : A) (m : Nat) : Prop where
  k : ∀ b bs, Blk W1 b 3 bs → Blk W b 3 bs
  q : ∀ (i : Nat) (z : Z), a.zs[i]? = some z → ZV W1 (seg zc (i * 10) 10) z
  n : Sl W1 (.slice s.an s.nn s.cn) a.nodes
  c : CO W W1.heap.size ccs a.cs m
/-- What a copy gives. -/
def CloneAns (w : World) (a : A) (e : Ending) (w' : World) : Prop :=
  ∃ s zc ccs W1, e = .returned (.agg (s.cells a.bt a.hi).toArray) ∧ AW w' s zc ccs a ∧ w.heap.size ≤ s.bz ∧ w.heap.size ≤ s.bc ∧ Below w.heap.size w w' ∧ OA W1 w' s zc ccs a s.nc ∧ w.heap.size ≤ W1.heap.size ∧ AF w.heap.size w' s zc ccs
theorem CO.grown {W W' : World} {B m g t : Nat} {ccs cs : List Value} {css : List (List (List Int))} (h : CO W B ccs css m) (hB : Blk W g t cs) (ht : t ≠ 24) (h3 : t ≠ 3) (hg : W.grownBy W' (some g)) : CO W' B ccs css m := fun c L hc hL => by
  obtain ⟨b, k, bs, h1, h2, h4, h5⟩ := h c L hc hL
  exact ⟨b, k, bs, h1, h2, h4, h5.grown hB ht h3 hg⟩
/-- The lists of a cache under way: those below m are copied. -/
structure LX (w : World) (r : Nat) (bs : List Value) (L : List (List Int)) (B m : Nat) (W : World) : Prop where
  b : Below w.heap.size w W
  l : w.heap.size ≤ r
  x : Blk W r 24 bs
  n : L.length ≤ bs.length
  own : ∀ (y : Nat) (l : List Int), y < m → L[y]? = some l → ∃ v, bs[y]? = some v ∧ Own W B v l
  rest : ∀ (y : Nat) (l : List Int), m ≤ y → L[y]? = some l → ∃ v, bs[y]? = some v ∧ Sl W v l
theorem LX.below {w W W' : World} {b B m : Nat} {bs : List Value} {L : List (List Int)} (h : LX w b bs L B m W) (hb : Below W.heap.size W W') : LX w b bs L B m W' :=
  ⟨below_then h.b hb, h.l, h.x.later hb, h.n, fun y l hy hl => by obtain ⟨v, h1, h2⟩ := h.own y l hy hl; exact ⟨v, h1, h2.later hb⟩, fun y l hy hl => by obtain ⟨v, h1, h2⟩ := h.rest y l hy hl; exact ⟨v, h1, h2.below hb⟩⟩
theorem LX.next {w W : World} {b B m : Nat} {bs : List Value} {L : List (List Int)} {v : Value} {l : List Int} (h : LX w b bs L B m W) (hl : L[m]? = some l) (hv : Own W B v l) : LX w b (bs.set m v) L B (m + 1) (W.setCell ⟨b, m, none⟩ v) := by
  have hm : m < bs.length := Nat.lt_of_lt_of_le (lt_of hl) h.n
  refine ⟨h.b.setCell (p := ⟨b, m, none⟩) h.l v, h.l, h.x.set _ _, by rw [List.length_set]; exact h.n, fun y l' hy hl' => ?_, fun y l' hy hl' => ?_⟩
  · by_cases e : y = m
    · subst e
      rw [hl] at hl'
      cases hl'
      exact ⟨v, List.getElem?_set_self hm, hv.far h.x (by decide) _ _⟩
    · obtain ⟨u, q1, q2⟩ := h.own y l' (by omega) hl'
      exact ⟨u, by rw [List.getElem?_set_ne (Ne.symm e)]; exact q1, q2.far h.x (by decide) _ _⟩
  · obtain ⟨u, q1, q2⟩ := h.rest y l' (by omega) hl'
    exact ⟨u, by rw [List.getElem?_set_ne (by omega)]; exact q1, q2.far h.x (by decide) _ _⟩
section
variable {ops : Array Oper} {rest : List Oper} {i j : Nat} {ty : TypeId} {pos : String} {af : Array Edge} {a : Act} {w : World} {Q : Exit → Act → World → Prop} {g bt hi : Nat} {s : Sh}
/-- An allocator is stored whole. -/
theorem stA {zs : List Value} (hx : a.eval (.tmp i) = .pointer (some ⟨g, 0, none⟩)) (hy : a.eval (.tmp j) = .agg (s.cells bt hi).toArray) (hB : Blk w g 28 zs) (hz : zs.length = 5)
    (h : ∀ W, Blk W g 28 (s.cells bt hi) → w.grownBy W (some g) → wpList Tryz.prog ops Q rest (a.put none undef) W) :
    wpList Tryz.prog ops Q ({ dst := none, op := .store 28 (.tmp i) (.tmp j), type := ty, pos := pos, after := af, guard := none } :: rest) a w := by
  have e : lay zs 0 (s.cells bt hi) = s.cells bt hi := by
    have hl : (s.cells bt hi).length = 5 := rfl
    unfold lay
    rw [hl, List.take_zero, List.nil_append, List.drop_eq_nil_of_le (by omega), List.append_nil]
  refine wpList_store_part (cs := s.cells bt hi) infoA hx hy hB (by rw [hz]; exact Nat.le_refl _) (by intro u hu; simp [Sh.cells] at hu; rcases hu with rfl | rfl | rfl | rfl | rfl <;> rfl) fun W q1 q2 => h W (by rw [← e]; exact q1) q2
theorem resA {fn : Func} {p : Tmp} (h : fn.results = #[.cell p 28]) (tmps : Array Value) (w : World) (g : Nat) (cs : List Value) (hp : tmps.getD p undef = .pointer (some ⟨g, 0, none⟩)) (hg : Blk w g 28 cs) (hl : cs.length = 5) :
    (results fn tmps).run Tryz.prog w = .ok (.agg cs.toArray) w :=
  results_cell_row h tmps w g 28 cs.toArray (0, 0) _ hp hg Tryz.underlying28 rfl (by rw [infoA]; simp [hl])
theorem resA1 {fn : Func} {p q : Tmp} (h : fn.results = #[.cell p 28, .tmp q]) (tmps : Array Value) (w : World) (g : Nat) (cs : List Value) (v : Value) (hp : tmps.getD p undef = .pointer (some ⟨g, 0, none⟩)) (hg : Blk w g 28 cs) (hl : cs.length = 5) (hv : tmps.getD q undef = v) :
    (results fn tmps).run Tryz.prog w = .ok (.tuple #[.agg cs.toArray, v]) w := by
  have hp' : tmps[p]?.getD undef = .pointer (some ⟨g, 0, none⟩) := by simpa using hp
  have hv' : tmps[q]?.getD undef = v := by simpa using hv
  have hl := run_loadVar_row (P := Tryz.prog) w g 28 28 cs.toArray (0, 0) _ hg Tryz.underlying28 rfl (by rw [infoA]; simp [hl])
  simp [results, h, hp', hv', asAddr, hl]
theorem resA2 {fn : Func} {p q r : Tmp} (h : fn.results = #[.cell p 28, .tmp q, .tmp r]) (tmps : Array Value) (w : World) (g : Nat) (cs : List Value) (v z : Value) (hp : tmps.getD p undef = .pointer (some ⟨g, 0, none⟩)) (hg : Blk w g 28 cs) (hl : cs.length = 5) (hv : tmps.getD q undef = v) (hz : tmps.getD r undef = z) :
    (results fn tmps).run Tryz.prog w = .ok (.tuple #[.agg cs.toArray, v, z]) w := by
  have hp' : tmps[p]?.getD undef = .pointer (some ⟨g, 0, none⟩) := by simpa using hp
  have hv' : tmps[q]?.getD undef = v := by simpa using hv
  have hz' : tmps[r]?.getD undef = z := by simpa using hz
  have hl := run_loadVar_row (P := Tryz.prog) w g 28 28 cs.toArray (0, 0) _ hg Tryz.underlying28 rfl (by rw [infoA]; simp [hl])
  simp [results, h, hp', hv', hz', asAddr, hl]
end
theorem set_same {α : Type} {l : List α} {i : Nat} {x : α} (h : l[i]? = some x) : l.set i x = l := by
  apply List.ext_getElem?
  intro j
  by_cases e : j = i
  · subst e
    rw [List.getElem?_set_self (lt_of h), h]
  · rw [List.getElem?_set_ne (Ne.symm e)]
set_option maxRecDepth 100000 in set_option maxHeartbeats 3200000 in
theorem aclone (v : Value) (a : A) (w : World) (H : Ra w v a) (hV : VA a) : Calls Tryz.prog 40 #[v] w (CloneAns w a) := by
  obtain ⟨s, zc, ccs, rfl, hW⟩ := H
  have X0 := (AX.new hW).below (below_box _ (.cells #[.slice none 0 0, .int .i64 0, .int .i64 0, .slice none 0 0, .slice none 0 0] 28))
  have hs : (w.alloc (.cells (s.cells a.bt a.hi).toArray 28)).heap.size = w.heap.size + 1 := by simp
  have Z0 := Blk.new (w.alloc (.cells (s.cells a.bt a.hi).toArray 28)) 28 #[.slice none 0 0, .int .i64 0, .int .i64 0, .slice none 0 0, .slice none 0 0] nilA rfl
  rw [hs] at Z0
  have HV := Lib.hid hV
  have HN := Lib.hid hW.ez; have HC := Lib.hid hW.ec
  have hnn := hV.n4
  rw [hW.en] at hnn
  have hnz6 : s.nz ≤ 6 := by rw [← hW.ez]; exact hV.z6
  have hnz1 : 1 ≤ s.nz := by rw [← hW.ez]; exact hV.z1
  have hnc4 : s.nc ≤ 4 := by rw [← hW.ec, hV.nc]; exact hV.n4
  have hnc1 : 1 ≤ s.nc := by rw [← hW.ec, hV.nc]; exact hV.n0
  clear hV hW hs
  go_enter Tryz.func40, Tryz.ntmps40
  go_upto_region 1 with fail
  obtain ⟨w1, hw1⟩ : ∃ W, W = (w.alloc (.cells (s.cells a.bt a.hi).toArray 28)).alloc (.cells #[.slice none 0 0, .int .i64 0, .int .i64 0, .slice none 0 0, .slice none 0 0] 28) := ⟨_, rfl⟩
  rw [← hw1] at X0 Z0 ⊢
  have hgg : w.heap.size + 1 ≠ w.heap.size := by omega
  have hlr : w.heap.size ≤ w.heap.size + 1 := by omega
  obtain ⟨gr, hgr⟩ : ∃ g, w.heap.size + 1 = g := ⟨_, rfl⟩
  rw [hgr] at Z0 hgg hlr
  obtain ⟨g, hg0⟩ : ∃ g, w.heap.size = g := ⟨_, rfl⟩
  have hgg : gr ≠ g := by rw [← hg0]; exact hgg
  have X1 : AX w g s zc ccs a w1 := by rw [← hg0]; exact X0
  rw [hgr, hg0]
  clear hw1 X0 hg0 hgr
  refine wp_region_stages (CS g s)
    (.quiet [0, 1, 3, 4, 6, 7] (.only 2 (.quiet [9] (.only 5 (.only 8 (.brk 10 (.quiet [11] (.only 12 (.quiet [13] (.only 14 .done)))))))))) [10, 12, 14] (by kernel_rfl) (by kernel_rfl) ⟨X1.c0, X1.c3, X1.c4⟩ ?_
  intro W hWW hWe
  have bW : Below w1.heap.size w1 W := by rw [hWe]; exact (Below.refl _ _).drew
  clear hWe
  have X2 := X1.below bW
  have Z2 := Z0.later bW
  have hbase : w.heap.size ≤ W.heap.size := X2.b.size
  clear X1 Z0 bW
  simp only [wpPlan2, inOrder, List.filterMap_cons, List.filterMap_nil, List.getElem?_cons_zero, List.getElem?_cons_succ]
  have q0 := fun z => (hold_ok (S0 := CS g s) hWW z).1
  have q3 := fun z => (hold_ok (S0 := CS g s) hWW z).2.1
  have q4 := fun z => (hold_ok (S0 := CS g s) hWW z).2.2
  show wpQuiet _ _ _ _ (_ :: _ :: _ :: _ :: _ :: [_]) _
  repeat (go_big_quiet_step (fail))
  refine wpQuiet_nil ?_
  clear q0 q3 q4 hWW
  show wpList _ _ _ [_] _ _
  go_wp2_with fail
  refine (clone _ _ W X2.v.nd (by have := HV.out.n4; omega)).mono ?_
  rintro e w3 ⟨vn, rfl, On, b3⟩
  have X3 := X2.below b3
  have Z3 := Z2.later b3
  clear X2 Z2 b3
  go_wp2
  refine ⟨hold_of ⟨X3.c0, X3.c3, X3.c4⟩, ?_⟩
  show wpQuiet _ _ _ _ ([_]) _
  repeat (go_big_quiet_step (fail))
  refine wpQuiet_nil ?_
  have c3 := X3.c3
  show wpList _ _ _ [_] _ _
  go_wp2_with fail
  refine (copyZ s.bz s.nz s.cz zc w3 X3.v.q.x (by have := X3.v.q.n; rw [HN.out] at this; omega) (X3.v.q.one HN.out) hnz1 (by omega)).mono ?_
  rintro e w4 ⟨bz', cz', zc', rfl, lz, BZ, z1, z2, z3, z4, b4⟩
  have X4 := X3.below b4
  have Z4 := Z3.later b4
  have On4 := On.later b4
  have Q4 := X3.v.q.copy b4 BZ HN.out z3 z4
  have hlz : w.heap.size ≤ bz' := Nat.le_trans X3.b.size lz
  clear X3 Z3 On b4 c3 BZ lz z3 z4
  go_wp2
  refine ⟨hold_of ⟨X4.c0, X4.c3, X4.c4⟩, ?_⟩
  have c4 := X4.c4
  show wpList _ _ _ [_] _ _
  go_wp2_with fail
  refine (copyC s.bc s.nc s.cc ccs w4 X4.v.c.x (by have := X4.v.c.n; rw [HC.out] at this; omega) (X4.v.c.one HC.out) hnc1 (by omega)).mono ?_
  rintro e w5 ⟨bc', cc', ccs', rfl, lc, BC, k1, k2, k3, k4, b5⟩
  have X5 := X4.below b5
  have Z5 := Z4.later b5
  have On5 := On4.later b5
  have Q5 := Q4.below b5
  have C5 := X4.v.c.copy b5 BC HC.out (by omega) (fun j hj => k4 j (by omega))
  have hlc : w.heap.size ≤ bc' := Nat.le_trans X4.b.size lc
  clear X4 Z4 On4 Q4 b5 c4 BC lc k3 k4
  go_wp2
  refine ⟨hold_of ⟨X5.c0, X5.c3, X5.c4⟩, ?_⟩
  obtain ⟨an', cn', hvn, _⟩ := own_form On5
  rw [X5.v.en] at hvn
  subst hvn
  have N5 := On5.sl
  have HL5 := Lib.hid (On5.lov.weaken hbase)
  have c0 := X5.c0
  have c3 := X5.c3
  have c4 := X5.c4
  have f0 := X5.x.frozen 0
  have f3 := X5.x.frozen 3
  have f4 := X5.x.frozen 4
  show wpList _ _ _ [_] _ _
  go_wp2
  refine ⟨trivial, ?_⟩
  show wpQuiet _ _ _ _ ([_]) _
  repeat (go_big_quiet_step (fail))
  refine wpQuiet_nil ?_
  show wpList _ _ _ [_] _ _
  go_wp2
  refine ⟨trivial, ?_⟩
  show wpQuiet _ _ _ _ ([_]) _
  repeat (go_big_quiet_step (fail))
  refine wpQuiet_nil ?_
  show wpList _ _ _ [_] _ _
  go_wp2
  refine ⟨trivial, ?_⟩
  refine NoPanic.normal ?_
  have B6 : Blk (((w5.setCell ⟨g, 0, none⟩ (.slice an' s.nn cn')).setCell ⟨g, 3, none⟩ (.slice (some ⟨bz', 0, none⟩) s.nz cz')).setCell ⟨g, 4, none⟩ (.slice (some ⟨bc', 0, none⟩) s.nc cc')) g 28 ((Sh.mk an' s.nn cn' bz' s.nz cz' bc' s.nc cc').cells a.bt a.hi) :=
    ((X5.x.set 0 (.slice an' s.nn cn')).set 3 (.slice (some ⟨bz', 0, none⟩) s.nz cz')).set 4 (.slice (some ⟨bc', 0, none⟩) s.nc cc')
  have g6 : w5.grownBy (((w5.setCell ⟨g, 0, none⟩ (.slice an' s.nn cn')).setCell ⟨g, 3, none⟩ (.slice (some ⟨bz', 0, none⟩) s.nz cz')).setCell ⟨g, 4, none⟩ (.slice (some ⟨bc', 0, none⟩) s.nc cc')) (some g) := grown_cell (grown_cell (grown_cell (grown_below (Below.refl _ _))))
  obtain ⟨w6, hw6⟩ : ∃ W, W = (((w5.setCell ⟨g, 0, none⟩ (.slice an' s.nn cn')).setCell ⟨g, 3, none⟩ (.slice (some ⟨bz', 0, none⟩) s.nz cz')).setCell ⟨g, 4, none⟩ (.slice (some ⟨bc', 0, none⟩) s.nc cc')) := ⟨_, rfl⟩
  rw [← hw6] at B6 g6 ⊢
  have Z6 := Z5.grown g6 (by simpa using Ne.symm hgg)
  have kp : ∀ {q t : Nat} {bs : List Value}, t ≠ 28 → Blk w5 q t bs → Blk w6 q t bs := fun ht hq => hq.grown g6 (by simpa using X5.x.ne_type hq (Ne.symm ht))
  obtain ⟨t, ht⟩ : ∃ t, t = Sh.mk an' s.nn cn' bz' s.nz cz' bc' s.nc cc' := ⟨_, rfl⟩
  have P6 : AQ w g t zc' ccs' a w6 := by
    rw [ht]
    exact ⟨X5.b.grown g6 X5.b.size (fun q hq => by cases hq; exact X5.l), X5.l, hlz, hlc, B6, ⟨X5.v.en, HN.out, HC.out, N5.past fun _ _ => kp (by decide), Q5.past (kp (by decide) Q5.x) (fun _ _ => kp (by decide)), z1, z2, C5.past (kp (by decide) C5.x) (fun _ _ => kp (by decide)) (fun _ _ => kp (by decide)), k1, k2⟩⟩
  have tz6 : t.nz ≤ 6 := by rw [ht]; exact hnz6
  have tc4 : t.nc ≤ 4 := by rw [ht]; exact hnc4
  have HLN := Lib.hid (show LoV w.heap.size (.slice t.an t.nn t.cn) by rw [ht]; exact HL5.out)
  have HTN := Lib.hid (show a.zs.length = t.nz by rw [ht]; exact HN.out)
  have HTC := Lib.hid (show a.cs.length = t.nc by rw [ht]; exact HC.out)
  clear hw6 B6 g6 Z5 kp ht X5 N5 Q5 C5 On5 c0 c3 c4 f0 f3 f4 hlz hlc z1 z2 k1 k2 hnn hnz6 hnz1 hnc4 hnc1 HN HC hbase HL5
  have c3 := P6.c3
  go_wp2
  go_loopg [23] t.nz (fun gg v23 wr => ∃ (i : Nat) (zc : List Value), i + gg = t.nz ∧ v23 = .int .i64 i ∧ AQ w g t zc ccs' a wr ∧ Blk wr gr 28 nilA ∧ LR w.heap.size zc i 0)
  case atStart => exact ⟨0, _, by omega, rfl, P6, Z6, ⟨fun i' k' u h1 => by omega⟩⟩
  case round =>
    clear P6 Z6 c3
    obtain ⟨i, zc, hi, rfl, P7, Z7, R7⟩ := hrel
    cases gk with
    | succ gg =>
      have hin : i < t.nz := by omega
      have HI := Lib.hid hi
      obtain ⟨z, hz⟩ := get_some HTN.out hin
      have HZ := Lib.hid hz
      have hvz : VZ z := by have := HV.out.vz i (lt_of hz); rw [zn_of hz] at this; exact this
      have HVZ := Lib.hid hvz
      clear hi hz hvz
      go_wp2
      go_loopg [26] 5 (fun g2 v26 wj => ∃ (k : Nat) (zc : List Value), k + g2 = 5 ∧ v26 = .int .i64 k ∧ AQ w g t zc ccs' a wj ∧ Blk wj gr 28 nilA ∧ LR w.heap.size zc i k)
      case atStart => exact ⟨0, _, by omega, rfl, P7, Z7, R7⟩
      case round =>
        clear P7 Z7 R7
        obtain ⟨k, zc, hk, rfl, P8, Z8, R8⟩ := hrel
        cases gk with
        | zero =>
          have hk5 : ¬ k < 5 := by omega
          obtain rfl : k = 5 := by omega
          clear hk
          go_wp2
          go_roundg gg
          case rel => exact ⟨i + 1, zc, by have := HI.out; omega, by go_num, P8, Z8, R8.next⟩
          case measure => omega
        | succ g2 =>
          have hk5 : k < 5 := by omega
          have HK := Lib.hid hk
          have tk : decide ((k : Int) < 5) = true := by simp; omega
          obtain ⟨v, hv, hsl⟩ := (P8.v.q.row i z HZ.out).fr k hk5
          have hvl := HVZ.out.len hk5
          have d8 : wr.cell? ⟨t.bz, i * 10 + (5 + k), none⟩ = some v := P8.v.q.cell HZ.out hv
          have e8 : i * 10 + 5 + k = i * 10 + (5 + k) := by omega
          have HS := Lib.hid hsl
          clear hk hv hsl
          have c3 := P8.c3
          go_wp2_with fail
          refine wp_region_plan (fun U => U.cell? ⟨g, 3, none⟩ = some (.slice (some ⟨t.bz, 0, none⟩) t.nz t.cz)) (.quiet [0, 1, 2, 3, 4, 5, 6, 7, 8, 9, 10, 13, 14] (.only 11 (.only 12 (.quiet [15] (.only 16 .done))))) 99 (by kernel_rfl) (by kernel_rfl) c3 ?_
          intro W hWW hWe
          have bW : Below wr.heap.size wr W := by rw [hWe]; exact (Below.refl _ _).drew
          clear hWe
          have P9 := P8.below bW
          have Z9 := Z8.later bW
          have S9 := HS.out.below bW
          have d9 := cell_later bW d8
          clear P8 Z8 bW c3 d8
          simp only [wpPlan, inOrder, List.filterMap_cons, List.filterMap_nil, List.getElem?_cons_zero, List.getElem?_cons_succ]
          have q3 := fun z => hold_ok (S0 := fun U => U.cell? ⟨g, 3, none⟩ = some (.slice (some ⟨t.bz, 0, none⟩) t.nz t.cz)) hWW z
          show wpQuiet _ _ _ _ (_ :: _ :: _ :: _ :: _ :: _ :: _ :: _ :: _ :: _ :: _ :: _ :: [_]) _
          repeat (go_big_quiet_step (fail))
          refine wpQuiet_nil ?_
          clear q3 hWW
          show wpList _ _ _ [_] _ _
          go_wp2
          refine ⟨hold_of P9.c3, ?_⟩
          show wpList _ _ _ [_] _ _
          go_wp2_with fail
          refine (clone v (z.fr k) W S9 (by omega)).mono ?_
          rintro e w10 ⟨v', rfl, O10, b10⟩
          have P10 := P9.below b10
          have Z10 := Z9.later b10
          have c3 := P10.c3
          obtain ⟨v2, hv2, hsl2⟩ := (P10.v.q.row i z HZ.out).fr k hk5
          have d10 := P10.v.q.cell HZ.out hv2
          have f10 := P10.v.q.x.frozen (i * 10 + (5 + k))
          have P11 := P10.zrow HZ.out hk5 O10.sl
          have R11 := R8.set hk5 (O10.lov.weaken P9.b.size)
          have Z11 := Z10.far (p := ⟨t.bz, i * 10 + (5 + k), none⟩) (Z10.ne_type P10.v.q.x (by decide)) v'
          have c11 := P11.c3
          obtain ⟨a', c', hv', _⟩ := own_form O10
          subst hv'
          clear P9 Z9 S9 d9 P10 Z10 b10 hsl2 hv2 O10 R8
          go_wp2
          refine ⟨hold_of c3, ?_⟩
          show wpQuiet _ _ _ _ ([_]) _
          repeat (go_big_quiet_step (fail))
          refine wpQuiet_nil ?_
          show wpList _ _ _ [_] _ _
          go_wp2
          refine ⟨hold_of c11, NoPanic.normal ?_⟩
          obtain ⟨w11, hw11⟩ : ∃ W, W = w10.setCell ⟨t.bz, i * 10 + (5 + k), none⟩ (.slice a' (z.fr k).length c') := ⟨_, rfl⟩
          rw [← hw11] at P11 Z11 ⊢
          clear hw11 c3 d10 f10 c11
          go_wp2
          go_roundg g2
          case rel => exact ⟨k + 1, _, by have := HK.out; omega, by go_num, P11, Z11, R11⟩
          case measure => omega
    | zero =>
      have hin : ¬ i < t.nz := by omega
      have HLR := Lib.hid (show ∀ j, j < t.nz → Lo w.heap.size (seg zc (j * 10) 10) from fun j hj => R7.lo (by omega))
      clear R7
      have c4 := P7.c4
      have O7 : OA wr wr t zc ccs' a 0 := ⟨fun _ _ h => h, P7.v.q.row, P7.v.nd, fun c L hc => absurd hc (by omega)⟩
      have hsz : wr.heap.size ≤ wr.heap.size := Nat.le_refl _
      have hw1 := P7.b.size
      obtain ⟨W1, hW1⟩ : ∃ W1, W1 = wr := ⟨_, rfl⟩
      rw [show OA wr wr t zc ccs' a 0 = OA W1 wr t zc ccs' a 0 by rw [hW1]] at O7
      rw [show (wr.heap.size ≤ wr.heap.size) = (W1.heap.size ≤ wr.heap.size) by rw [hW1]] at hsz
      rw [← hW1] at hw1
      clear hi hW1
      go_wp2
      go_loopg [50] t.nc (fun gg v50 wr => ∃ (c : Nat) (ccs : List Value), c + gg = t.nc ∧ v50 = .int .i64 c ∧ AQ w g t zc ccs a wr ∧ Blk wr gr 28 nilA ∧ OA W1 wr t zc ccs a c ∧ W1.heap.size ≤ wr.heap.size)
      case atStart => exact ⟨0, _, by omega, rfl, P7, Z7, O7, hsz⟩
      case round =>
        clear P7 Z7 O7 c4 hsz hin
        obtain ⟨c, ccs, hc, rfl, P8, Z8, O8, hsz⟩ := hrel
        cases gk with
        | zero =>
          obtain rfl : c = t.nc := by omega
          have hcl : ¬ t.nc < t.nc := by omega
          clear hc
          go_wp2_with first | ((with_reducible refine lda ?_ P8.x ?_); (focus rfl)) | ((with_reducible refine stA (s := t) (bt := a.bt) (hi := a.hi) ?_ ?_ Z8 ?_ ?_); (focus rfl); (focus rfl); (focus rfl); intro w9 hB9 hg9)
          refine bodyPost_ret (resA rfl _ _ gr _ rfl hB9 rfl) rfl ?_
          have kp : ∀ {q t : Nat} {bs : List Value}, t ≠ 28 → Blk wr q t bs → Blk w9 q t bs := fun ht hq => hq.grown hg9 (by simpa using Z8.ne_type hq (Ne.symm ht))
          exact ⟨t, zc, ccs, W1, rfl, P8.v.past (kp (by decide) P8.v.q.x) (kp (by decide) P8.v.c.x) (fun _ _ => kp (by decide)) (fun _ _ => kp (by decide)), P8.lz, P8.lc, P8.b.grown hg9 P8.b.size (fun q hq => by cases hq; exact hlr), ⟨fun b bs hb => kp (by decide) (O8.k b bs hb), O8.q, O8.n, O8.c.grown Z8 (by decide) (by decide) hg9⟩, hw1, ⟨HLN.out, HLR.out, fun d v hd hv => ((O8.c.grown Z8 (by decide) (by decide) hg9).lol HTC.out hd hv).weaken hw1⟩⟩
        | succ gg =>
          have hcl : c < t.nc := by omega
          have HI := Lib.hid hc
          obtain ⟨L, hL⟩ := get_some HTC.out hcl
          have HL := Lib.hid hL
          obtain ⟨v, hv, hLc⟩ := P8.v.c.row c L hL
          obtain ⟨b, cap, bs, hvf, q1, q2, q3⟩ := hLc
          have hLn : L.length = t.nz := by rw [HV.out.cl hL]; exact HTN.out
          have hnz1 : 1 ≤ t.nz := by rw [← HTN.out]; exact HV.out.z1
          have dv : wr.cell? ⟨t.bc, c, none⟩ = some v := by rw [P8.v.c.x.cell]; exact hv
          rw [hLn] at hvf q1
          subst hvf
          have HLN := Lib.hid hLn
          have hcp := copyL b t.nz cap bs wr q3.x (by have := q3.n; rw [hLn] at this; omega) (fun u hu => by
            obtain ⟨j, hj⟩ := List.getElem?_of_mem hu
            rw [List.getElem?_take] at hj
            split at hj
            · rename_i hjn
              obtain ⟨l, hl⟩ := get_some hLn (show j < t.nz by omega)
              obtain ⟨v2, p1, a2, c2, p2, _⟩ := q3.row j l hl
              rw [hj] at p1
              cases p1
              rw [p2]; rfl
            · cases hj) hnz1 (by omega)
          have HCP := Lib.hid hcp; have HQ3 := Lib.hid q3
          have c4 := P8.c4
          clear hc hL hv hcp q3 hLn
          go_wp2_with fail
          refine HCP.out.mono ?_
          rintro e w9 ⟨g6, cap6, cur, rfl, lg6, B6, r1, r2, r3, r4, b9⟩
          have L9 : LX wr g6 cur L W1.heap.size 0 w9 := ⟨b9, lg6, B6, by rw [HLN.out]; omega, fun y l hy => absurd hy (by omega), fun y l _ hl => by
            obtain ⟨v2, p1, p2⟩ := HQ3.out.row y l hl
            exact ⟨v2, by rw [r4 y (by have := lt_of hl; rw [HLN.out] at this; omega)]; exact p1, p2.below b9⟩⟩
          clear HCP B6 r3 r4 b9 dv c4
          go_wp2
          go_loopg [62] t.nz (fun g2 v62 wj => ∃ (z : Nat) (bs : List Value), z + g2 = t.nz ∧ v62 = .int .i64 z ∧ LX wr g6 bs L W1.heap.size z wj)
          case atStart => exact ⟨0, _, by omega, rfl, L9⟩
          case round =>
            clear L9
            obtain ⟨z, bs, hz, rfl, LA⟩ := hrel
            cases gk with
            | succ g2 =>
              have hzl : z < t.nz := by omega
              have HZ := Lib.hid hz
              obtain ⟨l, hl⟩ := get_some HLN.out hzl
              obtain ⟨v, hv, hsl⟩ := LA.rest z l (Nat.le_refl _) hl
              have dz : wr.cell? ⟨g6, z, none⟩ = some v := by rw [LA.x.cell]; exact hv
              have hl256 := (HV.out.vc HL.out).len hl
              have HLL := Lib.hid hl
              have HCL := Lib.hid (clone v l wr hsl (by omega))
              clear hz hl hv hsl
              go_wp2_with fail
              refine HCL.out.mono ?_
              rintro e wB ⟨v', rfl, OB, bB⟩
              have LB := LA.below bB
              have OB2 := own_weaken OB (Nat.le_trans hsz LA.b.size)
              have fz := LB.x.frozen z
              have dB := cell_later bB dz
              have LC := LB.next HLL.out OB2
              obtain ⟨aB, cB, hvB, _⟩ := own_form OB
              subst hvB
              clear LA LB OB OB2 bB dz HCL
              go_wp2
              go_roundg g2
              case rel => exact ⟨z + 1, _, by have := HZ.out; omega, by go_num, LC⟩
              case measure => omega
            | zero =>
              obtain rfl : z = t.nz := by omega
              have hzl : ¬ t.nz < t.nz := by omega
              have P9 := P8.below LA.b
              have Z9 := Z8.later LA.b
              have C9 := O8.c.later LA.b
              have c4 := P9.c4
              obtain ⟨v, hv, hLc⟩ := P9.v.c.row c L HL.out
              have dv : wr.cell? ⟨t.bc, c, none⟩ = some v := by rw [P9.v.c.x.cell]; exact hv
              have fv := P9.v.c.x.frozen c
              have hset := P9.v.c.x.set c (.slice (some ⟨g6, 0, none⟩) t.nz cap6)
              have hgr : wr.grownBy (wr.setCell ⟨t.bc, c, none⟩ (.slice (some ⟨g6, 0, none⟩) t.nz cap6)) (some t.bc) := set_grown
              have hLC : Lc wr (.slice (some ⟨g6, 0, none⟩) t.nz cap6) L := ⟨g6, cap6, bs, by rw [HLN.out], by rw [HLN.out]; exact r1, r2, LA.x, LA.n, fun y l hl => by
                obtain ⟨u, p1, p2⟩ := LA.own y l (by have := lt_of hl; rw [HLN.out] at this; exact this) hl
                exact ⟨u, p1, p2.sl⟩⟩
              have PA := P9.cset hgr hset hcl hLC
              have ha : ({ a with cs := a.cs.set c L } : A) = a := by rw [set_same HL.out]
              rw [ha] at PA
              have ZA := Z9.grown hgr (by simpa using P9.v.c.x.ne_type Z9 (by decide))
              have kp : ∀ {q tt : Nat} {bs : List Value}, tt ≠ 93 → Blk wr q tt bs → Blk (wr.setCell ⟨t.bc, c, none⟩ (.slice (some ⟨g6, 0, none⟩) t.nz cap6)) q tt bs := fun ht hq => hq.grown hgr (by simpa using P9.v.c.x.ne_type hq (Ne.symm ht))
              have OA' : OA W1 (wr.setCell ⟨t.bc, c, none⟩ (.slice (some ⟨g6, 0, none⟩) t.nz cap6)) t zc (ccs.set c (.slice (some ⟨g6, 0, none⟩) t.nz cap6)) a (c + 1) := by
                refine ⟨fun b0 bs0 hb0 => kp (by decide) ((O8.k b0 bs0 hb0).later LA.b), O8.q, O8.n, fun d M hd hM => ?_⟩
                by_cases e : d = c
                · subst e
                  rw [HL.out] at hM
                  cases hM
                  refine ⟨g6, cap6, bs, ?_, by rw [HLN.out]; exact r1, r2, ⟨kp (by decide) LA.x, LA.n, fun y l hl => ?_, Nat.le_trans hsz LA.l⟩⟩
                  · rw [List.getElem?_set_self (lt_of hv), HLN.out]
                  · obtain ⟨u, p1, p2⟩ := LA.own y l (by have := lt_of hl; rw [HLN.out] at this; exact this) hl
                    exact ⟨u, p1, p2.kept hgr (.inr (P9.v.c.x.not_own p2 (by decide)))⟩
                · obtain ⟨b0, k0, bs0, p1, p2, p3, p4⟩ := C9 d M (by omega) hM
                  exact ⟨b0, k0, bs0, by rw [List.getElem?_set_ne (Ne.symm e)]; exact p1, p2, p3, p4.grown P9.v.c.x (by decide) (by decide) hgr⟩
              have hszA : W1.heap.size ≤ (wr.setCell ⟨t.bc, c, none⟩ (.slice (some ⟨g6, 0, none⟩) t.nz cap6)).heap.size := Nat.le_trans (Nat.le_trans hsz LA.b.size) hgr.size
              clear hz P8 Z8 O8 hsz LA P9 Z9 C9 hv hLc hset hgr hLC ha kp HQ3
              go_wp2
              obtain ⟨wD, hwD⟩ : ∃ W, W = wr.setCell ⟨t.bc, c, none⟩ (.slice (some ⟨g6, 0, none⟩) t.nz cap6) := ⟨_, rfl⟩
              rw [← hwD] at PA ZA OA' hszA ⊢
              clear hwD c4 dv fv
              go_roundg gg
              case rel => exact ⟨c + 1, _, by have := HI.out; omega, by go_num, PA, ZA, OA', hszA⟩
              case measure => omega
end Go.Proofs.YtdddkfpcbfgocaaGreat
namespace Go.Proofs.YtdddkfpcbfgocaaGreat
open Go.RowKit Go.Over Go.Zn Go.Can Go.Seg Go.Grow
/-- Blocks besides those of the zones and the caches are as they were. -/
def KB (s : Sh) (w w' : World) : Prop := ∀ q t bs, q ≠ s.bz → q ≠ s.bc → Blk w q t bs → Blk w' q t bs
theorem KB.refl (s : Sh) (w : World) : KB s w w := fun _ _ _ _ _ h => h
theorem KB.trans {s : Sh} {w1 w2 w3 : World} (h : KB s w1 w2) (h' : KB s w2 w3) : KB s w1 w3 := fun q t bs h1 h2 h3 => h' q t bs h1 h2 (h q t bs h1 h2 h3)
theorem KB.below {s : Sh} {w w' : World} (hb : Below w.heap.size w w') : KB s w w' := fun _ _ _ _ _ h => h.later hb
theorem KB.grownZ {s : Sh} {w w' : World} (hg : w.grownBy w' (some s.bz)) : KB s w w' := fun q t bs h1 _ h => h.grown hg (by simpa using Ne.symm h1)
theorem KB.grownC {s : Sh} {w w' : World} (hg : w.grownBy w' (some s.bc)) : KB s w w' := fun q t bs _ h1 h => h.grown hg (by simpa using Ne.symm h1)
/-- A variable that holds an allocator of the call's own: its rows too lie in new blocks. -/
structure AP (w0 : World) (g : Nat) (s : Sh) (zc ccs : List Value) (a : A) (W : World) : Prop where
  b : Below w0.heap.size w0 W
  lg : w0.heap.size ≤ g
  lz : w0.heap.size ≤ s.bz
  lc : w0.heap.size ≤ s.bc
  x : Blk W g 28 (s.cells a.bt a.hi)
  v : AW W s zc ccs a
  f : AF w0.heap.size W s zc ccs
section
variable {w0 W W' : World} {g : Nat} {s : Sh} {zc ccs : List Value} {a : A}
theorem AP.q (h : AP w0 g s zc ccs a W) : AQ w0 g s zc ccs a W := ⟨h.b, h.lg, h.lz, h.lc, h.x, h.v⟩
theorem AQ.p (h : AQ w0 g s zc ccs a W) (hf : AF w0.heap.size W s zc ccs) : AP w0 g s zc ccs a W := ⟨h.b, h.lg, h.lz, h.lc, h.x, h.v, hf⟩
theorem AP.below (h : AP w0 g s zc ccs a W) (hb : Below W.heap.size W W') : AP w0 g s zc ccs a W' := (h.q.below hb).p (h.f.below hb)
theorem AP.c0 (h : AP w0 g s zc ccs a W) : W.cell? ⟨g, 0, none⟩ = some (.slice s.an s.nn s.cn) := h.q.c0
theorem AP.c1 (h : AP w0 g s zc ccs a W) : W.cell? ⟨g, 1, none⟩ = some (.int .i64 a.bt) := h.q.c1
theorem AP.c2 (h : AP w0 g s zc ccs a W) : W.cell? ⟨g, 2, none⟩ = some (.int .i64 a.hi) := h.q.c2
theorem AP.c3 (h : AP w0 g s zc ccs a W) : W.cell? ⟨g, 3, none⟩ = some (.slice (some ⟨s.bz, 0, none⟩) s.nz s.cz) := h.q.c3
theorem AP.c4 (h : AP w0 g s zc ccs a W) : W.cell? ⟨g, 4, none⟩ = some (.slice (some ⟨s.bc, 0, none⟩) s.nc s.cc) := h.q.c4
theorem AP.ra (h : AP w0 g s zc ccs a W) : Ra W (.agg (s.cells a.bt a.hi).toArray) a := h.q.ra
theorem AP.cset {c : Nat} {L' : List (List Int)} {v : Value} (h : AP w0 g s zc ccs a W) (hg : W.grownBy W' (some s.bc)) (hB : Blk W' s.bc 93 (ccs.set c v)) (hc : c < s.nc) (hv : LF W w0.heap.size v L') :
    AP w0 g s zc (ccs.set c v) { a with cs := a.cs.set c L' } W' := by
  refine (h.q.cset hg hB hc hv.c).p ?_
  have hx := h.v.c.x
  have kp : ∀ b bs, Blk W b 24 bs → Blk W' b 24 bs := fun b bs hq => hq.grown hg (by simpa using hx.ne_type hq (by decide))
  refine ⟨h.f.n, h.f.z, fun d u hd hu => ?_⟩
  by_cases e : d = c
  · subst e
    by_cases hl : d < ccs.length
    · rw [List.getElem?_set_self hl] at hu
      cases hu
      exact hv.lo.past kp
    · rw [List.getElem?_eq_none (by simp; omega)] at hu
      cases hu
  · rw [List.getElem?_set_ne (Ne.symm e)] at hu
    exact (h.f.c d u hd hu).past kp
/-- A zone is laid over: its rows too lie in new blocks. -/
theorem AF.lay {B z : Nat} {cs : List Value} (h : AF B W s zc ccs) (hl : cs.length = 10) (hz : z < s.nz) (hn : s.nz * 10 ≤ zc.length) (hk : ∀ b bs, Blk W b 24 bs → Blk W' b 24 bs) (hc : Lo B cs) : AF B W' s (lay zc (z * 10) cs) ccs := by
  have hfit : z * 10 + cs.length ≤ zc.length := by omega
  refine ⟨h.n, fun i hi => ?_, fun c v hc hv => (h.c c v hc hv).past hk⟩
  by_cases e : i = z
  · subst e
    have := lay_same hfit
    rw [hl] at this
    rw [this]
    exact hc
  · rw [lay_other hfit (by omega)]
    exact h.z i hi
end
section
variable {w0 W W' : World} {g : Nat} {s : Sh} {zc ccs : List Value} {a : A}
theorem AP.b3 (h : AP w0 g s zc ccs a W) (hk : KB s W W') : ∀ b bs, Blk W b 3 bs → Blk W' b 3 bs := fun b bs hb => hk b 3 bs (hb.ne_type h.v.q.x (by decide)) (hb.ne_type h.v.c.x (by decide)) hb
/-- A zone is replaced. -/
theorem AP.zset {z : Nat} {y : Z} {cs : List Value} (h : AP w0 g s zc ccs a W) (hz : z < s.nz) (hg : W.grownBy W' (some s.bz)) (hB : Blk W' s.bz 102 (lay zc (z * 10) cs)) (hy : ZV W cs y) (hlo : Lo w0.heap.size cs) :
    AP w0 g s (lay zc (z * 10) cs) ccs (setZ a z y) W' := by
  have hx := h.v.q.x
  have hl := hy.len
  have hn := h.v.q.n
  rw [h.v.ez] at hn
  have hfit : z * 10 + cs.length ≤ zc.length := by omega
  have kp : ∀ {q t : Nat} {bs : List Value}, t ≠ 102 → Blk W q t bs → Blk W' q t bs := fun ht hq => hq.grown hg (by simpa using Ne.symm (hq.ne_type hx ht))
  refine ⟨h.b.grown hg h.b.size (fun q hq => by cases hq; exact h.lz), h.lg, h.lz, h.lc, kp (by decide) h.x, ⟨h.v.en, by show (a.zs.set z y).length = _; rw [List.length_set]; exact h.v.ez, h.v.ec, h.v.nd.past fun _ _ => kp (by decide), ⟨hB, by show 10 * (a.zs.set z y).length ≤ _; rw [List.length_set, lay_len hfit, h.v.ez]; exact hn, fun i u hu => ?_⟩, h.v.zl, h.v.zm, h.v.c.past (kp (by decide) h.v.c.x) (fun _ _ => kp (by decide)) (fun _ _ => kp (by decide)), h.v.cl, h.v.cm⟩, h.f.lay hl hz (by omega) (fun _ _ => kp (by decide)) hlo⟩
  by_cases e : i = z
  · subst e
    rw [show (setZ a i y).zs = a.zs.set i y from rfl, List.getElem?_set_self (by rw [h.v.ez]; exact hz)] at hu
    cases hu
    have := lay_same hfit
    rw [hl] at this
    rw [this]
    exact hy.past fun _ _ => kp (by decide)
  · rw [show (setZ a z y).zs = a.zs.set z y from rfl, List.getElem?_set_ne (Ne.symm e)] at hu
    rw [lay_other hfit (by omega)]
    exact (h.v.q.row i u hu).past fun _ _ => kp (by decide)
end
theorem setZ_cs {a : A} {z : Nat} {y : Z} : (setZ a z y).cs = a.cs := rfl
/-- What giving frames gives. -/
def GiveAns (w0 : World) (g : Nat) (s : Sh) (ccs : List Value) (a : A) (z : Nat) (l : List Int) (w : World) (e : Ending) (w' : World) : Prop :=
  e = .returned (.tuple #[]) ∧ (∃ zc' a', AP w0 g s zc' ccs a' w' ∧ VA a' ∧ Sa a a' ∧ a'.cs = a.cs ∧ ∀ y x, Fr a' y x ↔ Fr a y x ∨ (y = z ∧ x ∈ l)) ∧ KB s w w'
set_option maxRecDepth 100000 in set_option maxHeartbeats 3200000 in
theorem give (w0 : World) (g : Nat) (s : Sh) (zc ccs : List Value) (a : A) (z : Nat) (l : List Int) (vl : Value) (w : World) (P : AP w0 g s zc ccs a w) (hV : VA a) (hz : z < a.zs.length) (hH : Hand a z l) (hl : Sl w vl l) (hl6 : l.length ≤ 256) :
    Calls Tryz.prog 42 #[.pointer (some ⟨g, 0, none⟩), .int .i64 z, vl] w (GiveAns w0 g s ccs a z l w) := by
  obtain ⟨al, cl, rfl, _⟩ := id hl
  obtain ⟨n, hn⟩ : ∃ n, l.length = n := ⟨_, rfl⟩
  rw [hn] at hl hl6 ⊢
  have HN := Lib.hid hn
  rw [P.v.ez] at hz
  have HS0 := Lib.hid hl
  have HVV := Lib.hid hV; have HH0 := Lib.hid hH
  clear hn hV hH hl
  go_enter Tryz.func42, Tryz.ntmps42
  go_wp2
  go_loopg [12] n (fun gg v12 wr => ∃ (i : Nat) (zc : List Value) (a' : A), i + gg = n ∧ v12 = .int .i64 i ∧ AP w0 g s zc ccs a' wr ∧ KB s w wr ∧ Sl wr (.slice al n cl) l ∧ VA a' ∧ Hand a' z (l.drop i) ∧ Sa a a' ∧ a'.cs = a.cs ∧ ∀ y x, Fr a' y x ↔ Fr a y x ∨ (y = z ∧ x ∈ l.take i))
  case atStart => exact ⟨0, zc, a, by omega, rfl, P, KB.refl _ _, HS0.out, HVV.out, HH0.out, Sa.refl a, rfl, fun y x => by simp⟩
  case round =>
    clear P HS0 HVV HH0
    obtain ⟨i, zc, b, hi, rfl, P1, K1, S1, V1, H1, A1, E1, F1⟩ := hrel
    have HV := Lib.hid V1; have HH := Lib.hid H1; have HA := Lib.hid A1; have HE := Lib.hid E1; have HF := Lib.hid F1
    clear V1 H1 A1 E1 F1
    cases gk with
    | zero =>
      have hin : ¬ i < n := by omega
      have HF2 := Lib.hid (show ∀ y x, Fr b y x ↔ Fr a y x ∨ (y = z ∧ x ∈ l) from fun y x => by
        rw [HF.out, List.take_of_length_le (by rw [HN.out]; omega)])
      clear hi
      go_wp2
      exact bodyPost_end (results_none rfl _ _ _) rfl ⟨rfl, ⟨zc, b, P1, HV.out, HA.out, HE.out, HF2.out⟩, K1⟩
    | succ gg =>
      have hin : i < n := by omega
      have HI := Lib.hid hi
      obtain ⟨f, hf⟩ := get_some HN.out hin
      have hdr := drop_get hf
      have hh := HH.out
      rw [hdr] at hh
      obtain ⟨hfz, hfn⟩ := hh.rg f (by simp)
      have hzb : z < b.zs.length := by rw [P1.v.ez]; exact hz
      obtain ⟨y, hy⟩ := get_some P1.v.ez hz
      have hzn := zn_of hy
      have hvz : VZ y := by have := HV.out.vz z hzb; rw [hzn] at this; exact this
      have hzst := hvz.r.st0; have hz256 := hvz.r.ct1
      rw [hzn] at hfz
      have hR0 : R y.st y.ct f 0 := by unfold inZ at hfz; exact ⟨by omega, hfz.1, by rw [pw_zero]; omega, by rw [pw_zero]; omega⟩
      have hnc : ¬ Cov (F y.fr) f := fun h => hfn (.inl (by rw [hzn]; exact h))
      obtain ⟨a1, c1, e1, k1, k2, k3, hI⟩ := S1
      have S1 : Sl wr (.slice al n cl) l := ⟨a1, c1, e1, k1, k2, k3, hI⟩
      rw [HN.out] at e1
      cases e1
      obtain ⟨bb, off, rfl, cx⟩ := hI.at hf
      have Q1 := P1.v.q
      have c3 := P1.c3
      have HFC := Lib.hid (free (.agg (seg zc (z * 10) 10).toArray) y f wr ⟨_, rfl, Q1.row z y hy⟩ hvz hR0 hnc)
      have HY := Lib.hid hy; have HZN := Lib.hid hzn; have HHH := Lib.hid hh
      have HTK := Lib.hid (show ∀ x, x ∈ l.take (i + 1) ↔ x ∈ l.take i ∨ x = f from fun x => take_mem hf)
      clear hi hf hdr hh hfz hfn hy hzn hvz hR0 hnc hI k1 k2 k3
      go_wp2_with ((with_reducible refine ldq ?_ Q1 HY.out ?_); (focus rfl))
      refine HFC.out.mono ?_
      rintro e w2 ⟨cs, fr, rfl, hO, hvd, hcv, b2⟩
      have P2 := P1.below b2
      have K2 := K1.trans (KB.below b2)
      have S2 := S1.below b2
      have HVD := Lib.hid hvd; have HCV := Lib.hid hcv
      have hcl := hO.h.len
      have h1c := hO.zv.one
      have hz3 := Blk.new w2 102 #[.int .i64 0, .int .i64 0, .int .i64 0, .int .i64 0, .int .i64 0, .slice none 0 0, .slice none 0 0, .slice none 0 0, .slice none 0 0, .slice none 0 0] zP rfl
      have hz2 : ZV w2 cs { y with fr := fr } := hO.zv
      have HLO := Lib.hid (show Lo w0.heap.size cs from fun k a0 n0 c0 hk h3 => Nat.le_trans P1.b.size (hO.lo k a0 n0 c0 hk h3))
      clear P1 K1 S1 b2 Q1 c3 cx hvd hcv hO HFC
      go_upto_region 4 with ((with_reducible refine stZ (cs := cs) ?_ ?_ hz3 zP_len hcl h1c ?_); (focus rfl); (focus rfl); intro w4 hB4 hg4)
      have b4 : Below w2.heap.size w2 w4 := (below_box w2 (.cells #[.int .i64 0, .int .i64 0, .int .i64 0, .int .i64 0, .int .i64 0, .slice none 0 0, .slice none 0 0, .slice none 0 0, .slice none 0 0, .slice none 0 0] 102)).grown hg4 (below_box w2 _).size (fun k hk => by cases hk; exact Nat.le_refl _)
      have P4 := P2.below b4
      have K4 := K2.trans (KB.below b4)
      have S4 := S2.below b4
      have ZV4 := hz2.below b4
      have hg8 : w2.heap.size ≠ s.bz := by have := P2.v.q.x.lt; omega
      have c3 := P4.c3
      obtain ⟨g8, hg8e⟩ : ∃ z, w2.heap.size = z := ⟨_, rfl⟩
      rw [hg8e] at hB4 hg8 ⊢
      clear hg8e P2 K2 S2 b4 hg4 hz3 hz2
      go_wp2_with fail
      refine wp_region_plan (fun U => U.cell? ⟨g, 3, none⟩ = some (.slice (some ⟨s.bz, 0, none⟩) s.nz s.cz) ∧ Blk U g8 102 cs) (.quiet [0, 1, 2, 3, 4, 5, 6] (.last 7)) 7 (by kernel_rfl) (by kernel_rfl) ⟨c3, hB4⟩ ?_
      intro W hWW hWe
      have bW : Below w4.heap.size w4 W := by rw [hWe]; exact (Below.refl _ _).drew
      clear hWe
      have P5 := P4.below bW
      have K5 := K4.trans (KB.below bW)
      have S5 := S4.below bW
      have ZV5 := ZV4.below bW
      simp only [wpPlan, inOrder, List.filterMap_cons, List.filterMap_nil, List.getElem?_cons_zero, List.getElem?_cons_succ]
      have q3 := fun z => (hold_ok (S0 := fun U => U.cell? ⟨g, 3, none⟩ = some (.slice (some ⟨s.bz, 0, none⟩) s.nz s.cz) ∧ Blk U g8 102 cs) hWW z).1
      have q4 := fun z => (hold_ok (S0 := fun U => U.cell? ⟨g, 3, none⟩ = some (.slice (some ⟨s.bz, 0, none⟩) s.nz s.cz) ∧ Blk U g8 102 cs) hWW z).2
      clear P4 K4 S4 ZV4 bW c3 hB4
      show wpQuiet _ _ _ _ (_ :: _ :: _ :: _ :: _ :: _ :: [_]) _
      repeat (go_big_quiet_step (fail))
      go_big_quiet_want
      rename_i K hK
      refine quiet_run (v := .agg cs.toArray) (fun w' hw' => ?_) ?_
      · obtain ⟨u, rfl⟩ := hw'
        exact run_load_row rfl g8 rfl 102 cs.toArray (0, 0) _ (q4 u) Tryz.underlying102 rfl (by rw [infoZ]; simp [hcl])
      refine hK _ ?_
      clear hK K
      simp only [Act.put, List.setIfInBounds_toArray, List.set_cons_succ, List.set_cons_zero]
      repeat (go_big_quiet_step (fail))
      refine wpQuiet_nil ?_
      have hiz : (Tryz.prog.info? 102).map (·.size) = some cs.length := by rw [infoZ, hcl]
      have hxz := P5.v.q.x
      have hfit : z * 10 + cs.length ≤ zc.length := by have := P5.v.q.n; rw [P5.v.ez] at this; omega
      clear q3 q4 hWW
      show wpList _ _ _ [_] _ _
      go_wp2_with ((with_reducible refine wpList_store_part (off := z * 10) (cs := cs) hiz ?_ ?_ hxz hfit h1c ?_); (focus rfl); (focus rfl); intro w6 hB6 hg6)
      have P6 := P5.zset hz hg6 hB6 ZV5 HLO.out
      have K6 := K5.trans (KB.grownZ hg6)
      have S6 := S5.past (P5.b3 (KB.grownZ hg6))
      have hzb : z < b.zs.length := by rw [P5.v.ez]; exact hz
      have hpar : Par (zn b z) { y with fr := fr } := by rw [HZN.out]; exact ⟨rfl, rfl, rfl, rfl, rfl⟩
      have hg1 := give_one HV.out hzb HHH.out hpar HVD.out (fun x => by rw [HZN.out]; exact HCV.out x)
      have HG := Lib.hid hg1
      have HA2 := Lib.hid (HA.out.trans (Sa.setZ (a := b) hzb hpar))
      have HF2 := Lib.hid (show ∀ y' x, Fr (setZ b z { y with fr := fr }) y' x ↔ Fr a y' x ∨ (y' = z ∧ x ∈ l.take (i + 1)) from fun y' x => by
        rw [hg1.2.2, HF.out, HTK.out]
        constructor
        · rintro ((h | h) | h)
          · exact .inl h
          · exact .inr ⟨h.1, .inl h.2⟩
          · exact .inr ⟨h.1, .inr h.2⟩
        · rintro (h | ⟨h1, h2 | h2⟩)
          · exact .inl (.inl h)
          · exact .inl (.inr ⟨h1, h2⟩)
          · exact .inr ⟨h1, h2⟩)
      clear P5 K5 S5 ZV5 hiz hxz hfit hB6 hg6 hpar hg1 hzb h1c hcl HVD HCV HHH HZN HY HTK HLO
      refine ⟨trivial, NoPanic.normal ?_⟩
      simp only [Act.put]
      go_wp2
      go_roundg gg
      case rel => exact ⟨i + 1, _, _, by have := HI.out; omega, by go_num, P6, K6, S6, HG.out.1, HG.out.2.1, HA2.out, HE.out, HF2.out⟩
      case measure => omega
theorem lay_one {L : List Value} {c : Nat} {v : Value} (hc : c < L.length) : lay L c [v] = L.set c v := by
  unfold lay
  apply List.ext_getElem?
  intro j
  have h1 : (L.take c).length = c := by rw [List.length_take]; omega
  rcases Nat.lt_trichotomy j c with h | h | h
  · rw [List.append_assoc, List.getElem?_append_left (by omega), List.getElem?_take, if_pos h, List.getElem?_set_ne (by omega)]
  · subst h
    rw [List.append_assoc, List.getElem?_append_right (by omega), h1, Nat.sub_self, List.getElem?_set_self hc]
    rfl
  · rw [List.getElem?_append_right (by simp; omega), List.getElem?_drop, List.getElem?_set_ne (by omega)]
    congr 1
    simp; omega
theorem setC_of {a : A} {c z : Nat} {L : List (List Int)} {l : List Int} (h : a.cs[c]? = some L) : ({ a with cs := a.cs.set c (L.set z l) } : A) = setC a c z l := by
  unfold setC
  rw [getD_of h]
/-- What draining a list gives. -/
def DrainAns (w0 : World) (g : Nat) (s : Sh) (a : A) (c z : Nat) (w : World) (e : Ending) (w' : World) : Prop :=
  e = .returned (.tuple #[]) ∧ (∃ zc' ccs' a', AP w0 g s zc' ccs' a' w' ∧ VA a' ∧ Sa a a' ∧ a'.cs = (setC a c z []).cs ∧ ∀ y x, Fr a' y x ↔ Fr a y x) ∧ KB s w w'
set_option maxRecDepth 100000 in set_option maxHeartbeats 3200000 in
theorem drain (w0 : World) (g : Nat) (s : Sh) (zc ccs : List Value) (a : A) (c z : Nat) (w : World) (P : AP w0 g s zc ccs a w) (hV : VA a) (hc : c < a.cs.length) (hz : z < a.zs.length) :
    Calls Tryz.prog 50 #[.pointer (some ⟨g, 0, none⟩), .int .i64 c, .int .i64 z] w (DrainAns w0 g s a c z w) := by
  have HV := Lib.hid hV; have HZ := Lib.hid hz; have HCL := Lib.hid hc
  rw [P.v.ec] at hc
  obtain ⟨L, hL⟩ := get_some P.v.ec hc
  have hLn : L.length = a.zs.length := hV.cl hL
  obtain ⟨l, hl⟩ := get_some hLn hz
  obtain ⟨v, hv, hLc⟩ := P.v.c.row c L hL
  have dv : w.cell? ⟨s.bc, c, none⟩ = some v := by rw [P.v.c.x.cell]; exact hv
  have hle := lst_of hL hl
  have hl256 := (hV.vc hL).len hl
  have HD := Lib.hid (pcdrain (.agg #[v]) L z l w ⟨_, rfl, hLc⟩ (hV.vc hL) hl)
  have HDL := Lib.hid (drain_list hV HCL.out hz)
  have HL := Lib.hid hL; have HLE := Lib.hid hle; have HLV := Lib.hid (lt_of hv)
  have c4 := P.c4
  clear hV hz hL hLn hl hv hLc hle
  go_enter Tryz.func50, Tryz.ntmps50
  go_wp2_with fail
  refine HD.out.mono ?_
  rintro e w2 ⟨_, vl, rfl, ⟨v', rfl, hv'⟩, hsl, b2⟩
  have P2 := P.below b2
  have K2 : KB s w w2 := KB.below b2
  have hsz : w0.heap.size ≤ w2.heap.size := P2.b.size
  have hv' := hv'.weaken P.b.size
  obtain ⟨_, _, hvf, _⟩ := hv'.c.form
  have h1v : v'.oneCell' = true := by rw [hvf]; rfl
  have HS := Lib.hid hsl; have HVC := Lib.hid hv'
  have hz3 := Blk.new w2 93 #[.slice none 0 0] [.slice none 0 0] rfl
  clear P b2 dv c4 HD hvf hsl hv'
  go_upto_region 1 with ((with_reducible refine stC (u := .slice none 0 0) (v := v') ?_ ?_ hz3 h1v ?_); (focus rfl); (focus rfl); intro w4 hB4 hg4)
  have b4 : Below w2.heap.size w2 w4 := (below_box w2 (.cells #[.slice none 0 0] 93)).grown hg4 (below_box w2 _).size (fun k hk => by cases hk; exact Nat.le_refl _)
  have P4 := P2.below b4
  have K4 := K2.trans (KB.below b4)
  have HS4 := Lib.hid (HS.out.below b4)
  have HVC4 := Lib.hid (HVC.out.below b4)
  have hg6 : w2.heap.size ≠ s.bc := by have := P2.v.c.x.lt; omega
  have c4 := P4.c4
  obtain ⟨g6, hg6e⟩ : ∃ z, w2.heap.size = z := ⟨_, rfl⟩
  rw [hg6e] at hB4 hg6 ⊢
  have d6 : w4.cell? ⟨g6, 0, none⟩ = some v' := by rw [hB4.cell]; rfl
  clear hg6e P2 K2 HS HVC b4 hg4 hz3 hB4 hsz
  go_upto_region 2 with fail
  refine wp_region_plan (fun U => U.cell? ⟨g, 4, none⟩ = some (.slice (some ⟨s.bc, 0, none⟩) s.nc s.cc) ∧ U.cell? ⟨g6, 0, none⟩ = some v') (.quiet [0, 1, 2, 3, 4, 5, 6] (.last 7)) 7 (by kernel_rfl) (by kernel_rfl) ⟨c4, d6⟩ ?_
  intro W hWW hWe
  have bW : Below w4.heap.size w4 W := by rw [hWe]; exact (Below.refl _ _).drew
  clear hWe
  have P5 := P4.below bW
  have K5 := K4.trans (KB.below bW)
  have HS5 := Lib.hid (HS4.out.below bW)
  have HVC5 := Lib.hid (HVC4.out.below bW)
  simp only [wpPlan, inOrder, List.filterMap_cons, List.filterMap_nil, List.getElem?_cons_zero, List.getElem?_cons_succ]
  have q3 := fun z => (hold_ok (S0 := fun U => U.cell? ⟨g, 4, none⟩ = some (.slice (some ⟨s.bc, 0, none⟩) s.nc s.cc) ∧ U.cell? ⟨g6, 0, none⟩ = some v') hWW z).1
  have q4 := fun z => (hold_ok (S0 := fun U => U.cell? ⟨g, 4, none⟩ = some (.slice (some ⟨s.bc, 0, none⟩) s.nc s.cc) ∧ U.cell? ⟨g6, 0, none⟩ = some v') hWW z).2
  clear P4 K4 HS4 HVC4 bW c4 d6
  show wpQuiet _ _ _ _ (_ :: _ :: _ :: _ :: _ :: _ :: [_]) _
  repeat (go_big_quiet_step (fail))
  refine wpQuiet_nil ?_
  clear q3 q4 hWW
  have hiz : (Tryz.prog.info? 93).map (·.size) = some [v'].length := infoC
  have hxz := P5.v.c.x
  have hfit : c + [v'].length ≤ ccs.length := by have := HLV.out; simp; omega
  have h1c : ∀ u ∈ [v'], u.oneCell' = true := fun u hu => by simp at hu; subst hu; exact h1v
  show wpList _ _ _ [_] _ _
  go_wp2_with ((with_reducible refine wpList_store_part (off := c) (cs := [v']) hiz ?_ ?_ hxz hfit h1c ?_); (focus rfl); (focus rfl); intro w6 hB6 hg6c)
  rw [lay_one HLV.out] at hB6
  have P6 := P5.cset hg6c hB6 hc HVC5.out
  rw [setC_of HL.out] at P6
  have K6 := K5.trans (KB.grownC hg6c)
  have S6 := HS5.out.past (P5.b3 (KB.grownC hg6c))
  have hdl := HDL.out
  rw [HLE.out] at hdl
  have HG := Lib.hid (give w0 g s zc _ (setC a c z []) z l vl w6 P6 hdl.1 HZ.out hdl.2.1 S6 hl256)
  have HDF := Lib.hid hdl
  have HMEM := Lib.hid (show ∀ x, x ∈ l → Fr a z x from fun x hx => .inr ⟨c, HCL.out, by rw [HLE.out]; exact hx⟩)
  clear P5 K5 HS5 HVC5 hiz hxz hfit h1c hB6 hg6c P6 S6 hdl HDL
  refine ⟨trivial, NoPanic.normal ?_⟩
  simp only [Act.put]
  go_wp2_with fail
  refine HG.out.mono ?_
  rintro e w7 ⟨rfl, ⟨zc', a', P7, V7, A7, E7, F7⟩, K7⟩
  have HR := Lib.hid (show DrainAns w0 g s a c z w (.returned (.tuple #[])) w7 from ⟨rfl, ⟨zc', _, a', P7, V7, Sa.setC.trans A7, E7, fun y x => by
    rw [F7, HDF.out.2.2]
    constructor
    · rintro (h | ⟨h1, h2⟩)
      · exact h.1
      · subst h1; exact HMEM.out x h2
    · intro h
      by_cases hc : y = z ∧ x ∈ l
      · exact .inr hc
      · exact .inl ⟨h, hc⟩⟩, K6.trans K7⟩)
  clear P7 V7 A7 E7 F7 K7 K6 HG
  go_wp2
  exact bodyPost_end (results_none rfl _ _ _) rfl HR.out
end Go.Proofs.YtdddkfpcbfgocaaGreat
namespace Go.Proofs.YtdddkfpcbfgocaaGreat
open Go.RowKit Go.Over Go.Zn Go.Can Go.Seg Go.Grow
section
variable {ops : Array Oper} {rest : List Oper} {d i j : Nat} {ty : TypeId} {pos : String} {af : Array Edge} {a : Act} {w : World} {Q : Exit → Act → World → Prop}
/-- One number is appended to a row of a call's own; where the row lies then. -/
theorem wpList_app2 {base b : Nat} {v : Value} {l : List Int} {x : Int} (hs : a.eval (.tmp i) = v) (hx : a.eval (.tmp j) = .slice (some ⟨b, 0, none⟩) 1 1) (hO : Own w base v l) (hB : Blk w b 3 [.int .i64 x]) (hl : l.length ≤ 900000) (hb : base ≤ w.heap.size)
    (h : ∀ v' w', Own w' base v' (l ++ [x]) → w.grownBy w' v.ownBlock → (∀ k, v'.ownBlock = some k → v.ownBlock = some k ∨ w.heap.size ≤ k) → wpList Tryz.prog ops Q rest (a.put (some d) v') w') :
    wpList Tryz.prog ops Q ({ dst := some d, op := .call { callee := .builtin .append, args := #[.tmp i, .tmp j], argTypes := #[24, 24] }, type := ty, pos := pos, after := af, guard := none } :: rest) a w := by
  refine wpList_append_k K22 rfl (.tmp i) (.tmp j) rfl v l.length (nums l) hs hO (some ⟨b, 0, none⟩) 1 1 [.int .i64 x] hx ⟨rfl, by simp [Value.oneCell'], .inr ⟨_, rfl, fun k u hk => ?_⟩⟩ (by omega) hb fun v' w' q1 q2 q3 => h v' w' ?_ q2 q3
  · rw [add_off, Nat.zero_add, hB.cell]; exact hk
  · unfold Own
    have e1 : (l ++ [x]).length = l.length + 1 := by simp
    have e2 : nums (l ++ [x]) = nums l ++ [.int .i64 x] := by simp [nums]
    rw [e1, e2]
    exact q1
end
theorem lay_self {L : List Value} {o n : Nat} (h : o + n ≤ L.length) : lay L o (seg L o n) = L := by
  apply List.ext_getElem?
  intro j
  have hl := seg_len h
  rcases (show (j < o ∨ o + n ≤ j) ∨ (o ≤ j ∧ j < o + n) by omega) with hj | ⟨h1, h2⟩
  · exact lay_get (by omega) (by omega)
  · have := lay_same (L := L) (cs := seg L o n) (o := o) (by omega)
    rw [hl] at this
    have h3 : (seg (lay L o (seg L o n)) o n)[j - o]? = (seg L o n)[j - o]? := by rw [this]
    rwa [seg_get (by omega), seg_get (by omega), show o + (j - o) = j by omega] at h3
theorem lay_lay {L cs ds : List Value} {o : Nat} (h : o + cs.length ≤ L.length) (he : ds.length = cs.length) : lay (lay L o cs) o ds = lay L o ds := by
  apply List.ext_getElem?
  intro j
  have hl := lay_len h
  rcases (show (j < o ∨ o + ds.length ≤ j) ∨ (o ≤ j ∧ j < o + ds.length) by omega) with hj | ⟨h1, h2⟩
  · rw [lay_get (by omega) hj, lay_get (by omega) hj, lay_get (by omega) (by omega)]
  · have p1 := lay_same (L := lay L o cs) (cs := ds) (o := o) (by omega)
    have p2 := lay_same (L := L) (cs := ds) (o := o) (by omega)
    have p3 : (seg (lay (lay L o cs) o ds) o ds.length)[j - o]? = (seg (lay L o ds) o ds.length)[j - o]? := by rw [p1, p2]
    rwa [seg_get (by omega), seg_get (by omega), show o + (j - o) = j by omega] at p3
/-- Old blocks but those of the zones are as they were: one zone is another. -/
theorem AP.zone {w0 W W' : World} {g : Nat} {s : Sh} {zc ccs : List Value} {a : A} {z : Nat} {y : Z} {cs : List Value} (h : AP w0 g s zc ccs a W) (hz : z < s.nz) (hg : W.grownBy W' (some s.bz)) (hB : Blk W' s.bz 102 (lay zc (z * 10) cs)) (hy : ZV W' cs y) (hlo : Lo w0.heap.size cs) :
    AP w0 g s (lay zc (z * 10) cs) ccs (setZ a z y) W' := by
  have hx := h.v.q.x
  have hl := hy.len
  have hn := h.v.q.n
  rw [h.v.ez] at hn
  have hfit : z * 10 + cs.length ≤ zc.length := by omega
  have kp : ∀ {q t : Nat} {bs : List Value}, t ≠ 102 → Blk W q t bs → Blk W' q t bs := fun ht hq => hq.grown hg (by simpa using Ne.symm (hq.ne_type hx ht))
  refine ⟨h.b.grown hg h.b.size (fun q hq => by cases hq; exact h.lz), h.lg, h.lz, h.lc, kp (by decide) h.x, ⟨h.v.en, by show (a.zs.set z y).length = _; rw [List.length_set]; exact h.v.ez, h.v.ec, h.v.nd.past fun _ _ => kp (by decide), ⟨hB, by show 10 * (a.zs.set z y).length ≤ _; rw [List.length_set, lay_len hfit, h.v.ez]; exact hn, fun i u hu => ?_⟩, h.v.zl, h.v.zm, h.v.c.past (kp (by decide) h.v.c.x) (fun _ _ => kp (by decide)) (fun _ _ => kp (by decide)), h.v.cl, h.v.cm⟩, h.f.lay hl hz (by omega) (fun _ _ => kp (by decide)) hlo⟩
  by_cases e : i = z
  · subst e
    rw [show (setZ a i y).zs = a.zs.set i y from rfl, List.getElem?_set_self (by rw [h.v.ez]; exact hz)] at hu
    cases hu
    have := lay_same hfit
    rw [hl] at this
    rw [this]
    exact hy
  · rw [show (setZ a z y).zs = a.zs.set z y from rfl, List.getElem?_set_ne (Ne.symm e)] at hu
    rw [lay_other hfit (by omega)]
    exact (h.v.q.row i u hu).past fun _ _ => kp (by decide)
/-- The rows of a zone lie outside of a block. -/
def Sx (cs : List Value) (y : Z) (ob : Option Nat) : Prop := ∀ (k : Nat) (a : Addr) (n c : Nat), k < 5 → cs[5 + k]? = some (.slice (some a) n c) → 0 < (y.fr k).length → some a.block ≠ ob
theorem ZV.away {W W' : World} {cs : List Value} {y : Z} {ob : Option Nat} (h : ZV W cs y) (hx : Sx cs y ob) (hg : W.grownBy W' ob) : ZV W' cs y :=
  ⟨h.len, h.nd, h.kd, h.st, h.ct, h.mn, fun k hk5 => by
    obtain ⟨v, h1, a, c, rfl, h2, h3, h4, h5⟩ := h.fr k hk5
    refine ⟨_, h1, a, c, rfl, h2, h3, h4, fun h0 => ?_⟩
    obtain ⟨b, off, ha, ⟨ds, hcs⟩, hc⟩ := h5 h0
    subst ha
    have h6 := hcs.grown hg (Ne.symm (hx k _ _ _ hk5 h1 h0))
    exact ⟨b, off, rfl, ⟨ds, h6⟩, fun i hi => by rw [h6.cell, ← hcs.cell]; exact hc i hi⟩⟩
theorem ZV.row_lt {W : World} {cs : List Value} {y : Z} (h : ZV W cs y) {k : Nat} (hk : k < 5) {a : Addr} {n c : Nat} (h1 : cs[5 + k]? = some (.slice (some a) n c)) (h0 : 0 < (y.fr k).length) : a.block < W.heap.size := by
  obtain ⟨v, q1, a', c', rfl, _, _, _, h5⟩ := h.fr k hk
  rw [h1] at q1
  cases q1
  obtain ⟨b, off, ha, ⟨ds, hcs⟩, _⟩ := h5 h0
  cases ha
  exact hcs.lt
theorem set_set {α : Type} {l : List α} {i : Nat} {x y : α} : (l.set i x).set i y = l.set i y := by
  apply List.ext_getElem?
  intro j
  by_cases e : j = i
  · subst e
    by_cases hl : j < l.length
    · rw [List.getElem?_set_self (by simpa using hl), List.getElem?_set_self hl]
    · rw [List.getElem?_eq_none (by simp; omega), List.getElem?_eq_none (by simp; omega)]
  · rw [List.getElem?_set_ne (Ne.symm e), List.getElem?_set_ne (Ne.symm e), List.getElem?_set_ne (Ne.symm e)]
theorem setZ_setZ {a : A} {z : Nat} {x y : Z} : setZ (setZ a z x) z y = setZ a z y := by
  unfold setZ
  rw [set_set]
theorem setZ_self {a : A} {z : Nat} {x : Z} (h : a.zs[z]? = some x) : setZ a z x = a := by
  unfold setZ
  rw [set_same h]
/-- What a refill gives. -/
def RefillAns (w0 : World) (g : Nat) (s : Sh) (a : A) (c z : Nat) (w : World) (e : Ending) (w' : World) : Prop :=
  ∃ b, e = .returned (.bool b) ∧ (∃ zc' ccs' a', AP w0 g s zc' ccs' a' w' ∧ VA a' ∧ Sa a a' ∧ (∀ d y, ¬ (d = c ∧ y = z) → lst a' d y = lst a d y) ∧ (∀ y x, Fr a' y x ↔ Fr a y x) ∧
    (b = true → lst a' c z ≠ []) ∧ (b = false → (∀ x, ¬ Cov (F (zn a z).fr) x) ∧ lst a' c z = []) ∧ (b = true → ∃ l0 f0, lst a' c z = l0 ++ [f0] ∧ First (zn a z).fr 0 f0)) ∧ KB s w w'
/-- Frames taken from a zone. -/
structure Taken (a b : A) (z : Nat) (l : List Int) : Prop where
  v : VA b
  h : Hand b z l
  s : Sa a b
  cs : b.cs = a.cs
  fr : ∀ y x, Fr b y x ↔ Fr a y x ∧ ¬ (y = z ∧ x ∈ l)
  fa : ∀ x ∈ l, Fr a z x
  hd : ((zn b z).fr = (zn a z).fr ∧ l = []) ∨ ∃ f r, l = f :: r ∧ First (zn a z).fr 0 f
theorem In0 {f x : Int} : In f 0 x ↔ x = f := by
  unfold In
  rw [pw_zero]
  omega
theorem Taken.next {a b : A} {z : Nat} {l : List Int} {f : Int} {y : Z} {fr : Nat → List Int} (h : Taken a b z l) (hz : z < b.zs.length) (hy : zn b z = y) (hv : Vd y.st y.ct fr) (hf : Cov (F y.fr) f) (hc : ∀ x, Cov (F fr) x ↔ Cov (F y.fr) x ∧ ¬ In f 0 x) (hfi : First y.fr 0 f) :
    Taken a (setZ b z { y with fr := fr }) z (l ++ [f]) := by
  have hpar : Par (zn b z) { y with fr := fr } := by rw [hy]; exact ⟨rfl, rfl, rfl, rfl, rfl⟩
  obtain ⟨q1, q2, q3⟩ := take_one h.v hz h.h hpar hv (by rw [hy]; exact hf) (fun x => by rw [hy]; show Cov (F fr) x ↔ _; rw [hc, In0])
  refine ⟨q1, q2, h.s.trans (Sa.setZ hz hpar), h.cs, fun y' x => ?_, fun x hx => ?_, ?_⟩
  case refine_3 =>
    rcases h.hd with ⟨e, rfl⟩ | ⟨f', r, rfl, hp⟩
    · exact .inr ⟨f, [], rfl, by rw [← e, hy]; exact hfi⟩
    · exact .inr ⟨f', r ++ [f], rfl, hp⟩
  case refine_2 =>
    rcases List.mem_append.1 hx with h1 | h1
    · exact h.fa x h1
    · obtain rfl := List.mem_singleton.1 h1
      exact ((h.fr z x).1 (.inl (by rw [hy]; exact hf))).1
  rw [q3, h.fr]
  simp only [List.mem_append, List.mem_singleton]
  constructor
  · rintro ⟨⟨h1, h2⟩, h3⟩
    exact ⟨h1, fun h4 => h4.2.elim (fun h5 => h2 ⟨h4.1, h5⟩) (fun h5 => h3 ⟨h4.1, h5⟩)⟩
  · rintro ⟨h1, h2⟩
    exact ⟨⟨h1, fun h3 => h2 ⟨h3.1, .inl h3.2⟩⟩, fun h3 => h2 ⟨h3.1, .inr h3.2⟩⟩
theorem Taken.adds {a b : A} {c z : Nat} {l : List Int} {L : List (List Int)} (h : Taken a b z l) (hz : z < b.zs.length) (hL : b.cs[c]? = some L) : Adds L l := by
  refine ⟨h.h.nd, fun x hx => h.v.inr hz (h.h.rg x hx).1, fun x hx hm => ?_⟩
  obtain ⟨y, m, hm1, hm2⟩ := mem_flat.1 hm
  obtain ⟨q1, _, _, q2⟩ := h.v.at_ hL hm1
  obtain rfl := h.v.zdis q1 hz (q2 x hm2).1 (h.h.rg x hx).1
  exact (h.h.rg x hx).2 (.inr ⟨c, lt_of hL, by rw [lst_of hL hm1]; exact hm2⟩)
/-- What is taken goes into an empty list of a cache. -/
theorem Taken.put {a b : A} {c z : Nat} {l : List Int} (h : Taken a b z l) (hz : z < b.zs.length) (hc : c < b.cs.length) (he : lst b c z = []) (hl : l.length ≤ b.hi) :
    VA (setC b c z l.reverse) ∧ Sa a (setC b c z l.reverse) ∧ (∀ d y, ¬ (d = c ∧ y = z) → lst (setC b c z l.reverse) d y = lst a d y) ∧ (∀ y x, Fr (setC b c z l.reverse) y x ↔ Fr a y x) ∧ lst (setC b c z l.reverse) c z = l.reverse := by
  have hlz := h.v.lz hc hz
  obtain ⟨q1, q2⟩ := cache_list h.v hc hz h.h (l := l.reverse) (List.pairwise_reverse.2 (h.h.nd.imp Ne.symm)) (fun x => by rw [he]; simp) (by rw [List.length_reverse]; exact hl)
  have hfa := h.fa
  refine ⟨q1, h.s.trans Sa.setC, fun d y hd => ?_, fun y x => ?_, ?_⟩
  · rw [lst_setC hc hlz, if_neg hd]
    unfold lst
    rw [h.cs]
  · rw [q2, h.fr]
    constructor
    · rintro (h1 | ⟨h1, h2⟩)
      · exact h1.1
      · subst h1; exact hfa x h2
    · intro h1
      by_cases hh : y = z ∧ x ∈ l
      · exact .inr hh
      · exact .inl ⟨h1, hh⟩
  · rw [lst_setC hc hlz, if_pos ⟨rfl, rfl⟩]
set_option maxRecDepth 100000 in set_option maxHeartbeats 3200000 in
theorem refill (w0 : World) (g : Nat) (s : Sh) (zc ccs : List Value) (a : A) (c z : Nat) (w : World) (P : AP w0 g s zc ccs a w) (hV : VA a) (hc : c < a.cs.length) (hz : z < a.zs.length) (he : lst a c z = []) :
    Calls Tryz.prog 59 #[.pointer (some ⟨g, 0, none⟩), .int .i64 c, .int .i64 z] w (RefillAns w0 g s a c z w) := by
  have HV := Lib.hid hV; have HZ := Lib.hid hz; have HCL := Lib.hid hc; have HE := Lib.hid he
  rw [P.v.ez] at hz
  have c1 := P.c1
  have hb64 : a.bt ≤ 64 := by have := hV.bh; have := hV.h64; omega
  have hb1 := hV.b1
  obtain ⟨y0, hy0⟩ := get_some P.v.ez hz
  have hzl : z * 10 + 10 ≤ zc.length := by have := P.v.q.n; rw [P.v.ez] at this; omega
  have O0 : Own w w.heap.size (.slice none 0 0) [] := Own.nil _ _
  have B0 : Blk w s.bz 102 (lay zc (z * 10) (seg zc (z * 10) 10)) := by rw [lay_self hzl]; exact P.v.q.x
  have Z0 := P.v.q.row z y0 hy0
  have T0 := Lib.hid (show Taken a (setZ a z y0) z [] from by
    rw [setZ_self hy0]
    exact ⟨hV, ⟨List.nodup_nil, fun x hx => by simp at hx⟩, Sa.refl a, rfl, fun y x => by simp, fun x hx => by simp at hx, .inl ⟨rfl, rfl⟩⟩)
  have HP0 := Lib.hid P
  have L0 := P.f.z z hz
  have HZL := Lib.hid hzl
  clear hV hc he hzl hy0 P
  go_enter Tryz.func59, Tryz.ntmps59
  go_wp2
  go_loopg [17, 7] a.bt (fun gg v17 v7 wr => ∃ (i : Nat) (cs : List Value) (y : Z) (l : List Int), i + gg = a.bt ∧ v17 = .int .i64 i ∧ l.length = i ∧ Own wr w.heap.size v7 l ∧ w.grownBy wr (some s.bz) ∧ Blk wr s.bz 102 (lay zc (z * 10) cs) ∧ ZV wr cs y ∧ Sx cs y v7.ownBlock ∧ Taken a (setZ a z y) z l ∧ Lo w0.heap.size cs)
  case atStart => exact ⟨0, _, y0, [], by omega, rfl, rfl, O0, grown_below (Below.refl _ _), B0, Z0, fun k a n c _ _ _ h => (by cases h), T0.out, L0⟩
  case round =>
    clear O0 B0 Z0 T0 c1 L0
    obtain ⟨i, cs0, y, l, hi, rfl, hli, O1, G1, B1, Z1, X1, T1, L1⟩ := hrel
    have P1 := HP0.out.zone hz G1 B1 Z1 L1
    have hw01 := P1.b.size
    clear L1
    have K1 : KB s w wr := KB.grownZ G1
    have hc0 := Z1.len
    have HX := Lib.hid X1; have HG := Lib.hid G1
    have hzy : zn (setZ a z y) z = y := by rw [zn_setZ HZ.out, if_pos rfl]
    have hya : (setZ a z y).zs[z]? = some y := by
      show (a.zs.set z y)[z]? = some y
      rw [List.getElem?_set_self HZ.out]
    have HSS := Lib.hid (fun (y' : Z) => show setZ (setZ a z y) z y' = setZ a z y' from setZ_setZ)
    obtain ⟨b, hb⟩ : ∃ b, setZ a z y = b := ⟨_, rfl⟩
    rw [hb] at P1 T1 hzy hya HSS
    have HT := Lib.hid T1; have HZN := Lib.hid hzy; have HY := Lib.hid hya; have HC0 := Lib.hid hc0
    clear T1 X1 G1 B1 Z1 hb hzy hya hc0
    cases gk with
    | zero =>
      have hin : ¬ i < a.bt := by omega
      have HLB := Lib.hid (show l.length ≤ a.bt by omega)
      have HNO := Lib.hid (show l = [] → ∀ x, ¬ Cov (F (zn a z).fr) x from fun h => by rw [h] at hli; simp at hli; omega)
      clear hi hli
      have hcb : c < b.cs.length := by rw [HT.out.cs]; exact HCL.out
      have hcs : c < s.nc := by rw [← P1.v.ec]; exact hcb
      obtain ⟨L, hL⟩ := get_some (l := b.cs) rfl hcb
      have hLn : L.length = b.zs.length := HT.out.v.cl hL
      have hzb : z < b.zs.length := by rw [P1.v.ez]; exact hz
      obtain ⟨m, hm⟩ := get_some hLn hzb
      have hlst := lst_of hL hm
      have hlab : lst b c z = [] := by unfold lst; rw [HT.out.cs]; exact HE.out
      rw [hlab] at hlst
      subst hlst
      obtain ⟨v, hv, hLc⟩ := P1.v.c.row c L hL
      have dv : wr.cell? ⟨s.bc, c, none⟩ = some v := by rw [P1.v.c.x.cell]; exact hv
      have c4 := P1.c4
      have HLV := Lib.hid (lt_of hv); have HLL := Lib.hid hL
      have HPR := Lib.hid (pcrefill (.agg #[v]) L z [] u7 l wr ⟨_, rfl, hLc⟩ (HT.out.v.vc hL) hm O1.sl (HT.out.adds hzb hL))
      have HPUT := Lib.hid (HT.out.put hzb hcb hlab (by rw [HT.out.s.hi]; have := HLB.out; have := HV.out.bh; omega))
      obtain ⟨a7, c7, hv7, _⟩ := own_form O1
      obtain ⟨nl, hnl⟩ : ∃ n, l.length = n := ⟨_, rfl⟩
      rw [hnl] at hv7
      subst hv7
      have hnl64 : nl ≤ 64 := by have := HLB.out; have := HV.out.bh; have := HV.out.h64; omega
      have HNL := Lib.hid hnl
      clear hLn hlab hL hm hv hLc O1 hnl hcb hzb
      go_wp2_with fail
      refine HPR.out.mono ?_
      rintro e w2 ⟨_, rfl, ⟨v', rfl, hv'⟩, b2⟩
      have P2 := P1.below b2
      have K2 := K1.trans (KB.below b2)
      have hv' := hv'.weaken P1.b.size
      obtain ⟨_, _, hvf, _⟩ := hv'.c.form
      have h1v : v'.oneCell' = true := by rw [hvf]; rfl
      have HVC := Lib.hid hv'
      have hz3 := Blk.new w2 93 #[.slice none 0 0] [.slice none 0 0] rfl
      clear P1 K1 b2 dv c4 HPR hvf hv'
      go_upto_region 10 with ((with_reducible refine stC (u := .slice none 0 0) (v := v') ?_ ?_ hz3 h1v ?_); (focus rfl); (focus rfl); intro w4 hB4 hg4)
      have b4 : Below w2.heap.size w2 w4 := (below_box w2 (.cells #[.slice none 0 0] 93)).grown hg4 (below_box w2 _).size (fun k hk => by cases hk; exact Nat.le_refl _)
      have P4 := P2.below b4
      have K4 := K2.trans (KB.below b4)
      have HVC4 := Lib.hid (HVC.out.below b4)
      have hg6 : w2.heap.size ≠ s.bc := by have := P2.v.c.x.lt; omega
      have c4 := P4.c4
      obtain ⟨g6, hg6e⟩ : ∃ z, w2.heap.size = z := ⟨_, rfl⟩
      rw [hg6e] at hB4 hg6 ⊢
      have d6 : w4.cell? ⟨g6, 0, none⟩ = some v' := by rw [hB4.cell]; rfl
      clear hg6e P2 K2 HVC b4 hg4 hz3 hB4
      go_upto_region 11 with fail
      refine wp_region_plan (fun U => U.cell? ⟨g, 4, none⟩ = some (.slice (some ⟨s.bc, 0, none⟩) s.nc s.cc) ∧ U.cell? ⟨g6, 0, none⟩ = some v') (.quiet [0, 1, 2, 3, 4, 5, 6] (.last 7)) 7 (by kernel_rfl) (by kernel_rfl) ⟨c4, d6⟩ ?_
      intro W hWW hWe
      have bW : Below w4.heap.size w4 W := by rw [hWe]; exact (Below.refl _ _).drew
      clear hWe
      have P5 := P4.below bW
      have K5 := K4.trans (KB.below bW)
      have HVC5 := Lib.hid (HVC4.out.below bW)
      simp only [wpPlan, inOrder, List.filterMap_cons, List.filterMap_nil, List.getElem?_cons_zero, List.getElem?_cons_succ]
      have q3 := fun z => (hold_ok (S0 := fun U => U.cell? ⟨g, 4, none⟩ = some (.slice (some ⟨s.bc, 0, none⟩) s.nc s.cc) ∧ U.cell? ⟨g6, 0, none⟩ = some v') hWW z).1
      have q4 := fun z => (hold_ok (S0 := fun U => U.cell? ⟨g, 4, none⟩ = some (.slice (some ⟨s.bc, 0, none⟩) s.nc s.cc) ∧ U.cell? ⟨g6, 0, none⟩ = some v') hWW z).2
      clear P4 K4 HVC4 bW c4 d6
      show wpQuiet _ _ _ _ (_ :: _ :: _ :: _ :: _ :: _ :: [_]) _
      repeat (go_big_quiet_step (fail))
      refine wpQuiet_nil ?_
      clear q3 q4 hWW
      have hiz : (Tryz.prog.info? 93).map (·.size) = some [v'].length := infoC
      have hxz := P5.v.c.x
      have hfit : c + [v'].length ≤ ccs.length := by have := HLV.out; simp; omega
      have h1c : ∀ u ∈ [v'], u.oneCell' = true := fun u hu => by simp at hu; subst hu; exact h1v
      show wpList _ _ _ [_] _ _
      go_wp2_with ((with_reducible refine wpList_store_part (off := c) (cs := [v']) hiz ?_ ?_ hxz hfit h1c ?_); (focus rfl); (focus rfl); intro w6 hB6 hg6c)
      rw [lay_one HLV.out] at hB6
      have P6 := P5.cset hg6c hB6 hcs HVC5.out
      rw [List.nil_append, setC_of HLL.out] at P6
      have K6 := K5.trans (KB.grownC hg6c)
      have HR := Lib.hid (show RefillAns w0 g s a c z w (.returned (.bool (decide (0 < nl)))) w6 from by
        obtain ⟨p1, p2, p3, p4, p5⟩ := HPUT.out
        refine ⟨_, rfl, ⟨_, _, _, P6, p1, p2, p3, p4, fun hb hc => ?_, fun hb => ?_, fun hb => ?_⟩, K6⟩
        · rw [p5] at hc
          have := of_decide_eq_true hb
          have h2 := HNL.out
          rw [List.reverse_eq_nil_iff.1 hc] at h2
          simp at h2
          omega
        · have h1 := of_decide_eq_false hb
          have h2 := HNL.out
          obtain rfl : l = [] := List.eq_nil_of_length_eq_zero (by omega)
          exact ⟨HNO.out rfl, by rw [p5]; rfl⟩
        · have h1 := of_decide_eq_true hb
          have h2 := HNL.out
          rcases HT.out.hd with ⟨_, e⟩ | ⟨f, r, e, hp⟩
          · subst e; simp at h2; omega
          · exact ⟨r.reverse, f, by rw [p5, e, List.reverse_cons], hp⟩)
      clear P5 K5 HVC5 hiz hxz hfit h1c hB6 hg6c P6 K6 HPUT HNL HNO
      refine ⟨trivial, NoPanic.normal ?_⟩
      simp only [Act.put]
      go_wp2
      go_ret
      exact HR.out
    | succ gg =>
      have hin : i < a.bt := by omega
      have HI := Lib.hid hi; have HLI := Lib.hid hli
      have hzb : z < b.zs.length := by rw [P1.v.ez]; exact hz
      have hvz : VZ y := by have := HT.out.v.vz z hzb; rw [HZN.out] at this; exact this
      have Q1 := P1.v.q
      have c3 := P1.c3
      have hal : Calls Tryz.prog 108 #[.agg (seg (lay zc (z * 10) cs0) (z * 10) 10).toArray, .int .i64 0] wr (AllocAns wr y 0) := alloc (.agg (seg (lay zc (z * 10) cs0) (z * 10) 10).toArray) y 0 wr ⟨_, rfl, Q1.row z y HY.out⟩ hvz (by omega)
      have HAL := Lib.hid hal
      have HVZ := Lib.hid hvz
      clear hi hli hvz hal
      go_wp2_with ((with_reducible refine ldq ?_ Q1 HY.out ?_); (focus rfl))
      refine HAL.out.mono ?_
      rintro e w2 ⟨b2, hA⟩
      have P2 := P1.below b2
      have K2 := K1.trans (KB.below b2)
      have O2 := O1.later b2
      have G2 := Lib.hid (grown_trans HG.out (grown_below b2))
      have HOB := Lib.hid (show ∀ k, u7.ownBlock = some k → k < wr.heap.size from fun k hk => (World.ownsRow.lt O1 k hk).2)
      clear P1 K1 O1 Q1 c3 HAL HG
      rcases hA with ⟨cs, f, fr, rfl, ⟨hzv, hlo⟩, hvd, _, hcf, hcv, hfi⟩ | ⟨hno, rfl⟩
      · have HVD := Lib.hid hvd; have HFI := Lib.hid hfi; have HCV := Lib.hid hcv; have HCF := Lib.hid (hcf f (In0.2 rfl)); have HLO := Lib.hid hlo; have HLO2 := Lib.hid (show Lo w0.heap.size cs from fun k a0 n0 c0 hk h3 => Nat.le_trans hw01 (hlo k a0 n0 c0 hk h3))
        have hcl := hzv.len
        have h1c := hzv.one
        have hz3 := Blk.new w2 102 #[.int .i64 0, .int .i64 0, .int .i64 0, .int .i64 0, .int .i64 0, .slice none 0 0, .slice none 0 0, .slice none 0 0, .slice none 0 0, .slice none 0 0] zP rfl
        clear b2 hvd hcf hcv hlo hfi
        go_upto_region 5 with ((with_reducible refine stZ (cs := cs) ?_ ?_ hz3 zP_len hcl h1c ?_); (focus rfl); (focus rfl); intro w4 hB4 hg4)
        have b4 : Below w2.heap.size w2 w4 := (below_box w2 (.cells #[.int .i64 0, .int .i64 0, .int .i64 0, .int .i64 0, .int .i64 0, .slice none 0 0, .slice none 0 0, .slice none 0 0, .slice none 0 0, .slice none 0 0] 102)).grown hg4 (below_box w2 _).size (fun k hk => by cases hk; exact Nat.le_refl _)
        have P4 := P2.below b4
        have O4 := O2.later b4
        have G4 := Lib.hid (grown_trans G2.out (grown_below b4))
        have ZV4 := hzv.below b4
        have hg8 : w2.heap.size ≠ s.bz := by have := P2.v.q.x.lt; omega
        have c3 := P4.c3
        obtain ⟨g8, hg8e⟩ : ∃ z, w2.heap.size = z := ⟨_, rfl⟩
        rw [hg8e] at hB4 hg8 ⊢
        clear hg8e P2 K2 O2 b4 hg4 hz3 hzv G2
        go_wp2_with fail
        refine wp_region_plan (fun U => U.cell? ⟨g, 3, none⟩ = some (.slice (some ⟨s.bz, 0, none⟩) s.nz s.cz) ∧ Blk U g8 102 cs) (.quiet [0, 1, 2, 3, 4, 5, 6] (.last 7)) 7 (by kernel_rfl) (by kernel_rfl) ⟨c3, hB4⟩ ?_
        intro W hWW hWe
        have bW : Below w4.heap.size w4 W := by rw [hWe]; exact (Below.refl _ _).drew
        clear hWe
        have P5 := P4.below bW
        have O5 := O4.later bW
        have G5 := Lib.hid (grown_trans G4.out (grown_below bW))
        have ZV5 := ZV4.below bW
        simp only [wpPlan, inOrder, List.filterMap_cons, List.filterMap_nil, List.getElem?_cons_zero, List.getElem?_cons_succ]
        have q3 := fun z => (hold_ok (S0 := fun U => U.cell? ⟨g, 3, none⟩ = some (.slice (some ⟨s.bz, 0, none⟩) s.nz s.cz) ∧ Blk U g8 102 cs) hWW z).1
        have q4 := fun z => (hold_ok (S0 := fun U => U.cell? ⟨g, 3, none⟩ = some (.slice (some ⟨s.bz, 0, none⟩) s.nz s.cz) ∧ Blk U g8 102 cs) hWW z).2
        clear P4 O4 ZV4 bW c3 hB4 G4
        show wpQuiet _ _ _ _ (_ :: _ :: _ :: _ :: _ :: _ :: [_]) _
        repeat (go_big_quiet_step (fail))
        go_big_quiet_want
        rename_i K hK
        refine quiet_run (v := .agg cs.toArray) (fun w' hw' => ?_) ?_
        · obtain ⟨u, rfl⟩ := hw'
          exact run_load_row rfl g8 rfl 102 cs.toArray (0, 0) _ (q4 u) Tryz.underlying102 rfl (by rw [infoZ]; simp [hcl])
        refine hK _ ?_
        clear hK K
        simp only [Act.put, List.setIfInBounds_toArray, List.set_cons_succ, List.set_cons_zero]
        repeat (go_big_quiet_step (fail))
        refine wpQuiet_nil ?_
        have hiz : (Tryz.prog.info? 102).map (·.size) = some cs.length := by rw [infoZ, hcl]
        have hxz := P5.v.q.x
        have hfit : z * 10 + cs.length ≤ (lay zc (z * 10) cs0).length := by rw [hcl, lay_len (by rw [HC0.out]; exact HZL.out)]; exact HZL.out
        clear q3 q4 hWW
        show wpList _ _ _ [_] _ _
        go_wp2_with ((with_reducible refine wpList_store_part (off := z * 10) (cs := cs) hiz ?_ ?_ hxz hfit h1c ?_); (focus rfl); (focus rfl); intro w6 hB6 hg6)
        rw [lay_lay (by rw [HC0.out]; exact HZL.out) (by rw [hcl, HC0.out])] at hB6
        have O6 := O5.kept hg6 (.inr (hxz.not_own O5 (by decide)))
        have ZV6 : ZV w6 cs { y with fr := fr } := ZV5.past fun q bs hq => hq.grown hg6 (by simpa using hxz.ne_type hq (by decide))
        have G6 := Lib.hid (grown_trans G5.out hg6)
        have ht6 := HT.out.next (by rw [P5.v.ez]; exact hz) HZN.out HVD.out HCF.out HCV.out HFI.out
        rw [HSS.out] at ht6
        have HT6 := Lib.hid ht6
        have bN := below_box w6 (.cells #[.int .i64 f] 3)
        have O7 := O6.later bN
        have B7 := hB6.later bN
        have ZV7 := ZV6.below bN
        have G7 := Lib.hid (grown_trans G6.out (grown_below bN))
        have hB7 := Blk.new w6 3 #[.int .i64 f] [.int .i64 f] rfl
        have hb7 := G7.out.size
        have hl9 : l.length ≤ 900000 := by rw [HLI.out]; omega
        have HSX := Lib.hid (show Sx cs { y with fr := fr } u7.ownBlock from fun k a0 n0 c0 hk h1 _ h3 => by
          have := HLO.out k a0 n0 c0 hk h1
          have := HOB.out a0.block h3.symm
          omega)
        clear P5 O5 ZV5 hiz hfit hB6 hg6 h1c hcl HVD HCV HCF HZN HY O6 bN hxz ZV6 G5 G6 ht6 HT HLO HOB HX HSS
        refine ⟨trivial, NoPanic.normal ?_⟩
        simp only [Act.put]
        go_wp2_with ((with_reducible refine wpList_app2 (base := w.heap.size) (b := w6.heap.size) (x := f) ?_ ?_ O7 hB7 hl9 hb7 ?_); (focus rfl); (focus rfl); intro v8 w8 O8 hg8o hk8)
        have ZV8 := ZV7.away HSX.out hg8o
        have B8 := B7.grown hg8o (B7.not_own O7 (by decide))
        have G8 : w.grownBy w8 (some s.bz) := ⟨hg8o.os.trans G7.out.os, hg8o.tape.trans G7.out.tape, hg8o.output.trans G7.out.output, Nat.le_trans G7.out.size hg8o.size, fun k hk hne => (hg8o.block k (Nat.lt_of_lt_of_le hk G7.out.size) (fun e => by have := (World.ownsRow.lt O7 k e.symm).1; omega)).trans (G7.out.block k hk hne)⟩
        have X8 : Sx cs { y with fr := fr } v8.ownBlock := fun k a0 n0 c0 hk h1 h0 h3 => by
          rcases hk8 a0.block h3.symm with h4 | h4
          · exact HSX.out k a0 n0 c0 hk h1 h0 h4.symm
          · have := ZV7.row_lt hk h1 h0; omega
        clear O7 B7 ZV7 G7 hB7 hb7 hl9 HSX hg8o hk8
        go_roundg gg
        case rel => exact ⟨i + 1, cs, _, l ++ [f], by have := HI.out; omega, by go_num, by rw [List.length_append, HLI.out]; rfl, O8, G8, B8, ZV8, X8, HT6.out, HLO2.out⟩
        case measure => omega
      · have hncb : ∀ x, ¬ Cov (F y.fr) x := fun x hx => by
          obtain ⟨k, hk, hm⟩ := (cov_at HVZ.out.l).1 hx
          rw [hno k (Nat.zero_le _) hk] at hm
          simp at hm
        have HLB := Lib.hid (show l.length ≤ a.bt by rw [HLI.out]; omega)
        have HNO := Lib.hid (show l = [] → ∀ x, ¬ Cov (F (zn a z).fr) x from fun h x hx => by
          have h1 := (HT.out.fr z x).2 ⟨.inl hx, fun h2 => by rw [h] at h2; simp at h2⟩
          rcases h1 with h1 | ⟨d, hd, hd2⟩
          · rw [HZN.out] at h1; exact hncb x h1
          · rw [HT.out.cs] at hd
            unfold lst at hd2
            rw [HT.out.cs] at hd2
            exact (HV.out.rg d z hd HZ.out x hd2).2 hx)
        have h1c := (ownZ_new w2 0 noZ).zv.one
        have hzl : (newC noZ).length = 10 := rfl
        have hz3 := Blk.new w2 102 #[.int .i64 0, .int .i64 0, .int .i64 0, .int .i64 0, .int .i64 0, .slice none 0 0, .slice none 0 0, .slice none 0 0, .slice none 0 0, .slice none 0 0] zP rfl
        clear b2 hno hncb G2
        go_upto_region 5 with ((with_reducible refine stZ (cs := newC noZ) ?_ ?_ hz3 zP_len hzl h1c ?_); (focus rfl); (focus rfl); intro w4 hB4 hg4)
        have b4 : Below w2.heap.size w2 w4 := (below_box w2 (.cells #[.int .i64 0, .int .i64 0, .int .i64 0, .int .i64 0, .int .i64 0, .slice none 0 0, .slice none 0 0, .slice none 0 0, .slice none 0 0, .slice none 0 0] 102)).grown hg4 (below_box w2 _).size (fun k hk => by cases hk; exact Nat.le_refl _)
        have P1 := P2.below b4
        have K1 := K2.trans (KB.below b4)
        have O1 := O2.later b4
        clear P2 K2 O2 b4 hB4 hg4 hz3 h1c hzl HY HZN HVZ HLI HI hzb HOB HX HSS
        have hcb : c < b.cs.length := by rw [HT.out.cs]; exact HCL.out
        have hcs : c < s.nc := by rw [← P1.v.ec]; exact hcb
        obtain ⟨L, hL⟩ := get_some (l := b.cs) rfl hcb
        have hLn : L.length = b.zs.length := HT.out.v.cl hL
        have hzb : z < b.zs.length := by rw [P1.v.ez]; exact hz
        obtain ⟨m, hm⟩ := get_some hLn hzb
        have hlst := lst_of hL hm
        have hlab : lst b c z = [] := by unfold lst; rw [HT.out.cs]; exact HE.out
        rw [hlab] at hlst
        subst hlst
        obtain ⟨v, hv, hLc⟩ := P1.v.c.row c L hL
        have dv : w4.cell? ⟨s.bc, c, none⟩ = some v := by rw [P1.v.c.x.cell]; exact hv
        have c4 := P1.c4
        have HLV := Lib.hid (lt_of hv); have HLL := Lib.hid hL
        have HPR := Lib.hid (pcrefill (.agg #[v]) L z [] u7 l w4 ⟨_, rfl, hLc⟩ (HT.out.v.vc hL) hm O1.sl (HT.out.adds hzb hL))
        have HPUT := Lib.hid (HT.out.put hzb hcb hlab (by rw [HT.out.s.hi]; have := HLB.out; have := HV.out.bh; omega))
        obtain ⟨a7, c7, hv7, _⟩ := own_form O1
        obtain ⟨nl, hnl⟩ : ∃ n, l.length = n := ⟨_, rfl⟩
        rw [hnl] at hv7
        subst hv7
        have hnl64 : nl ≤ 64 := by have := HLB.out; have := HV.out.bh; have := HV.out.h64; omega
        have HNL := Lib.hid hnl
        clear hLn hlab hL hm hv hLc O1 hnl hcb hzb
        go_wp2_with fail
        refine HPR.out.mono ?_
        rintro e w2 ⟨_, rfl, ⟨v', rfl, hv'⟩, b2⟩
        have P2 := P1.below b2
        have K2 := K1.trans (KB.below b2)
        have hv' := hv'.weaken P1.b.size
        obtain ⟨_, _, hvf, _⟩ := hv'.c.form
        have h1v : v'.oneCell' = true := by rw [hvf]; rfl
        have HVC := Lib.hid hv'
        have hz3 := Blk.new w2 93 #[.slice none 0 0] [.slice none 0 0] rfl
        clear P1 K1 b2 dv c4 HPR hvf hv'
        go_upto_region 10 with ((with_reducible refine stC (u := .slice none 0 0) (v := v') ?_ ?_ hz3 h1v ?_); (focus rfl); (focus rfl); intro w4 hB4 hg4)
        have b4 : Below w2.heap.size w2 w4 := (below_box w2 (.cells #[.slice none 0 0] 93)).grown hg4 (below_box w2 _).size (fun k hk => by cases hk; exact Nat.le_refl _)
        have P4 := P2.below b4
        have K4 := K2.trans (KB.below b4)
        have HVC4 := Lib.hid (HVC.out.below b4)
        have hg6 : w2.heap.size ≠ s.bc := by have := P2.v.c.x.lt; omega
        have c4 := P4.c4
        obtain ⟨g6, hg6e⟩ : ∃ z, w2.heap.size = z := ⟨_, rfl⟩
        rw [hg6e] at hB4 hg6 ⊢
        have d6 : w4.cell? ⟨g6, 0, none⟩ = some v' := by rw [hB4.cell]; rfl
        clear hg6e P2 K2 HVC b4 hg4 hz3 hB4
        go_upto_region 11 with fail
        refine wp_region_plan (fun U => U.cell? ⟨g, 4, none⟩ = some (.slice (some ⟨s.bc, 0, none⟩) s.nc s.cc) ∧ U.cell? ⟨g6, 0, none⟩ = some v') (.quiet [0, 1, 2, 3, 4, 5, 6] (.last 7)) 7 (by kernel_rfl) (by kernel_rfl) ⟨c4, d6⟩ ?_
        intro W hWW hWe
        have bW : Below w4.heap.size w4 W := by rw [hWe]; exact (Below.refl _ _).drew
        clear hWe
        have P5 := P4.below bW
        have K5 := K4.trans (KB.below bW)
        have HVC5 := Lib.hid (HVC4.out.below bW)
        simp only [wpPlan, inOrder, List.filterMap_cons, List.filterMap_nil, List.getElem?_cons_zero, List.getElem?_cons_succ]
        have q3 := fun z => (hold_ok (S0 := fun U => U.cell? ⟨g, 4, none⟩ = some (.slice (some ⟨s.bc, 0, none⟩) s.nc s.cc) ∧ U.cell? ⟨g6, 0, none⟩ = some v') hWW z).1
        have q4 := fun z => (hold_ok (S0 := fun U => U.cell? ⟨g, 4, none⟩ = some (.slice (some ⟨s.bc, 0, none⟩) s.nc s.cc) ∧ U.cell? ⟨g6, 0, none⟩ = some v') hWW z).2
        clear P4 K4 HVC4 bW c4 d6
        show wpQuiet _ _ _ _ (_ :: _ :: _ :: _ :: _ :: _ :: [_]) _
        repeat (go_big_quiet_step (fail))
        refine wpQuiet_nil ?_
        clear q3 q4 hWW
        have hiz : (Tryz.prog.info? 93).map (·.size) = some [v'].length := infoC
        have hxz := P5.v.c.x
        have hfit : c + [v'].length ≤ ccs.length := by have := HLV.out; simp; omega
        have h1c : ∀ u ∈ [v'], u.oneCell' = true := fun u hu => by simp at hu; subst hu; exact h1v
        show wpList _ _ _ [_] _ _
        go_wp2_with ((with_reducible refine wpList_store_part (off := c) (cs := [v']) hiz ?_ ?_ hxz hfit h1c ?_); (focus rfl); (focus rfl); intro w6 hB6 hg6c)
        rw [lay_one HLV.out] at hB6
        have P6 := P5.cset hg6c hB6 hcs HVC5.out
        rw [List.nil_append, setC_of HLL.out] at P6
        have K6 := K5.trans (KB.grownC hg6c)
        have HR := Lib.hid (show RefillAns w0 g s a c z w (.returned (.bool (decide (0 < nl)))) w6 from by
          obtain ⟨p1, p2, p3, p4, p5⟩ := HPUT.out
          refine ⟨_, rfl, ⟨_, _, _, P6, p1, p2, p3, p4, fun hb hc => ?_, fun hb => ?_, fun hb => ?_⟩, K6⟩
          · rw [p5] at hc
            have := of_decide_eq_true hb
            have h2 := HNL.out
            rw [List.reverse_eq_nil_iff.1 hc] at h2
            simp at h2
            omega
          · have h1 := of_decide_eq_false hb
            have h2 := HNL.out
            obtain rfl : l = [] := List.eq_nil_of_length_eq_zero (by omega)
            exact ⟨HNO.out rfl, by rw [p5]; rfl⟩
          · have h1 := of_decide_eq_true hb
            have h2 := HNL.out
            rcases HT.out.hd with ⟨_, e⟩ | ⟨f, r, e, hp⟩
            · subst e; simp at h2; omega
            · exact ⟨r.reverse, f, by rw [p5, e, List.reverse_cons], hp⟩)
        clear P5 K5 HVC5 hiz hxz hfit h1c hB6 hg6c P6 K6 HPUT HNL HNO
        refine ⟨trivial, NoPanic.normal ?_⟩
        simp only [Act.put]
        go_wp2
        go_ret
        exact HR.out
end Go.Proofs.YtdddkfpcbfgocaaGreat
namespace Go.Proofs.YtdddkfpcbfgocaaGreat
open Go.RowKit Go.Over Go.Zn Go.Can Go.Seg Go.Grow
/-- An allocator in a variable, beside a variable for the result. -/
structure AZ (w : World) (g gr : Nat) (s : Sh) (zc ccs : List Value) (a : A) (W : World) : Prop where
  x : AX w g s zc ccs a W
  z : Blk W gr 28 nilA
  l : w.heap.size ≤ gr
theorem AZ.below {w W W' : World} {g gr : Nat} {s : Sh} {zc ccs : List Value} {a : A} (h : AZ w g gr s zc ccs a W) (hb : Below W.heap.size W W') : AZ w g gr s zc ccs a W' := ⟨h.x.below hb, h.z.later hb, h.l⟩
theorem AZ.new {w : World} {s : Sh} {zc ccs : List Value} {a : A} (h : AW w s zc ccs a) : AZ w w.heap.size (w.heap.size + 1) s zc ccs a ((w.alloc (.cells (s.cells a.bt a.hi).toArray 28)).alloc (.cells #[.slice none 0 0, .int .i64 0, .int .i64 0, .slice none 0 0, .slice none 0 0] 28)) := by
  have hs : (w.alloc (.cells (s.cells a.bt a.hi).toArray 28)).heap.size = w.heap.size + 1 := by simp
  have hz := Blk.new (w.alloc (.cells (s.cells a.bt a.hi).toArray 28)) 28 #[.slice none 0 0, .int .i64 0, .int .i64 0, .slice none 0 0, .slice none 0 0] nilA rfl
  rw [hs] at hz
  exact ⟨(AX.new h).below (below_box _ _), hz, by omega⟩
/-- The copy of an allocator in a variable of its own. -/
theorem AP.start {w0 w W : World} {s : Sh} {zc ccs : List Value} {a : A} (hb : Below w0.heap.size w0 w) (hv : AW w s zc ccs a) (hlz : w0.heap.size ≤ s.bz) (hlc : w0.heap.size ≤ s.bc) (hf : AF w0.heap.size w s zc ccs) (hB : Blk W w.heap.size 28 (s.cells a.bt a.hi)) (hg : (w.alloc (.cells #[.slice none 0 0, .int .i64 0, .int .i64 0, .slice none 0 0, .slice none 0 0] 28)).grownBy W (some w.heap.size)) :
    AP w0 w.heap.size s zc ccs a W ∧ Below w.heap.size w W := by
  have b1 := below_box w (.cells #[.slice none 0 0, .int .i64 0, .int .i64 0, .slice none 0 0, .slice none 0 0] 28)
  have b4 : Below w.heap.size w W := b1.grown hg b1.size (fun k hk => by cases hk; exact Nat.le_refl _)
  exact ⟨⟨below_then hb b4, hb.size, hlz, hlc, hB, hv.below b4, hf.below b4⟩, b4⟩
/-- What a call gives that makes an allocator. -/
def AnsA (w : World) (R : A → Prop) (e : Ending) (w' : World) : Prop := ∃ v a', e = .returned v ∧ Ra w' v a' ∧ R a' ∧ Below w.heap.size w w'
/-- All caches are empty. -/
structure Drained (a b : A) : Prop where
  v : VA b
  s : Sa a b
  e : ∀ c z, c < a.cs.length → z < a.zs.length → lst b c z = []
  f : ∀ y x, Fr b y x ↔ Fr a y x
/-- .. up to a place. -/
structure Drd (a b : A) (c z : Nat) : Prop where
  v : VA b
  s : Sa a b
  e : ∀ d y, d < a.cs.length → y < a.zs.length → (d < c ∨ (d = c ∧ y < z)) → lst b d y = []
  f : ∀ y x, Fr b y x ↔ Fr a y x
theorem lst_cs {a b : A} (h : b.cs = a.cs) {c z : Nat} : lst b c z = lst a c z := by unfold lst; rw [h]
theorem Drd.next {a b d : A} {c z : Nat} (h : Drd a b c z) (hc : c < b.cs.length) (hz : z < b.zs.length) (hv : VA d) (hs : Sa b d) (he : d.cs = (setC b c z []).cs) (hf : ∀ y x, Fr d y x ↔ Fr b y x) : Drd a d c (z + 1) :=
  ⟨hv, h.s.trans hs, fun e y h1 h2 h3 => by
    rw [lst_cs he, lst_setC hc (h.v.lz hc hz)]
    by_cases e1 : e = c ∧ y = z
    · rw [if_pos e1]
    · rw [if_neg e1]
      refine h.e e y h1 h2 ?_
      rcases h3 with h3 | ⟨h3, h4⟩
      · exact .inl h3
      · exact .inr ⟨h3, by
          have : y ≠ z := fun h5 => e1 ⟨h3, h5⟩
          omega⟩, fun y x => (hf y x).trans (h.f y x)⟩
set_option maxRecDepth 100000 in set_option maxHeartbeats 3200000 in
theorem drainA (v : Value) (a : A) (w : World) (H : Ra w v a) (hV : VA a) : Calls Tryz.prog 15 #[v] w (AnsA w (Drained a)) := by
  have HV := Lib.hid hV
  clear hV
  obtain ⟨s, zc, ccs, rfl, hW⟩ := H
  have X0 := AZ.new hW
  clear hW
  go_enter Tryz.func15, Tryz.ntmps15
  go_upto_region 1 with fail
  obtain ⟨w1, hw1⟩ : ∃ W, W = (w.alloc (.cells (s.cells a.bt a.hi).toArray 28)).alloc (.cells #[.slice none 0 0, .int .i64 0, .int .i64 0, .slice none 0 0, .slice none 0 0] 28) := ⟨_, rfl⟩
  rw [← hw1] at X0 ⊢
  obtain ⟨gr, hgr⟩ : ∃ g, w.heap.size + 1 = g := ⟨_, rfl⟩
  obtain ⟨g, hg0⟩ : ∃ g, w.heap.size = g := ⟨_, rfl⟩
  have X1 : AZ w g gr s zc ccs a w1 := by rw [← hgr, ← hg0]; exact X0
  rw [hgr, hg0]
  clear hw1 X0 hg0 hgr
  have hnz6 : a.zs.length ≤ 6 := HV.out.z6
  have hnc4 : a.cs.length ≤ 4 := by rw [HV.out.nc]; exact HV.out.n4
  go_wp2_with ((with_reducible refine lda ?_ X1.x.x ?_); (focus rfl))
  refine (acheck _ a w1 X1.x.ra HV.out).mono ?_
  rintro e w2 ⟨rfl, b2⟩
  have X2 := X1.below b2
  clear X1 b2
  go_wp2_with ((with_reducible refine lda ?_ X2.x.x ?_); (focus rfl))
  refine (aclone _ a w2 X2.x.ra HV.out).mono ?_
  rintro e w5 ⟨t, zc5, ccs5, W5, rfl, hW5, hlz, hlc, b5, _, _, hf5⟩
  have X5 := X2.below b5
  have hz5 := Blk.new w5 28 #[.slice none 0 0, .int .i64 0, .int .i64 0, .slice none 0 0, .slice none 0 0] nilA rfl
  have hlz := Nat.le_trans X2.x.b.size hlz
  have hlc := Nat.le_trans X2.x.b.size hlc
  have hf5 := hf5.weaken X2.x.b.size
  clear X2 b5
  go_upto_region 4 with ((with_reducible refine stA (s := t) (bt := a.bt) (hi := a.hi) ?_ ?_ hz5 ?_ ?_); (focus rfl); (focus rfl); (focus rfl); intro w6 hB6 hg6)
  obtain ⟨P6, b6⟩ := AP.start X5.x.b hW5 hlz hlc hf5 hB6 hg6
  have Z6 := X5.z.later b6
  have hlr := X5.l
  obtain ⟨gp, hgp⟩ : ∃ z, w5.heap.size = z := ⟨_, rfl⟩
  rw [hgp] at P6 ⊢
  have D6 := Lib.hid (show Drd a a 0 0 from ⟨HV.out, Sa.refl a, fun d y _ _ h => by omega, fun _ _ => Iff.rfl⟩)
  clear hgp X5 hz5 hW5 hlz hlc hf5 hB6 hg6 b6
  have htc := Lib.hid P6.v.ec
  have htz := Lib.hid P6.v.ez
  rw [P6.v.ec] at hnc4
  rw [P6.v.ez] at hnz6
  have c4 := P6.c4
  go_wp2
  go_loopg [15] t.nc (fun gg v15 wr => ∃ (c : Nat) (zc ccs : List Value) (b : A), c + gg = t.nc ∧ v15 = .int .i64 c ∧ AP w gp t zc ccs b wr ∧ Blk wr gr 28 nilA ∧ Drd a b c 0)
  case atStart => exact ⟨0, _, _, a, by omega, rfl, P6, Z6, D6.out⟩
  case round =>
    clear P6 Z6 D6 c4
    obtain ⟨c, zc, ccs, b, hc, rfl, P7, Z7, D7⟩ := hrel
    have HD := Lib.hid D7
    clear D7
    cases gk with
    | zero =>
      have hcl : ¬ c < t.nc := by omega
      have HR := Lib.hid (show Drained a b from ⟨HD.out.v, HD.out.s, fun d y h1 h2 => HD.out.e d y h1 h2 (.inl (by rw [htc.out] at h1; omega)), HD.out.f⟩)
      clear hc
      go_wp2_with first | ((with_reducible refine lda ?_ P7.x ?_); (focus rfl)) | ((with_reducible refine stA (s := t) (bt := b.bt) (hi := b.hi) ?_ ?_ Z7 ?_ ?_); (focus rfl); (focus rfl); (focus rfl); intro w9 hB9 hg9)
      refine bodyPost_ret (resA rfl _ _ gr _ rfl hB9 rfl) rfl ?_
      have kp : ∀ {q t : Nat} {bs : List Value}, t ≠ 28 → Blk wr q t bs → Blk w9 q t bs := fun ht hq => hq.grown hg9 (by simpa using Z7.ne_type hq (Ne.symm ht))
      exact ⟨_, b, rfl, ⟨t, zc, ccs, rfl, P7.v.past (kp (by decide) P7.v.q.x) (kp (by decide) P7.v.c.x) (fun _ _ => kp (by decide)) (fun _ _ => kp (by decide))⟩, HR.out, P7.b.grown hg9 P7.b.size (fun q hq => by cases hq; exact hlr)⟩
    | succ gg =>
      have hcl : c < t.nc := by omega
      have HI := Lib.hid hc
      have c3 := P7.c3
      clear hc
      go_wp2
      go_loopg [21] t.nz (fun g2 v21 wj => ∃ (z : Nat) (zc ccs : List Value) (b : A), z + g2 = t.nz ∧ v21 = .int .i64 z ∧ AP w gp t zc ccs b wj ∧ Blk wj gr 28 nilA ∧ Drd a b c z)
      case atStart => exact ⟨0, zc, ccs, b, by omega, rfl, P7, Z7, HD.out⟩
      case round =>
        clear P7 Z7 HD c3
        obtain ⟨z, zc, ccs, b, hz, rfl, P8, Z8, D8⟩ := hrel
        have HD := Lib.hid D8
        clear D8
        cases gk with
        | zero =>
          have hzl : ¬ z < t.nz := by omega
          have HD2 := Lib.hid (show Drd a b (c + 1) 0 from ⟨HD.out.v, HD.out.s, fun d y h1 h2 h3 => HD.out.e d y h1 h2 (by
            rcases h3 with h3 | ⟨_, h3⟩
            · rcases Nat.lt_or_ge d c with h4 | h4
              · exact .inl h4
              · exact .inr ⟨by omega, by rw [htz.out] at h2; omega⟩
            · omega), HD.out.f⟩)
          clear hz
          go_wp2
          go_roundg gg
          case rel => exact ⟨c + 1, zc, ccs, b, by have := HI.out; omega, by go_num, P8, Z8, HD2.out⟩
          case measure => omega
        | succ g2 =>
          have hzl : z < t.nz := by omega
          have HZ := Lib.hid hz
          have hcb : c < b.cs.length := by rw [HD.out.s.nc, htc.out]; exact hcl
          have hzb : z < b.zs.length := by rw [HD.out.s.nz, htz.out]; exact hzl
          have HDR := Lib.hid (drain w gp t zc ccs b c z wr P8 HD.out.v hcb hzb)
          have HNX := Lib.hid (fun d => HD.out.next (d := d) hcb hzb)
          have n1 := Z8.ne_type P8.v.q.x (by decide)
          have n2 := Z8.ne_type P8.v.c.x (by decide)
          clear hz hcb hzb
          go_wp2_with fail
          refine HDR.out.mono ?_
          rintro e w9 ⟨rfl, ⟨zc', ccs', b', P9, V9, S9, E9, F9⟩, K9⟩
          have Z9 := K9 gr 28 nilA n1 n2 Z8
          have HD9 := Lib.hid (HNX.out b' V9 S9 E9 F9)
          clear P8 Z8 V9 S9 E9 F9 K9 HDR HNX HD
          go_wp2
          go_roundg g2
          case rel => exact ⟨z + 1, zc', ccs', b', by have := HZ.out; omega, by go_num, P9, Z9, HD9.out⟩
          case measure => omega
end Go.Proofs.YtdddkfpcbfgocaaGreat
namespace Go.Zn
open Go.Can
theorem setC_setC {a : A} {c z : Nat} {l m : List Int} (hc : c < a.cs.length) : setC (setC a c z l) c z m = setC a c z m := by
  have e : (setC a c z l).cs.getD c [] = (a.cs.getD c []).set z l := by
    show (a.cs.set c ((a.cs.getD c []).set z l)).getD c [] = _
    rw [getD_set hc, if_pos rfl]
  unfold setC at e ⊢
  simp only at e ⊢
  rw [e]
  congr 1
  apply List.ext_getElem?
  intro j
  by_cases h : j = c
  · subst h
    rw [List.getElem?_set_self (by simpa using hc), List.getElem?_set_self hc]
    congr 1
    apply List.ext_getElem?
    intro k
    by_cases h2 : k = z
    · subst h2
      by_cases hl : k < (a.cs.getD j []).length
      · rw [List.getElem?_set_self (by simpa using hl), List.getElem?_set_self hl]
      · rw [List.getElem?_eq_none (by simp at hl ⊢; omega), List.getElem?_eq_none (by simp at hl ⊢; omega)]
    · rw [List.getElem?_set_ne (Ne.symm h2), List.getElem?_set_ne (Ne.symm h2), List.getElem?_set_ne (Ne.symm h2)]
  · rw [List.getElem?_set_ne (Ne.symm h), List.getElem?_set_ne (Ne.symm h), List.getElem?_set_ne (Ne.symm h)]
/-- A frame is put into a list: some frames are kept, others are in hand. -/
theorem put_plain {a : A} {c z : Nat} {x : Int} {sp keep : List Int} (h : VA a) (hc : c < a.cs.length) (hz : z < a.zs.length) (hx : inZ (zn a z) x) (hn : ¬ Fr a z x) (he : lst a c z ++ [x] = sp ++ keep) (hk : keep.length ≤ a.hi) :
    VA (setC a c z keep) ∧ Sa a (setC a c z keep) ∧ Hand (setC a c z keep) z sp ∧ ∀ b, (∀ y q, Fr b y q ↔ Fr (setC a c z keep) y q ∨ (y = z ∧ q ∈ sp)) → ∀ y q, Fr b y q ↔ Fr a y q ∨ (y = z ∧ q = x) := by
  obtain ⟨v1, h1, f1⟩ := drain_list h hc hz
  have hc1 : c < (setC a c z []).cs.length := by simpa [setC] using hc
  have hl1 : lst (setC a c z []) c z = [] := by rw [lst_setC hc (h.lz hc hz), if_pos ⟨rfl, rfl⟩]
  have hx1 : ¬ Fr (setC a c z []) z x := fun hf => hn ((f1 z x).1 hf).1
  have hxl : x ∉ lst a c z := fun hm => hn (.inr ⟨c, hc, hm⟩)
  have hh : Hand (setC a c z []) z (sp ++ keep) := by
    rw [← he]
    refine ⟨List.nodup_append.2 ⟨h1.nd, by simp, fun u hu v hv e => ?_⟩, fun u hu => ?_⟩
    · obtain rfl := List.mem_singleton.1 hv
      subst e
      exact hxl hu
    · rcases List.mem_append.1 hu with hu | hu
      · exact h1.rg u hu
      · obtain rfl := List.mem_singleton.1 hu
        exact ⟨hx, hx1⟩
  have hnd := List.nodup_append.1 hh.nd
  have hk2 : Hand (setC a c z []) z keep := ⟨hnd.2.1, fun u hu => hh.rg u (List.mem_append.2 (.inr hu))⟩
  obtain ⟨v2, f2⟩ := cache_list v1 hc1 hz hk2 (l := keep) hnd.2.1 (fun q => by rw [hl1]; simp) hk
  rw [setC_setC hc] at v2 f2
  have hmem : ∀ q, q ∈ lst a c z ∨ q = x ↔ q ∈ sp ∨ q ∈ keep := fun q => by
    have : q ∈ lst a c z ++ [x] ↔ q ∈ sp ++ keep := by rw [he]
    simpa using this
  refine ⟨v2, Sa.setC, ⟨hnd.1, fun u hu => ⟨(hh.rg u (List.mem_append.2 (.inl hu))).1, fun hf => ?_⟩⟩, fun b hb y q => ?_⟩
  · rcases (f2 z u).1 hf with h3 | ⟨_, h3⟩
    · exact (hh.rg u (List.mem_append.2 (.inl hu))).2 h3
    · exact hnd.2.2 u hu u h3 rfl
  · rw [hb, f2, f1]
    constructor
    · rintro ((h3 | ⟨h3, h4⟩) | ⟨h3, h4⟩)
      · exact .inl h3.1
      · rcases (hmem q).2 (.inr h4) with h5 | h5
        · exact .inl (.inr ⟨c, hc, by rw [h3]; exact h5⟩)
        · exact .inr ⟨h3, h5⟩
      · rcases (hmem q).2 (.inl h4) with h5 | h5
        · exact .inl (.inr ⟨c, hc, by rw [h3]; exact h5⟩)
        · exact .inr ⟨h3, h5⟩
    · rintro (h3 | ⟨h3, h4⟩)
      · by_cases h5 : y = z ∧ q ∈ lst a c z
        · rcases (hmem q).1 (.inl h5.2) with h6 | h6
          · exact .inr ⟨h5.1, h6⟩
          · exact .inl (.inr ⟨h5.1, h6⟩)
        · exact .inl (.inl ⟨h3, h5⟩)
      · rcases (hmem q).1 (.inr h4) with h6 | h6
        · exact .inr ⟨h3, h6⟩
        · exact .inl (.inr ⟨h3, h6⟩)
end Go.Zn
namespace Go.Proofs.YtdddkfpcbfgocaaGreat
open Go.RowKit Go.Over Go.Zn Go.Can Go.Seg Go.Grow
/-- What a call gives that makes an allocator, and no error. -/
def AnsE (w : World) (R : A → Prop) (e : Ending) (w' : World) : Prop := ∃ v a', e = .returned (.tuple #[v, .int .i64 0]) ∧ Ra w' v a' ∧ R a' ∧ Below w.heap.size w w'
/-- One frame more is free. -/
structure More (a : A) (z : Nat) (x : Int) (b : A) : Prop where
  v : VA b
  s : Sa a b
  f : ∀ y q, Fr b y q ↔ Fr a y q ∨ (y = z ∧ q = x)
/-- What the call of Put reads. -/
def CF (g : Nat) (s : Sh) (c bt hi : Nat) (v : Value) (U : World) : Prop := U.cell? ⟨g, 4, none⟩ = some (.slice (some ⟨s.bc, 0, none⟩) s.nc s.cc) ∧ U.cell? ⟨s.bc, c, none⟩ = some v ∧ U.cell? ⟨g, 1, none⟩ = some (.int .i64 bt) ∧ U.cell? ⟨g, 2, none⟩ = some (.int .i64 hi)
theorem AP.cf {w0 W : World} {g : Nat} {s : Sh} {zc ccs : List Value} {a : A} {c : Nat} {v : Value} (h : AP w0 g s zc ccs a W) (hv : ccs[c]? = some v) : CF g s c a.bt a.hi v W := ⟨h.c4, by rw [h.v.c.x.cell]; exact hv, h.c1, h.c2⟩
set_option maxRecDepth 100000 in set_option maxHeartbeats 3200000 in
theorem freeA (v : Value) (a : A) (c z : Nat) (x : Int) (w : World) (H : Ra w v a) (hV : VA a) (hc : c < a.cs.length) (hz : z < a.zs.length) (hx : inZ (zn a z) x) (hn : ¬ Fr a z x) : Calls Tryz.prog 11 #[v, .int .i64 c, .int .i64 x] w (AnsE w (More a z x)) := by
  have HV := Lib.hid hV; have HC := Lib.hid hc; have HZ := Lib.hid hz; have HX := Lib.hid hx; have HN := Lib.hid hn
  have hzi := hV.zoneI hz hx
  have hx01 := hV.inr hz hx
  have HZO := Lib.hid (fun W v' (h : Ra W v' a) => by
    have := zoneof v' a x W h (fun z' hz' => by
      obtain ⟨i', hi'⟩ := List.getElem?_of_mem hz'
      have := hV.vz i' (lt_of hi'); rw [zn_of hi'] at this; exact this.r) hV.z6
    rw [hzi] at this
    exact this)
  have hnc := hV.nc
  clear hV hx hn hzi
  obtain ⟨s, zc, ccs, rfl, hW⟩ := H
  have X0 := AZ.new hW
  clear hW
  go_enter Tryz.func11, Tryz.ntmps11
  go_upto_region 1 with fail
  obtain ⟨w1, hw1⟩ : ∃ W, W = (w.alloc (.cells (s.cells a.bt a.hi).toArray 28)).alloc (.cells #[.slice none 0 0, .int .i64 0, .int .i64 0, .slice none 0 0, .slice none 0 0] 28) := ⟨_, rfl⟩
  rw [← hw1] at X0 ⊢
  obtain ⟨gr, hgr⟩ : ∃ g, w.heap.size + 1 = g := ⟨_, rfl⟩
  obtain ⟨g, hg0⟩ : ∃ g, w.heap.size = g := ⟨_, rfl⟩
  have X1 : AZ w g gr s zc ccs a w1 := by rw [← hgr, ← hg0]; exact X0
  rw [hgr, hg0]
  clear hw1 X0 hg0 hgr
  go_wp2_with ((with_reducible refine lda ?_ X1.x.x ?_); (focus rfl))
  refine (acheck _ a w1 X1.x.ra HV.out).mono ?_
  rintro e w2 ⟨rfl, b2⟩
  have X2 := X1.below b2
  clear X1 b2
  go_wp2_with ((with_reducible refine lda ?_ X2.x.x ?_); (focus rfl))
  refine (HZO.out w2 _ X2.x.ra).mono ?_
  rintro e w3 ⟨rfl, b3⟩
  have X3 := X2.below b3
  have c0 := X3.x.c0
  have hcn : c < s.nn := by rw [← X3.x.v.en, ← hnc]; exact HC.out
  have t1 : decide ((s.nn : Int) ≤ (c : Int)) = false := by simp; omega
  have t2 : decide ((z : Int) < 0) = false := by simp
  clear X2 b3 HZO hnc
  go_wp2_with ((with_reducible refine lda ?_ X3.x.x ?_); (focus rfl))
  refine (afree _ a z x w3 X3.x.ra HV.out HZ.out HX.out).mono ?_
  rintro e w4 ⟨⟨b, rfl, hb⟩, b4⟩
  have hbf : b = false := by
    cases b with
    | false => rfl
    | true => exact absurd (hb.1 rfl) HN.out
  subst hbf
  have X4 := X3.below b4
  clear X3 b4 c0 t1 t2 hb hcn
  go_wp2_with ((with_reducible refine lda ?_ X4.x.x ?_); (focus rfl))
  refine (aclone _ a w4 X4.x.ra HV.out).mono ?_
  rintro e w5 ⟨t, zc5, ccs5, W5, rfl, hW5, hlz, hlc, b5, _, _, hf5⟩
  have X5 := X4.below b5
  have hz5 := Blk.new w5 28 #[.slice none 0 0, .int .i64 0, .int .i64 0, .slice none 0 0, .slice none 0 0] nilA rfl
  have hlz := Nat.le_trans X4.x.b.size hlz
  have hlc := Nat.le_trans X4.x.b.size hlc
  have hf5 := hf5.weaken X4.x.b.size
  clear X4 b5
  go_upto_region 10 with ((with_reducible refine stA (s := t) (bt := a.bt) (hi := a.hi) ?_ ?_ hz5 ?_ ?_); (focus rfl); (focus rfl); (focus rfl); intro w6 hB6 hg6)
  obtain ⟨P6, b6⟩ := AP.start X5.x.b hW5 hlz hlc hf5 hB6 hg6
  have Z6 := X5.z.later b6
  have hlr := X5.l
  obtain ⟨gp, hgp⟩ : ∃ z, w5.heap.size = z := ⟨_, rfl⟩
  rw [hgp] at P6 ⊢
  clear hgp X5 hz5 hW5 hlz hlc hf5 hB6 hg6 b6
  simp only [Act.put]
  have hct : c < t.nc := by rw [← P6.v.ec]; exact HC.out
  obtain ⟨L, hL⟩ := get_some P6.v.ec hct
  have hLn : L.length = a.zs.length := HV.out.cl hL
  obtain ⟨l, hl⟩ := get_some hLn HZ.out
  have hle := lst_of hL hl
  obtain ⟨v6, hv6, hLc⟩ := P6.v.c.row c L hL
  have HPP := Lib.hid (fun W (h : Lc W v6 L) => pcput (.agg #[v6]) L z l x a.bt a.hi W ⟨_, rfl, h⟩ (HV.out.vc hL) hl hx01.1 hx01.2 (fun hm => by
    obtain ⟨y, m, hm1, hm2⟩ := mem_flat.1 hm
    obtain ⟨q1, _, _, q2⟩ := HV.out.at_ hL hm1
    obtain rfl := HV.out.zdis q1 HZ.out (q2 x hm2).1 HX.out
    exact HN.out (.inr ⟨c, HC.out, by rw [lst_of hL hm1]; exact hm2⟩)) HV.out.b1 HV.out.bh HV.out.h64 (HV.out.at_ hL hl).2.1)
  have HLV := Lib.hid (lt_of hv6); have HLl := Lib.hid hl; have HV6 := Lib.hid hv6; have HLL := Lib.hid hL; have HLE := Lib.hid hle; have HLC := Lib.hid hLc
  clear hLn hL hl hle hv6 hLc
  refine wp_region_plan (CF gp t c a.bt a.hi v6) (.quiet [0, 1, 2, 3, 4, 5, 6, 7, 8, 9, 10] (.fork 11 (.quiet [12, 13, 14, 15] (.only 16 (.only 17 (.quiet [18, 19] .done)))) 16 (.only 11 (.quiet [12, 13, 14, 15] (.only 17 (.quiet [18, 19] .done)))))) 99 (by kernel_rfl) (by kernel_rfl) (P6.cf HV6.out) ?_
  intro W hWW hWe
  have bW : Below w6.heap.size w6 W := by rw [hWe]; exact (Below.refl _ _).drew
  clear hWe
  have P7 := P6.below bW
  have Z7 := Z6.later bW
  have HLC7 := Lib.hid (HLC.out.below bW)
  simp only [wpPlan, inOrder, List.filterMap_cons, List.filterMap_nil, List.getElem?_cons_zero, List.getElem?_cons_succ]
  have q1 := fun z => (hold_ok (S0 := CF gp t c a.bt a.hi v6) hWW z).1
  have q2 := fun z => (hold_ok (S0 := CF gp t c a.bt a.hi v6) hWW z).2.1
  have q3 := fun z => (hold_ok (S0 := CF gp t c a.bt a.hi v6) hWW z).2.2.1
  have q4 := fun z => (hold_ok (S0 := CF gp t c a.bt a.hi v6) hWW z).2.2.2
  clear P6 Z6 bW HLC
  show wpQuiet _ _ _ _ (_ :: _ :: _ :: _ :: _ :: _ :: _ :: _ :: _ :: _ :: [_]) _
  repeat (go_big_quiet_step (fail))
  refine wpQuiet_nil ?_
  clear q1 q2 q3 q4 hWW
  refine ⟨?_, ?_⟩
  · show wpList _ _ _ [_] _ _
    go_wp2_with fail
    refine (HPP.out W HLC7.out).mono ?_
    rintro e w8 ⟨_, vs, sp, keep, rfl, ⟨v', rfl, hv'⟩, hsp, hk1, hk2, b8⟩
    have P8 := P7.below b8
    have hz9 := Blk.new w8 93 #[.slice none 0 0] [.slice none 0 0] rfl
    have b9 := below_box w8 (.cells #[.slice none 0 0] 93)
    have P9 := P8.below b9
    have hv9 := hv'.below b9
    have hsp9 := hsp.below b9
    have bb := below_then b8 b9
    have hgW := b8.size
    go_wp2
    refine ⟨hold_of (P8.cf HV6.out), ?_⟩
    show wpQuiet _ _ _ _ (_ :: _ :: _ :: [_]) _
    repeat (go_big_quiet_step (fail))
    refine wpQuiet_nil ?_
    show wpList _ _ _ [_] _ _
    go_wp2
    refine ⟨hold_of (P9.cf HV6.out), ?_⟩
    obtain ⟨w9, hw9⟩ : ∃ W, W = w8.alloc (.cells #[.slice none 0 0] 93) := ⟨_, rfl⟩
    obtain ⟨gk, hgk⟩ : ∃ g, w8.heap.size = g := ⟨_, rfl⟩
    rw [← hw9] at hz9 hv9 hsp9 bb ⊢
    rw [hgk] at hz9 hgW ⊢
    clear hw9 hgk P8 P9 hv' hsp b8 b9 HLC7 HPP
    obtain ⟨_, _, hvf, _⟩ := hv9.c.form
    have h1v : v'.oneCell' = true := by rw [hvf]; rfl
    clear hvf
    show wpList _ _ _ [_] _ _
    go_wp2_with ((with_reducible refine stC (u := .slice none 0 0) (v := v') ?_ ?_ hz9 h1v ?_); (focus rfl); (focus rfl); intro w10 hB10 hg10)
    have kp : ∀ {q t : Nat} {bs : List Value}, t ≠ 93 → Blk w9 q t bs → Blk w10 q t bs := fun ht hq => hq.grown hg10 (by simpa using hz9.ne_type hq (Ne.symm ht))
    have hsp10 := hsp9.past fun _ _ => kp (by decide)
    have hv10 : LF w10 w.heap.size v' (L.set z keep) := (hv9.grown hz9 (by decide) (by decide) hg10).weaken P7.b.size
    have b10 : Below W.heap.size W w10 := bb.grown hg10 bb.size (fun k hk => by cases hk; exact hgW)
    have P10 := P7.below b10
    have Z10 := Z7.later b10
    have hgc : gk ≠ t.bc := by have := P7.v.c.x.lt; omega
    have d10 : w10.cell? ⟨gk, 0, none⟩ = some v' := by rw [hB10.cell]; rfl
    clear kp hg10 bb b10 P7 Z7 hz9 hv9 hsp9 hgW hgc
    refine ⟨hold_of (P10.cf HV6.out), ?_⟩
    simp only [Act.put]
    show wpQuiet _ _ _ _ (_ :: [_]) _
    repeat (go_big_quiet_step (fail))
    refine wpQuiet_nil ?_
    refine NoPanic.normal ?_
    have hiz : (Tryz.prog.info? 93).map (·.size) = some [v'].length := infoC
    have hxz := P10.v.c.x
    have hfit : c + [v'].length ≤ ccs5.length := by have := HLV.out; simp; omega
    have h1c : ∀ u ∈ [v'], u.oneCell' = true := fun u hu => by simp at hu; subst hu; exact h1v
    have c4 := P10.c4
    have HH := Lib.hid hv10; have HSP := Lib.hid hsp10
    have HK := Lib.hid (And.intro hk1 hk2)
    clear hv10 hsp10 hk1 hk2
    go_wp2_with ((with_reducible refine wpList_store_part (off := c) (cs := [v']) hiz ?_ ?_ hxz hfit h1c ?_); (focus rfl); (focus rfl); intro w11 hB11 hg11)
    rw [lay_one HLV.out] at hB11
    have P11 := P10.cset hg11 hB11 hct HH.out
    rw [setC_of HLL.out] at P11
    have S11 := HSP.out.past (P10.b3 (KB.grownC hg11))
    have Z11 : Blk w11 gr 28 nilA := Z10.grown hg11 (by simpa using Ne.symm (Z10.ne_type hxz (by decide)))
    have hsl : sp.length ≤ 256 := by
      have h1 := (HV.out.vc HLL.out).len HLl.out
      have h2 := congrArg List.length HK.out.1
      have h3 := HV.out.bh; have h4 := HV.out.h64; have h5 := (HV.out.at_ HLL.out HLl.out).2.1
      simp at h2; omega
    obtain ⟨v1, s1, h1, f1⟩ := put_plain HV.out HC.out HZ.out HX.out HN.out (sp := sp) (keep := keep) (by rw [HLE.out]; exact HK.out.1) HK.out.2
    have HG := Lib.hid (give w gp t _ _ (setC a c z keep) z sp vs w11 P11 v1 (by rw [s1.nz]; exact HZ.out) h1 S11 hsl)
    have n1 := Z11.ne_type P11.v.q.x (by decide)
    have n2 := Z11.ne_type P11.v.c.x (by decide)
    have HF := Lib.hid f1; have HS := Lib.hid s1
    clear P10 Z10 hiz hxz hfit h1c hB11 hg11 P11 S11 v1 s1 h1 f1 HH HSP HK d10 c4
    go_wp2_with fail
    refine HG.out.mono ?_
    rintro e w12 ⟨rfl, ⟨zc12, a12, P12, V12, A12, E12, F12⟩, K12⟩
    have Z12 := K12 gr 28 nilA n1 n2 Z11
    have HR := Lib.hid (show More a z x a12 from ⟨V12, HS.out.trans A12, HF.out a12 F12⟩)
    clear V12 A12 E12 F12 HG Z11 n1 n2 K12
    go_wp2_with first | ((with_reducible refine lda ?_ P12.x ?_); (focus rfl)) | ((with_reducible refine stA (s := t) (bt := a12.bt) (hi := a12.hi) ?_ ?_ Z12 ?_ ?_); (focus rfl); (focus rfl); (focus rfl); intro w13 hB13 hg13)
    refine bodyPost_ret (resA1 rfl _ _ gr _ _ rfl hB13 rfl rfl) rfl ?_
    have kp : ∀ {q t : Nat} {bs : List Value}, t ≠ 28 → Blk w12 q t bs → Blk w13 q t bs := fun ht hq => hq.grown hg13 (by simpa using Z12.ne_type hq (Ne.symm ht))
    exact ⟨_, a12, rfl, ⟨t, _, _, rfl, P12.v.past (kp (by decide) P12.v.q.x) (kp (by decide) P12.v.c.x) (fun _ _ => kp (by decide)) (fun _ _ => kp (by decide))⟩, HR.out, P12.b.grown hg13 P12.b.size (fun q hq => by cases hq; exact hlr)⟩
  · show wpList _ _ _ [_] _ _
    have hz9 := Blk.new W 93 #[.slice none 0 0] [.slice none 0 0] rfl
    have b9 := below_box W (.cells #[.slice none 0 0] 93)
    have P9 := P7.below b9
    have hv9 := HLC7.out.below b9
    go_wp2
    refine ⟨hold_of (P9.cf HV6.out), ?_⟩
    obtain ⟨w8, hw8⟩ : ∃ U, U = W.alloc (.cells #[.slice none 0 0] 93) := ⟨_, rfl⟩
    obtain ⟨gk, hgk⟩ : ∃ g, W.heap.size = g := ⟨_, rfl⟩
    have hgW : W.heap.size ≤ gk := by omega
    rw [← hw8] at hz9 hv9 b9 P9 ⊢
    rw [hgk] at hz9 ⊢
    clear hw8 hgk
    show wpList _ _ _ [_] _ _
    go_wp2_with fail
    refine (HPP.out w8 hv9).mono ?_
    rintro e w9 ⟨_, vs, sp, keep, rfl, ⟨v', rfl, hv'⟩, hsp9, hk1, hk2, b8⟩
    have P8 := P9.below b8
    have bb := below_then b9 b8
    have hz9 := hz9.later b8
    go_wp2
    refine ⟨hold_of (P8.cf HV6.out), ?_⟩
    show wpQuiet _ _ _ _ (_ :: _ :: _ :: [_]) _
    repeat (go_big_quiet_step (fail))
    refine wpQuiet_nil ?_
    have hv9 := hv'.weaken b9.size
    clear P8 P9 hv' b8 b9 HLC7 HPP
    obtain ⟨_, _, hvf, _⟩ := hv9.c.form
    have h1v : v'.oneCell' = true := by rw [hvf]; rfl
    clear hvf
    show wpList _ _ _ [_] _ _
    go_wp2_with ((with_reducible refine stC (u := .slice none 0 0) (v := v') ?_ ?_ hz9 h1v ?_); (focus rfl); (focus rfl); intro w10 hB10 hg10)
    have kp : ∀ {q t : Nat} {bs : List Value}, t ≠ 93 → Blk w9 q t bs → Blk w10 q t bs := fun ht hq => hq.grown hg10 (by simpa using hz9.ne_type hq (Ne.symm ht))
    have hsp10 := hsp9.past fun _ _ => kp (by decide)
    have hv10 : LF w10 w.heap.size v' (L.set z keep) := (hv9.grown hz9 (by decide) (by decide) hg10).weaken P7.b.size
    have b10 : Below W.heap.size W w10 := bb.grown hg10 bb.size (fun k hk => by cases hk; exact hgW)
    have P10 := P7.below b10
    have Z10 := Z7.later b10
    have hgc : gk ≠ t.bc := by have := P7.v.c.x.lt; omega
    have d10 : w10.cell? ⟨gk, 0, none⟩ = some v' := by rw [hB10.cell]; rfl
    clear kp hg10 bb b10 P7 Z7 hz9 hv9 hsp9 hgW hgc
    refine ⟨hold_of (P10.cf HV6.out), ?_⟩
    simp only [Act.put]
    show wpQuiet _ _ _ _ (_ :: [_]) _
    repeat (go_big_quiet_step (fail))
    refine wpQuiet_nil ?_
    refine NoPanic.normal ?_
    have hiz : (Tryz.prog.info? 93).map (·.size) = some [v'].length := infoC
    have hxz := P10.v.c.x
    have hfit : c + [v'].length ≤ ccs5.length := by have := HLV.out; simp; omega
    have h1c : ∀ u ∈ [v'], u.oneCell' = true := fun u hu => by simp at hu; subst hu; exact h1v
    have c4 := P10.c4
    have HH := Lib.hid hv10; have HSP := Lib.hid hsp10
    have HK := Lib.hid (And.intro hk1 hk2)
    clear hv10 hsp10 hk1 hk2
    go_wp2_with ((with_reducible refine wpList_store_part (off := c) (cs := [v']) hiz ?_ ?_ hxz hfit h1c ?_); (focus rfl); (focus rfl); intro w11 hB11 hg11)
    rw [lay_one HLV.out] at hB11
    have P11 := P10.cset hg11 hB11 hct HH.out
    rw [setC_of HLL.out] at P11
    have S11 := HSP.out.past (P10.b3 (KB.grownC hg11))
    have Z11 : Blk w11 gr 28 nilA := Z10.grown hg11 (by simpa using Ne.symm (Z10.ne_type hxz (by decide)))
    have hsl : sp.length ≤ 256 := by
      have h1 := (HV.out.vc HLL.out).len HLl.out
      have h2 := congrArg List.length HK.out.1
      have h3 := HV.out.bh; have h4 := HV.out.h64; have h5 := (HV.out.at_ HLL.out HLl.out).2.1
      simp at h2; omega
    obtain ⟨v1, s1, h1, f1⟩ := put_plain HV.out HC.out HZ.out HX.out HN.out (sp := sp) (keep := keep) (by rw [HLE.out]; exact HK.out.1) HK.out.2
    have HG := Lib.hid (give w gp t _ _ (setC a c z keep) z sp vs w11 P11 v1 (by rw [s1.nz]; exact HZ.out) h1 S11 hsl)
    have n1 := Z11.ne_type P11.v.q.x (by decide)
    have n2 := Z11.ne_type P11.v.c.x (by decide)
    have HF := Lib.hid f1; have HS := Lib.hid s1
    clear P10 Z10 hiz hxz hfit h1c hB11 hg11 P11 S11 v1 s1 h1 f1 HH HSP HK d10 c4
    go_wp2_with fail
    refine HG.out.mono ?_
    rintro e w12 ⟨rfl, ⟨zc12, a12, P12, V12, A12, E12, F12⟩, K12⟩
    have Z12 := K12 gr 28 nilA n1 n2 Z11
    have HR := Lib.hid (show More a z x a12 from ⟨V12, HS.out.trans A12, HF.out a12 F12⟩)
    clear V12 A12 E12 F12 HG Z11 n1 n2 K12
    go_wp2_with first | ((with_reducible refine lda ?_ P12.x ?_); (focus rfl)) | ((with_reducible refine stA (s := t) (bt := a12.bt) (hi := a12.hi) ?_ ?_ Z12 ?_ ?_); (focus rfl); (focus rfl); (focus rfl); intro w13 hB13 hg13)
    refine bodyPost_ret (resA1 rfl _ _ gr _ _ rfl hB13 rfl rfl) rfl ?_
    have kp : ∀ {q t : Nat} {bs : List Value}, t ≠ 28 → Blk w12 q t bs → Blk w13 q t bs := fun ht hq => hq.grown hg13 (by simpa using Z12.ne_type hq (Ne.symm ht))
    exact ⟨_, a12, rfl, ⟨t, _, _, rfl, P12.v.past (kp (by decide) P12.v.q.x) (kp (by decide) P12.v.c.x) (fun _ _ => kp (by decide)) (fun _ _ => kp (by decide))⟩, HR.out, P12.b.grown hg13 P12.b.size (fun q hq => by cases hq; exact hlr)⟩
end Go.Proofs.YtdddkfpcbfgocaaGreat
