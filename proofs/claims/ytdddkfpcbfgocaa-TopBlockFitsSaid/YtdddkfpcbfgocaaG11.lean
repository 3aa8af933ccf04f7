/- Walks: the statement on drained caches. -/
import Derived.Test.YtdddkfpcbfgocaaG9
import Derived.Test.YtdddkfpcbfgocaaG10
namespace Go.Zn
open Go.Can
/-- The frames from st on, n of them, that nobody holds. -/
def frL (hs : List Bool) (st : Int) (n : Nat) : List Int := (cov st n).filter fun x => !(hs.getD x.toNat false)
theorem mem_frL {hs : List Bool} {st x : Int} {n : Nat} : x ∈ frL hs st n ↔ (st ≤ x ∧ x < st + n) ∧ hs.getD x.toNat false = false := by
  unfold frL
  rw [List.mem_filter, mem_cov]
  simp
theorem frL_next {hs : List Bool} {st : Int} {n : Nat} : frL hs st (n + 1) = if hs.getD (st + n).toNat false = true then frL hs st n else frL hs st n ++ [st + n] := by
  have e : ∀ x : Int, List.filter (fun x : Int => !(hs.getD x.toNat false)) [x] = if hs.getD x.toNat false = true then [] else [x] := fun x => by
    rw [List.filter_cons, List.filter_nil]
    cases hs.getD x.toNat false <;> rfl
  unfold frL
  rw [cov_snoc, List.filter_append, e]
  split <;> simp
theorem cov_asc : ∀ {n : Nat} {f : Int}, List.Pairwise (· < ·) (cov f n)
  | 0, f => by simp [cov]
  | n + 1, f => by
    rw [cov, List.pairwise_cons]
    exact ⟨fun x hx => by have := (mem_cov.1 hx).1; omega, cov_asc⟩
theorem frL_asc {hs : List Bool} {st : Int} {n : Nat} : List.Pairwise (· < ·) (frL hs st n) := cov_asc.sublist List.filter_sublist
theorem frL_len {hs : List Bool} {st : Int} {n : Nat} : (frL hs st n).length ≤ n := by
  have := List.length_filter_le (fun x : Int => !(hs.getD x.toNat false)) (cov st n)
  rw [cov_len] at this
  exact this
end Go.Zn
namespace Go.Proofs.Ytdddkfpcbfgocaa
open Go.RowKit Go.Over Go.Zn Go.Can Go.Seg Go.Grow
/-- In a drained allocator the lists of a zone cover what nobody holds. -/
theorem _root_.Go.Zn.HI.cov {a d : A} {hs : List Bool} (h : HI a hs) (hd : Drained a d) {z : Nat} (hz : z < d.zs.length) {x : Int} : x ∈ frL hs (zn d z).st (zn d z).ct.toNat ↔ Cov (F (zn d z).fr) x := by
  have hv := hd.v.vz z hz
  have hct := hv.r.ct0
  have hz' : z < a.zs.length := by rw [← hd.s.nz]; exact hz
  have hfc : Fr d z x ↔ Cov (F (zn d z).fr) x := by
    constructor
    · rintro (h1 | ⟨c, hc, hm⟩)
      · exact h1
      · rw [hd.s.nc] at hc
        rw [hd.e c z hc hz'] at hm
        cases hm
    · exact .inl
  rw [mem_frL, ← hfc, hd.f]
  constructor
  · rintro ⟨h1, h2⟩
    have hx : inZ (zn a z) x := hd.s.inZ.1 (by unfold inZ; omega)
    exact (h.f z x hz' hx).2 h2
  · intro h1
    have hx := h.v.fr_in hz' h1
    have hx' := hd.s.inZ.2 hx
    unfold inZ at hx'
    exact ⟨by omega, (h.f z x hz' hx).1 h1⟩
theorem Ops.len {w : World} {oa : Option Addr} {os : List FOp} (h : Ops w oa os) {w' : World} (hb : Below w.heap.size w w') : Ops w' oa os := h.below hb
set_option maxRecDepth 100000 in set_option maxHeartbeats 3200000 in
theorem drained (mc : List Value) (th : Bool) (oa : Option Addr) (os : List FOp) (n c : Nat) (w : World) (H : MV mc th) (hO : Ops w oa os) (hn : os.length = n) (hmc : mc.length = 11) : Calls Try.prog 3 #[.agg mc.toArray, .slice oa n c] w fun e w' => e = .returned (.bool true) ∧ Below w.heap.size w w' := by
  have b1 := below_box w (.cells mc.toArray 25)
  have x1 := Blk.new w 25 mc.toArray mc rfl
  have HM := Lib.hid H; have HN := Lib.hid hn; have HO := Lib.hid hO
  clear H hn hO
  go_enter Try.func3, Try.ntmps3
  go_upto_region 1 with fail
  obtain ⟨w1, hw1⟩ : ∃ W, W = w.alloc (.cells mc.toArray 25) := ⟨_, rfl⟩
  rw [← hw1] at b1 x1 ⊢
  obtain ⟨gm, hgm⟩ : ∃ g, w.heap.size = g := ⟨_, rfl⟩
  rw [hgm] at x1 ⊢
  clear hw1
  go_wp2_with fail
  refine (awake w1).mono ?_
  rintro e w2 ⟨rfl, b2⟩
  replace x1 := x1.later b2
  replace b1 := below_then b1 b2
  clear b2 hgm
  by_cases h40 : n ≤ 40
  · have t40 : decide ((40 : Int) < (n : Int)) = false := by simp; omega
    go_upto_region 3 with fail
    go_wp2_with ((with_reducible refine ldM ?_ x1 hmc ?_); (focus rfl))
    refine (script mc th oa os n c w2 HM.out (HO.out.below b1) HN.out hmc h40).mono ?_
    rintro e w4 ⟨s, zc, ccs, a, hs, rfl, W4, hI, b4⟩
    have HH := Lib.hid hI
    have bw4 := below_then b1 b4
    obtain ⟨h64, hh⟩ : ∃ a : Array Value, a = #[.bool false, .bool false, .bool false, .bool false, .bool false, .bool false, .bool false, .bool false, .bool false, .bool false, .bool false, .bool false, .bool false, .bool false, .bool false, .bool false, .bool false, .bool false, .bool false, .bool false, .bool false, .bool false, .bool false, .bool false, .bool false, .bool false, .bool false, .bool false, .bool false, .bool false, .bool false, .bool false, .bool false, .bool false, .bool false, .bool false, .bool false, .bool false, .bool false, .bool false, .bool false, .bool false, .bool false, .bool false, .bool false, .bool false, .bool false, .bool false, .bool false, .bool false, .bool false, .bool false, .bool false, .bool false, .bool false, .bool false, .bool false, .bool false, .bool false, .bool false, .bool false, .bool false, .bool false, .bool false] := ⟨_, rfl⟩
    have hh' : h64 = (hvs (List.replicate 64 false)).toArray := by rw [hh]; rfl
    have s5 : (w4.alloc (.cells #[.slice none 0 0, .int .i64 0, .int .i64 0, .slice none 0 0, .slice none 0 0] 32)).heap.size = w4.heap.size + 1 := by simp
    have hz5 := (Blk.new w4 32 #[.slice none 0 0, .int .i64 0, .int .i64 0, .slice none 0 0, .slice none 0 0] nilA rfl).later (below_box (w4.alloc (.cells #[.slice none 0 0, .int .i64 0, .int .i64 0, .slice none 0 0, .slice none 0 0] 32)) (.cells h64 33))
    have hz6 := Blk.new (w4.alloc (.cells #[.slice none 0 0, .int .i64 0, .int .i64 0, .slice none 0 0, .slice none 0 0] 32)) 33 h64 _ hh'
    have b5 := below_then (below_box w4 (.cells #[.slice none 0 0, .int .i64 0, .int .i64 0, .slice none 0 0, .slice none 0 0] 32)) (below_box (w4.alloc (.cells #[.slice none 0 0, .int .i64 0, .int .i64 0, .slice none 0 0, .slice none 0 0] 32)) (.cells h64 33))
    rw [hh] at hz5 hz6 b5
    rw [s5] at hz6
    have hl64 : (hvs hs).length = 64 := by rw [hvs_len, HH.out.l]
    clear hI b1 b4 x1 t40 hh hh' s5
    go_upto_region 4 with first | ((with_reducible refine stA (s := s) (bt := a.bt) (hi := a.hi) ?_ ?_ hz5 rfl ?_); (focus rfl); (focus rfl); intro w6 hB6 hg6; have hz7 := hz6.grown hg6 (by simp)) | ((with_reducible refine stH (hs := hs) ?_ ?_ hz7 rfl HH.out.l ?_); (focus rfl); (focus rfl); intro w7 hB7 hg7)
    have b6 := b5.grown hg6 b5.size (fun k hk => by cases hk; exact Nat.le_refl _)
    have b7 := b6.grown hg7 b6.size (fun k hk => by cases hk; omega)
    have A7 := hB6.grown hg7 (by simp)
    have W7 := W4.below b7
    have bw7 := below_then bw4 b7
    obtain ⟨g5, hg5⟩ : ∃ g, w4.heap.size = g := ⟨_, rfl⟩
    obtain ⟨g6, hg6'⟩ : ∃ g, w4.heap.size + 1 = g := ⟨_, rfl⟩
    rw [hg6'] at hB7 ⊢
    rw [hg5] at A7 ⊢
    clear b5 b6 b7 hg6 hg7 hB6 hz5 hz6 hz7 W4 bw4 hg5 hg6' h64
    have HDR := Lib.hid (drainA (.agg (s.cells a.bt a.hi).toArray) a w7 ⟨s, zc, ccs, rfl, W7⟩ HH.out.v)
    go_upto_region 6 with fail
    go_wp2_with ((with_reducible refine lda ?_ A7 ?_); (focus rfl))
    refine HDR.out.mono ?_
    rintro e w8 ⟨v8, d, rfl, ⟨s8, zc8, ccs8, rfl, W8⟩, hD, b8⟩
    have HD := Lib.hid hD
    have A8 := A7.later b8
    have H8 := hB7.later b8
    have bw8 := below_then bw7 b8
    have hnz : s8.nz = s.nz := by rw [← W8.ez, ← W7.ez, hD.s.nz]
    have hnz2 : 2 ≤ s.nz := by rw [← W7.ez]; exact HH.out.n2
    have hnz6 : s.nz ≤ 6 := by rw [← W7.ez]; exact HH.out.v.z6
    have hz8 := Blk.new w8 32 #[.slice none 0 0, .int .i64 0, .int .i64 0, .slice none 0 0, .slice none 0 0] nilA rfl
    have b9 := below_box w8 (.cells #[.slice none 0 0, .int .i64 0, .int .i64 0, .slice none 0 0, .slice none 0 0] 32)
    clear HDR hD b8 A7 hB7 bw7 W7
    go_upto_region 7 with ((with_reducible refine stA (s := s8) (bt := d.bt) (hi := d.hi) ?_ ?_ hz8 rfl ?_); (focus rfl); (focus rfl); intro w10 hB10 hg10)
    have b10 : Below w8.heap.size w8 w10 := b9.grown hg10 b9.size (fun k hk => by cases hk; exact Nat.le_refl _)
    have W10 := W8.below b10
    have A10 := A8.later b10
    have H10 := H8.later b10
    have bw10 := below_then bw8 b10
    obtain ⟨g8, hg8⟩ : ∃ g, w8.heap.size = g := ⟨_, rfl⟩
    rw [hg8] at hB10 ⊢
    have c5 : w10.cell? ⟨g5, 3, none⟩ = some (.slice (some ⟨s.bz, 0, none⟩) s.nz s.cz) := by rw [A10.cell]; rfl
    have c8 : w10.cell? ⟨g8, 3, none⟩ = some (.slice (some ⟨s8.bz, 0, none⟩) s8.nz s8.cz) := by rw [hB10.cell]; rfl
    have HZ := Lib.hid (show d.zs.length = s8.nz from W10.ez)
    have hbz : ∃ g, s8.bz = g := ⟨_, rfl⟩
    rw [hnz] at c8 HZ
    have Q10 := W10.q
    obtain ⟨nz, hnzz⟩ : ∃ n, s.nz = n := ⟨_, rfl⟩
    rw [hnzz] at c8 c5 HZ hnz2 hnz6
    have tn : decide ((nz : Int) < 2) = false := by simp; omega
    clear W8 A8 H8 bw8 b9 b10 hz8 hg10 hg8 hnz hnzz W10 A10 hB10
    go_upto_region 9 with fail
    clear c5 tn
    have HH10 := Lib.hid H10
    have HQ10 := Lib.hid Q10
    clear H10 Q10
    go_wp2
    go_loopg [50] nz (fun gg v50 wr => ∃ i : Nat, i + gg = nz ∧ v50 = .int .i64 i ∧ Below w10.heap.size w10 wr)
    case atStart => exact ⟨0, by omega, rfl, Below.refl _ _⟩
    case round =>
      clear c8
      obtain ⟨i, hi, rfl, bR⟩ := hrel
      cases gk with
      | zero =>
        have hin : ¬ i < nz := by omega
        have bF := below_then bw10 bR
        clear hi bR bw10
        go_wp2
        go_ret
        exact ⟨rfl, bF⟩
      | succ gg =>
        have hin : i < nz := by omega
        have HI := Lib.hid hi
        obtain ⟨z, hz⟩ := get_some HZ.out hin
        have HZN := Lib.hid (show zn d i = z from zn_of hz)
        have HZZ := Lib.hid hz
        have hzv := HD.out.v.vz i (by rw [HZ.out]; exact hin)
        rw [HZN.out] at hzv
        have hze : z.st + z.ct ≤ 64 := by
          have := HH.out.e i (by rw [← HD.out.s.nz, HZ.out]; exact hin)
          rw [← (HD.out.s.par i).st, ← (HD.out.s.par i).ct, HZN.out] at this
          exact this
        have r1 := hzv.r.st0; have r2 := hzv.r.ct0
        have HV := Lib.hid hzv
        have QR := HQ10.out.below bR
        have VR := QR.row i z hz
        have h1c := VR.one
        have hzR := Blk.new wr 39 #[.int .i64 0, .int .i64 0, .int .i64 0, .int .i64 0, .int .i64 0, .slice none 0 0, .slice none 0 0, .slice none 0 0, .slice none 0 0, .slice none 0 0] zP rfl
        have b11 := below_box wr (.cells #[.int .i64 0, .int .i64 0, .int .i64 0, .int .i64 0, .int .i64 0, .slice none 0 0, .slice none 0 0, .slice none 0 0, .slice none 0 0, .slice none 0 0] 39)
        clear hi hz hzv
        go_upto_region 12 with first | ((with_reducible refine ldq ?_ QR HZZ.out ?_); (focus rfl)) | ((with_reducible refine stZ (cs := seg zc8 (i * 10) 10) ?_ ?_ hzR zP_len VR.len h1c ?_); (focus rfl); (focus rfl); intro w12 hB12 hg12)
        have b12 : Below wr.heap.size wr w12 := b11.grown hg12 b11.size (fun k hk => by cases hk; exact Nat.le_refl _)
        have V12 := VR.below b12
        have b13 := below_then bR b12
        obtain ⟨g10, hg10⟩ : ∃ g, wr.heap.size = g := ⟨_, rfl⟩
        rw [hg10] at hB12 ⊢
        obtain ⟨cs, hcs⟩ : ∃ cs, seg zc8 (i * 10) 10 = cs := ⟨_, rfl⟩
        rw [hcs] at hB12 V12 h1c
        clear QR VR hzR b11 hg12 b12 hg10 bR hcs
        have c2 := V12.c2 hB12
        have c3 := V12.c3 hB12
        obtain ⟨m, hm⟩ : ∃ m : Nat, z.ct = (m : Int) := ⟨z.ct.toNat, by omega⟩
        obtain ⟨S, hS⟩ : ∃ S : Nat, z.st = (S : Int) := ⟨z.st.toNat, by omega⟩
        have HM := Lib.hid hm; have HS := Lib.hid hS
        rw [hm] at r2 hze c3
        rw [hS] at r1 hze c2
        clear hm hS
        have t1 : decide ((S : Int) < 0) = false := by simp
        have t2 : decide ((m : Int) < 1) = false := by simp; omega
        have t3 : decide ((64 : Int) < (S : Int) + (m : Int)) = false := by simp; omega
        go_upto_region 14 with fail
        clear t1 t2 t3
        go_wp2
        go_loopg [11, 12] m (fun g2 v11 v12 wj => ∃ j : Nat, j + g2 = m ∧ v12 = .int .i64 ((S : Int) + (j : Int)) ∧ Below w12.heap.size w12 wj ∧ Own wj w12.heap.size v11 (frL hs (S : Int) j))
        case atStart => exact ⟨0, by omega, by go_num, Below.refl _ _, Own.nil _ _⟩
        case round =>
          obtain ⟨j, hj, rfl, bJ, OJ⟩ := hrel
          have c2 := cell_later bJ c2
          have c3 := cell_later bJ c3
          cases gk with
          | zero =>
            obtain rfl : j = m := by omega
            have tj : decide ((S : Int) + (j : Int) < (S : Int) + (j : Int)) = false := by simp
            have SJ := OJ.sl
            have hBJ := hB12.later bJ
            have VJ := V12.below bJ
            have HCV := Lib.hid (fun x => HH.out.cov HD.out (z := i) (by rw [HZ.out]; exact hin) (x := x))
            have HBU := Lib.hid (build (.agg cs.toArray) z u11 (frL hs (S : Int) j) wr ⟨cs, rfl, VJ⟩ HV.out.r SJ frL_asc (fun x hx => by
              have := (mem_frL.1 hx).1
              unfold inZ
              rw [HS.out, HM.out]
              exact this))
            clear hj OJ SJ
            go_upto_region 20 with fail
            clear tj c2 c3
            go_wp2_with ((with_reducible refine ld ?_ hBJ VJ.len ?_); (focus rfl))
            refine HBU.out.mono ?_
            rintro e w14 ⟨ds, fr, rfl, hOZ, hv, hcv, b14⟩
            have HSM := Lib.hid (show ∀ k, k < 5 → fr k = z.fr k from vd_uniq hv HV.out.l fun x => by
              have := HCV.out x
              rw [HZN.out, HS.out, HM.out, Int.toNat_natCast] at this
              exact (hcv x).trans this)
            have UZ := hOZ.zv
            have h1d := UZ.one
            have hB14 := hBJ.later b14
            have V14 := VJ.below b14
            have b15 := below_then b13 (below_then bJ b14)
            have hz14 := Blk.new w14 39 #[.int .i64 0, .int .i64 0, .int .i64 0, .int .i64 0, .int .i64 0, .slice none 0 0, .slice none 0 0, .slice none 0 0, .slice none 0 0, .slice none 0 0] zP rfl
            have b16 := below_box w14 (.cells #[.int .i64 0, .int .i64 0, .int .i64 0, .int .i64 0, .int .i64 0, .slice none 0 0, .slice none 0 0, .slice none 0 0, .slice none 0 0, .slice none 0 0] 39)
            clear hOZ hv hcv HBU hBJ VJ bJ b14 HCV
            go_upto_region 21 with ((with_reducible refine stZ (cs := ds) ?_ ?_ hz14 zP_len UZ.len h1d ?_); (focus rfl); (focus rfl); intro w17 hB17 hg17)
            have b17 : Below w14.heap.size w14 w17 := b16.grown hg17 b16.size (fun k hk => by cases hk; exact Nat.le_refl _)
            have U17 := UZ.below b17
            have V17 := V14.below b17
            have hB18 := hB14.later b17
            have b18 := below_then b15 b17
            obtain ⟨g13, hg13⟩ : ∃ g, w14.heap.size = g := ⟨_, rfl⟩
            rw [hg13] at hB17 ⊢
            have HSA := Lib.hid (sameZone (.agg ds.toArray) (.agg cs.toArray) { z with fr := fr } z w17 ⟨ds, rfl, U17⟩ ⟨cs, rfl, V17⟩ rfl rfl rfl rfl rfl HSM.out)
            clear UZ V14 hB14 b15 hz14 b16 b17 hg17 hg13
            go_wp2_with first | ((with_reducible refine ldg ?_ ?_ hB17 U17.len ?_); (focus rfl); (focus rfl)) | ((with_reducible refine ldg ?_ ?_ hB18 V17.len ?_); (focus rfl); (focus rfl))
            refine HSA.out.mono ?_
            rintro e w19 ⟨rfl, b19⟩
            have b20 := below_then b18 b19
            clear U17 V17 hB17 hB18 b18 b19 HSA
            go_wp2
            go_roundg gg
            case rel => exact ⟨i + 1, by have := HI.out; omega, by go_num, b20⟩
            case measure => omega
          | succ g2 =>
            have hjm : j < m := by omega
            have tj : decide ((S : Int) + (j : Int) < (S : Int) + (m : Int)) = true := by simp; omega
            have hq64 : S + j < 64 := by omega
            have hH := (HH10.out.below b13 (by have := HH10.out.lt; omega)).below bJ (by have := HH10.out.lt; have := b13.size; omega)
            have hd : wr.cell? ⟨g6, S + j, none⟩ = some (.bool (hs.getD (S + j) false)) := by rw [hH.cell]; exact hvs_get (by rw [HH.out.l]; exact hq64)
            have HNX := frL_next (hs := hs) (st := (S : Int)) (n := j)
            rw [show ((S : Int) + (j : Int)).toNat = S + j by omega] at HNX
            have HJ := Lib.hid hj
            obtain ⟨hb, hhb⟩ : ∃ b, hs.getD (S + j) false = b := ⟨_, rfl⟩
            rw [hhb] at hd HNX
            have hix : ∃ q : Nat, q = S + j ∧ (S : Int) + (j : Int) = (q : Int) := ⟨S + j, rfl, by omega⟩
            clear hhb hH hj
            cases hb with
            | true =>
              rw [if_pos rfl] at HNX
              have HNX := Lib.hid HNX
              go_wp2
              go_roundg g2
              case rel => exact ⟨j + 1, by have := HJ.out; omega, by go_num, bJ, by rw [HNX.out]; exact OJ⟩
              case measure => omega
            | false =>
              rw [if_neg (by decide)] at HNX
              have HNX := Lib.hid HNX
              have bN := below_box wr (.cells #[.int .i64 ((S : Int) + (j : Int))] 3)
              have O8 := OJ.later bN
              have hB8 := Blk.new wr 3 #[.int .i64 ((S : Int) + (j : Int))] [.int .i64 ((S : Int) + (j : Int))] rfl
              have hlen : (frL hs (S : Int) j).length ≤ 900000 := by have := frL_len (hs := hs) (st := (S : Int)) (n := j); omega
              have b8 := below_then bJ bN
              have hsz := b8.size
              have d2 := cell_later bN c2
              have d3 := cell_later bN c3
              go_upto_region 17 with ((with_reducible refine wpList_app1 (base := w12.heap.size) (b := wr.heap.size) (x := (S : Int) + (j : Int)) ?_ ?_ O8 hB8 hlen hsz ?_); (focus rfl); (focus rfl); intro v9 w9 O9 hg9)
              have b9 : Below w12.heap.size w12 w9 := b8.grown hg9 b8.size (fun k hk => (World.ownsRow.lt O8 k hk).1)
              clear bN O8 hB8 hlen b8 hsz d2 d3 hg9 c2 c3
              go_wp2
              go_roundg g2
              case rel => exact ⟨j + 1, by have := HJ.out; omega, by go_num, b9, by rw [HNX.out]; exact O9⟩
              case measure => omega
  · have t40 : decide ((40 : Int) < (n : Int)) = true := by simp; omega
    clear h40
    go_wp2_with fail
    refine (awake w2).mono ?_
    rintro e w3 ⟨rfl, b3⟩
    have b4 := below_then b1 b3
    clear b1 b3 x1
    go_wp2
    go_ret
    exact ⟨rfl, b4⟩
end Go.Proofs.Ytdddkfpcbfgocaa
