/- Walks: the statement on blocks that fit. -/
import Derived.Test.YtdddkfpcbfgocaaG11
namespace Go.Zn
open Go.Can
/-- The first multiple of W from S on, and how many blocks of W frames lie behind it. -/
def fzA (S W : Nat) : Nat := (S + W - 1) / W * W
def rnds (S m W : Nat) : Nat := (S + m - fzA S W) / W
def P2 (W : Nat) : Prop := W = 1 ∨ W = 2 ∨ W = 4 ∨ W = 8 ∨ W = 16
theorem P2.of {k : Nat} (hk : k < 5) : P2 (2 ^ k) := by
  rcases (show k = 0 ∨ k = 1 ∨ k = 2 ∨ k = 3 ∨ k = 4 by omega) with rfl | rfl | rfl | rfl | rfl <;> simp [P2]
theorem P2.pos {W : Nat} (h : P2 W) : 1 ≤ W ∧ W ≤ 16 := by unfold P2 at h; omega
theorem rnds_iff {S m W q : Nat} (h : P2 W) : fzA S W + W * q + W ≤ S + m ↔ q < rnds S m W := by
  unfold rnds fzA
  rcases h with rfl | rfl | rfl | rfl | rfl <;> omega
theorem fzA_up {S W : Nat} (h : P2 W) : fzA S W ≤ S + W := by
  unfold fzA
  rcases h with rfl | rfl | rfl | rfl | rfl <;> omega
theorem rnds_le {S m W q : Nat} (h : P2 W) (hq : q ≤ rnds S m W) : fzA S W + W * q ≤ S + m + W := by
  unfold rnds fzA at *
  rcases h with rfl | rfl | rfl | rfl | rfl <;> omega
theorem fzA_lo {S W : Nat} (h : P2 W) : S ≤ fzA S W := by
  unfold fzA
  rcases h with rfl | rfl | rfl | rfl | rfl <;> omega
theorem grid {W : Nat} (h : P2 W) {S m : Nat} {P : Nat → Prop} : (∃ f : Nat, S ≤ f ∧ f + W ≤ S + m ∧ f % W = 0 ∧ P f) ↔ ∃ q, q < rnds S m W ∧ P (fzA S W + W * q) := by
  constructor
  · rintro ⟨f, h1, h2, h3, h4⟩
    have key : ∃ q, f = fzA S W + W * q := by
      unfold fzA
      rcases h with rfl | rfl | rfl | rfl | rfl
      · exact ⟨f - (S + 1 - 1) / 1 * 1, by omega⟩
      · exact ⟨(f - (S + 2 - 1) / 2 * 2) / 2, by omega⟩
      · exact ⟨(f - (S + 4 - 1) / 4 * 4) / 4, by omega⟩
      · exact ⟨(f - (S + 8 - 1) / 8 * 8) / 8, by omega⟩
      · exact ⟨(f - (S + 16 - 1) / 16 * 16) / 16, by omega⟩
    obtain ⟨q, rfl⟩ := key
    exact ⟨q, (rnds_iff h).1 h2, h4⟩
  · rintro ⟨q, h1, h2⟩
    refine ⟨_, Nat.le_trans (fzA_lo h) (Nat.le_add_right _ _), (rnds_iff h).2 h1, ?_, h2⟩
    unfold fzA
    rcases h with rfl | rfl | rfl | rfl | rfl <;> omega
/-- Nobody holds a frame of a block. -/
def opn (hs : List Bool) (f W : Nat) : Prop := ∀ r, r < W → hs.getD (f + r) false = false
end Go.Zn
namespace Go.Proofs.Ytdddkfpcbfgocaa
open Go.RowKit Go.Over Go.Zn Go.Can Go.Seg Go.Grow

theorem _root_.Go.Zn.HI.cnt {a : A} {hs : List Bool} (h : HI a hs) {z S m : Nat} (hz : z < a.zs.length) (hS : (zn a z).st = (S : Int)) (hm : (zn a z).ct = (m : Int)) : cntA a z = (frL hs (S : Int) m).length := by
  rw [cnt_fr h.v hz, hS, hm, Int.toNat_natCast]
  refine (nS_of (cov_nodup.sublist List.filter_sublist) (fun x => ?_) fun x hx => ?_).symm
  · show x ∈ frL hs (S : Int) m ↔ _
    rw [mem_frL]
    constructor
    · rintro ⟨h1, h2⟩
      exact (h.f z x hz (by unfold inZ; omega)).2 h2
    · intro h1
      have hx := h.v.fr_in hz h1
      have hx' := hx
      unfold inZ at hx'
      exact ⟨by omega, (h.f z x hz hx).1 h1⟩
  · have := h.v.fr_in hz hx
    unfold inZ at this
    omega
/-- Where a block fits. -/
theorem _root_.Go.Zn.HI.fit {a : A} {hs : List Bool} (h : HI a hs) {z S m k W : Nat} (hk : k < 5) (hW : W = 2 ^ k) (hz : z < a.zs.length) (hS : (zn a z).st = (S : Int)) (hm : (zn a z).ct = (m : Int)) :
    fits a k z ↔ (W : Int) ≤ ((frL hs (S : Int) m).length : Int) - (zn a z).mn ∧ ∃ q, q < rnds S m W ∧ opn hs (fzA S W + W * q) W := by
  have hp : pw k = (W : Int) := by unfold pw; rw [hW]
  have hP : P2 W := by rw [hW]; exact P2.of hk
  unfold fits
  rw [h.cnt hz hS hm, hp, hS, hm]
  refine and_congr Iff.rfl (Iff.trans ⟨?_, ?_⟩ (grid hP (P := fun f => opn hs f W)))
  · rintro ⟨f, ⟨_, h1, h2, h3⟩, h4⟩
    rw [hp] at h2 h3
    obtain ⟨g, rfl⟩ : ∃ g : Nat, f = (g : Int) := ⟨f.toNat, by omega⟩
    refine ⟨g, by omega, by omega, by exact_mod_cast h3, fun r hr => ?_⟩
    have hx : In (g : Int) k ((g + r : Nat) : Int) := by unfold In; rw [hp]; omega
    have := (h.f z _ hz (by unfold inZ; rw [hS, hm]; omega)).1 (h4 _ hx)
    rwa [Int.toNat_natCast] at this
  · rintro ⟨g, h1, h2, h3, h4⟩
    refine ⟨(g : Int), ⟨by omega, by omega, by rw [hp]; omega, by rw [hp]; exact_mod_cast h3⟩, fun x hx => ?_⟩
    unfold In at hx
    rw [hp] at hx
    obtain ⟨y, rfl⟩ : ∃ y : Nat, x = (y : Int) := ⟨x.toNat, by omega⟩
    refine (h.f z _ hz (by unfold inZ; rw [hS, hm]; omega)).2 ?_
    rw [Int.toNat_natCast]
    have := h4 (y - g) (by omega)
    rwa [show g + (y - g) = y by omega] at this
set_option maxRecDepth 100000 in set_option maxHeartbeats 3200000 in
theorem fitsL (o : Int) (mc : List Value) (th : Bool) (oa : Option Addr) (os : List FOp) (n c : Nat) (w : World) (H : MV mc th) (hO : Ops w oa os) (hn : os.length = n) (hmc : mc.length = 11) (o0 : 0 ≤ o) (o1 : o < 256) : Calls Try.prog 4 #[.agg mc.toArray, .slice oa n c, .int .u8 o] w fun e w' => e = .returned (.bool true) ∧ Below w.heap.size w w' := by
  have b1 := below_box w (.cells mc.toArray 25)
  have x1 := Blk.new w 25 mc.toArray mc rfl
  have HM := Lib.hid H; have HN := Lib.hid hn; have HO := Lib.hid hO
  clear H hn hO
  go_enter Try.func4, Try.ntmps4
  go_upto_region 1 with fail
  obtain ⟨w1, hw1⟩ : ∃ W, W = w.alloc (.cells mc.toArray 25) := ⟨_, rfl⟩
  rw [← hw1] at b1 x1 ⊢
  obtain ⟨gm, hgm⟩ : ∃ g, w.heap.size = g := ⟨_, rfl⟩
  rw [hgm] at x1 ⊢
  clear hw1
  go_wp2_with fail
  refine (awake w1).mono ?_
  rintro e w2 ⟨rfl, b2⟩
  replace x1 := x1.later b2
  replace b1 := below_then b1 b2
  clear b2 hgm
  by_cases h40 : n ≤ 40
  · have t40 : decide ((40 : Int) < (n : Int)) = false := by simp; omega
    go_upto_region 3 with fail
    go_wp2_with ((with_reducible refine ldM ?_ x1 hmc ?_); (focus rfl))
    refine (script mc th oa os n c w2 HM.out (HO.out.below b1) HN.out hmc h40).mono ?_
    rintro e w4 ⟨s, zc, ccs, a, hs, rfl, W4, hI, b4⟩
    have HH := Lib.hid hI
    have bw4 := below_then b1 b4
    obtain ⟨h64, hh⟩ : ∃ a : Array Value, a = #[.bool false, .bool false, .bool false, .bool false, .bool false, .bool false, .bool false, .bool false, .bool false, .bool false, .bool false, .bool false, .bool false, .bool false, .bool false, .bool false, .bool false, .bool false, .bool false, .bool false, .bool false, .bool false, .bool false, .bool false, .bool false, .bool false, .bool false, .bool false, .bool false, .bool false, .bool false, .bool false, .bool false, .bool false, .bool false, .bool false, .bool false, .bool false, .bool false, .bool false, .bool false, .bool false, .bool false, .bool false, .bool false, .bool false, .bool false, .bool false, .bool false, .bool false, .bool false, .bool false, .bool false, .bool false, .bool false, .bool false, .bool false, .bool false, .bool false, .bool false, .bool false, .bool false, .bool false, .bool false] := ⟨_, rfl⟩
    have hh' : h64 = (hvs (List.replicate 64 false)).toArray := by rw [hh]; rfl
    have s5 : (w4.alloc (.cells #[.slice none 0 0, .int .i64 0, .int .i64 0, .slice none 0 0, .slice none 0 0] 32)).heap.size = w4.heap.size + 1 := by simp
    have hz5 := (Blk.new w4 32 #[.slice none 0 0, .int .i64 0, .int .i64 0, .slice none 0 0, .slice none 0 0] nilA rfl).later (below_box (w4.alloc (.cells #[.slice none 0 0, .int .i64 0, .int .i64 0, .slice none 0 0, .slice none 0 0] 32)) (.cells h64 33))
    have hz6 := Blk.new (w4.alloc (.cells #[.slice none 0 0, .int .i64 0, .int .i64 0, .slice none 0 0, .slice none 0 0] 32)) 33 h64 _ hh'
    have b5 := below_then (below_box w4 (.cells #[.slice none 0 0, .int .i64 0, .int .i64 0, .slice none 0 0, .slice none 0 0] 32)) (below_box (w4.alloc (.cells #[.slice none 0 0, .int .i64 0, .int .i64 0, .slice none 0 0, .slice none 0 0] 32)) (.cells h64 33))
    rw [hh] at hz5 hz6 b5
    rw [s5] at hz6
    have hl64 : (hvs hs).length = 64 := by rw [hvs_len, HH.out.l]
    clear hI b1 b4 x1 t40 hh hh' s5
    go_upto_region 4 with first | ((with_reducible refine stA (s := s) (bt := a.bt) (hi := a.hi) ?_ ?_ hz5 rfl ?_); (focus rfl); (focus rfl); intro w6 hB6 hg6; have hz7 := hz6.grown hg6 (by simp)) | ((with_reducible refine stH (hs := hs) ?_ ?_ hz7 rfl HH.out.l ?_); (focus rfl); (focus rfl); intro w7 hB7 hg7)
    have b6 := b5.grown hg6 b5.size (fun k hk => by cases hk; exact Nat.le_refl _)
    have b7 := b6.grown hg7 b6.size (fun k hk => by cases hk; omega)
    have A7 := hB6.grown hg7 (by simp)
    have W7 := W4.below b7
    have bw7 := below_then bw4 b7
    obtain ⟨g5, hg5⟩ : ∃ g, w4.heap.size = g := ⟨_, rfl⟩
    obtain ⟨g6, hg6'⟩ : ∃ g, w4.heap.size + 1 = g := ⟨_, rfl⟩
    rw [hg6'] at hB7 ⊢
    rw [hg5] at A7 ⊢
    clear b5 b6 b7 hg6 hg7 hB6 hz5 hz6 hz7 W4 bw4 hg5 hg6' h64
    obtain ⟨k, hk⟩ : ∃ k : Nat, o % 5 = (k : Int) := ⟨(o % 5).toNat, by omega⟩
    have hk5 : k < 5 := by omega
    obtain ⟨W, hW⟩ : ∃ W : Nat, 2 ^ k = W := ⟨_, rfl⟩
    have hP2 : P2 W := by rw [← hW]; exact P2.of hk5
    have hwm : ∀ j : Nat, j = k → wrap64 ((2 : Int) ^ j) = (W : Int) := fun j hj => by subst hj; rw [← hW]; exact wrap_pow hk5
    have HW := Lib.hid hW
    obtain ⟨W1, W16⟩ := hP2.pos
    have HP2 := Lib.hid hP2
    clear hW hP2
    go_upto_region 8 with fail
    rw [hwm k rfl, hk]
    have HWM := Lib.hid hwm
    have HK := Lib.hid hk
    clear hk
    have hnz2 : 2 ≤ s.nz := by rw [← W7.ez]; exact HH.out.n2
    have hnz6 : s.nz ≤ 6 := by rw [← W7.ez]; exact HH.out.v.z6
    have c5 : w7.cell? ⟨g5, 3, none⟩ = some (.slice (some ⟨s.bz, 0, none⟩) s.nz s.cz) := by rw [A7.cell]; rfl
    have HZ := Lib.hid (show a.zs.length = s.nz from W7.ez)
    have Q7 := Lib.hid W7.q
    have HA7 := Lib.hid A7
    have HW7 := Lib.hid W7
    have HH7 := Lib.hid hB7
    obtain ⟨nz, hnzz⟩ : ∃ n, s.nz = n := ⟨_, rfl⟩
    rw [hnzz] at c5 HZ hnz2 hnz6
    clear hnzz hwm W7 A7 hB7
    go_wp2
    go_loopg [11, 47] nz (fun gg v11 v47 wr => ∃ (i : Nat) (b : Bool), i + gg = nz ∧ v47 = .int .i64 i ∧ v11 = .bool b ∧ Below w7.heap.size w7 wr ∧ (b = true ↔ ∃ j, j < i ∧ fits a k j))
    case atStart => exact ⟨0, false, by omega, rfl, rfl, Below.refl _ _, ⟨fun h => (by cases h), fun ⟨j, h, _⟩ => by omega⟩⟩
    case round =>
      clear c5
      obtain ⟨i, b, hi, rfl, rfl, bR, hb⟩ := hrel
      have HBI := Lib.hid hb
      clear hb
      cases gk with
      | zero =>
        have hin : ¬ i < nz := by omega
        obtain rfl : i = nz := by omega
        have hk := HK.out
        have WR := HW7.out.below bR
        have AR := HA7.out.later bR
        have bwR := below_then bw7 bR
        have hHR := HH7.out.later bR
        have HAB := Lib.hid (allocB (.agg (s.cells a.bt a.hi).toArray) a 0 k wr ⟨s, zc, ccs, rfl, WR⟩ HH.out.v (by rw [HH.out.nc]; omega) hk5)
        clear hi WR bR bw7
        go_wp2_with ((with_reducible refine lda ?_ AR ?_); (focus rfl))
        refine HAB.out.mono ?_
        rintro e w20 ⟨b20, hQ⟩
        have bw20 := below_then bwR b20
        have hH20 := hHR.later b20
        have hz20 := Blk.new w20 32 #[.slice none 0 0, .int .i64 0, .int .i64 0, .slice none 0 0, .slice none 0 0] nilA rfl
        have b21 := below_box w20 (.cells #[.slice none 0 0, .int .i64 0, .int .i64 0, .slice none 0 0, .slice none 0 0] 32)
        clear HAB AR hHR bwR b20
        rcases hQ with ⟨s9, bt9, hi9, z, f, rfl, hz, hroom, hR, hall⟩ | ⟨rfl, hno⟩
        · have hbt : b = true := HBI.out.2 ⟨z, by rw [HZ.out] at hz; exact hz, hroom, f, hR, hall⟩
          subst hbt
          have hst := (HH.out.v.vz z hz).r.st0
          have hrg : ∀ x, In f k x → 0 ≤ x ∧ x < 64 ∧ hs.getD x.toNat false = false := fun x hx => by
            have hin := HH.out.v.fr_in hz (hall x hx)
            have := HH.out.rg hz hin
            exact ⟨this.1, this.2, (HH.out.f z x hz hin).1 (hall x hx)⟩
          have hpW : pw k = (W : Int) := by unfold pw; rw [HW.out]
          obtain ⟨G, rfl⟩ : ∃ G : Nat, f = (G : Int) := ⟨f.toNat, by have := hR.2.1; omega⟩
          have hmod : (G : Int) % (W : Int) = 0 := by rw [← hpW]; exact hR.2.2.2
          have HRG := Lib.hid (show ∀ r, r < W → G + r < 64 ∧ hs.getD (G + r) false = false from fun r hr => by
            have := hrg ((G + r : Nat) : Int) (by unfold In; rw [hpW]; omega)
            rw [Int.toNat_natCast] at this
            exact ⟨by omega, this.2.2⟩)
          have hG : G < 64 := (HRG.out 0 (by omega)).1
          clear hz hroom hR hall hst hrg hpW
          go_upto_region 31 with ((with_reducible refine stA (s := s9) (bt := bt9) (hi := hi9) ?_ ?_ hz20 rfl ?_); (focus rfl); (focus rfl); intro w22 hB22 hg22)
          have b22 : Below w20.heap.size w20 w22 := b21.grown hg22 b21.size (fun k hk => by cases hk; exact Nat.le_refl _)
          have bw22 := below_then bw20 b22
          have hH22 := hH20.later b22
          clear hz20 b21 hB22 hg22 b22 bw20 hH20
          have HMD := Lib.hid hmod
          clear hmod
          go_wp2
          go_loopg [22] W (fun g4 v22 wk => ∃ r : Nat, r + g4 = W ∧ v22 = .int .i64 ((G : Int) + (r : Int)) ∧ w22 = wk)
          case atStart => exact ⟨0, by omega, by go_num, rfl⟩
          case round =>
            obtain ⟨r, hr, rfl, rfl⟩ := hrel
            cases gk with
            | zero =>
              obtain rfl : r = W := by omega
              have hmod := HMD.out
              have hrn : ¬ r < r := by omega
              clear hr
              go_wp2
              go_ret
              exact ⟨rfl, bw22⟩
            | succ g4 =>
              have hrW : r < W := by omega
              obtain ⟨hq64, hqf⟩ := HRG.out r hrW
              have hd : w22.cell? ⟨g6, G + r, none⟩ = some (.bool (hs.getD (G + r) false)) := by rw [hH22.cell]; exact hvs_get (by rw [HH.out.l]; exact hq64)
              rw [hqf] at hd
              have hix : ∃ q : Nat, q = G + r ∧ (G : Int) + (r : Int) = (q : Int) := ⟨G + r, rfl, by omega⟩
              have HR := Lib.hid hr
              clear hr hqf
              go_wp2
              go_roundg g4
              case rel => exact ⟨r + 1, by have := HR.out; omega, by go_num, rfl⟩
              case measure => omega
        · have hbf : b = false := by
            cases b with
            | false => rfl
            | true =>
              obtain ⟨j, h1, h2⟩ := HBI.out.1 rfl
              exact absurd h2 (hno j (by rw [HZ.out]; exact h1))
          subst hbf
          clear hno
          go_upto_region 31 with ((with_reducible refine stN ?_ ?_ hz20 rfl ?_); (focus rfl); (focus rfl); intro w22 hB22 hg22)
          have b22 : Below w20.heap.size w20 w22 := b21.grown hg22 b21.size (fun k hk => by cases hk; exact Nat.le_refl _)
          have bw22 := below_then bw20 b22
          clear hz20 b21 hB22 hg22 b22 bw20 hH20
          go_wp2
          go_ret
          exact ⟨rfl, bw22⟩
      | succ gg =>
        have hin : i < nz := by omega
        have HI := Lib.hid hi
        obtain ⟨z, hz⟩ := get_some HZ.out hin
        have HZN := Lib.hid (show zn a i = z from zn_of hz)
        have HZZ := Lib.hid hz
        have hzv := HH.out.v.vz i (by rw [HZ.out]; exact hin)
        rw [HZN.out] at hzv
        have hze : z.st + z.ct ≤ 64 := by
          have := HH.out.e i (by rw [HZ.out]; exact hin)
          rw [HZN.out] at this
          exact this
        have r1 := hzv.r.st0; have r2 := hzv.r.ct0; have r3 := hzv.r.mn0; have r4 := hzv.r.mn1
        have QR := Q7.out.below bR
        have VR := QR.row i z hz
        have h1c := VR.one
        have hzR := Blk.new wr 39 #[.int .i64 0, .int .i64 0, .int .i64 0, .int .i64 0, .int .i64 0, .slice none 0 0, .slice none 0 0, .slice none 0 0, .slice none 0 0, .slice none 0 0] zP rfl
        have b11 := below_box wr (.cells #[.int .i64 0, .int .i64 0, .int .i64 0, .int .i64 0, .int .i64 0, .slice none 0 0, .slice none 0 0, .slice none 0 0, .slice none 0 0, .slice none 0 0] 39)
        clear hi hz hzv
        go_upto_region 11 with first | ((with_reducible refine ldq ?_ QR HZZ.out ?_); (focus rfl)) | ((with_reducible refine stZ (cs := seg zc (i * 10) 10) ?_ ?_ hzR zP_len VR.len h1c ?_); (focus rfl); (focus rfl); intro w12 hB12 hg12)
        have b12 : Below wr.heap.size wr w12 := b11.grown hg12 b11.size (fun k hk => by cases hk; exact Nat.le_refl _)
        have V12 := VR.below b12
        have b13 := below_then bR b12
        obtain ⟨g10, hg10⟩ : ∃ g, wr.heap.size = g := ⟨_, rfl⟩
        rw [hg10] at hB12 ⊢
        have c2 := V12.c2 hB12
        have c3 := V12.c3 hB12
        have c4 := V12.c4 hB12
        clear QR VR hzR b11 hg12 b12 hg10 bR V12 hB12 h1c
        obtain ⟨m, hm⟩ : ∃ m : Nat, z.ct = (m : Int) := ⟨z.ct.toNat, by omega⟩
        obtain ⟨S, hS⟩ : ∃ S : Nat, z.st = (S : Int) := ⟨z.st.toNat, by omega⟩
        obtain ⟨M, hM⟩ : ∃ M : Nat, z.mn = (M : Int) := ⟨z.mn.toNat, by omega⟩
        have HFT := Lib.hid (HH.out.fit (z := i) hk5 HW.out.symm (by rw [HZ.out]; exact hin) (by rw [HZN.out]; exact hS) (by rw [HZN.out]; exact hm))
        rw [HZN.out, hM] at HFT
        rw [hm] at r2 hze c3 r4
        rw [hS] at r1 hze c2
        rw [hM] at r3 r4 c4
        clear hm hS hM
        have hD := HH7.out.below b13 (by have := HH7.out.lt; omega)
        have t1 : decide ((S : Int) < 0) = false := by simp
        have t2 : decide ((m : Int) < 1) = false := by simp; omega
        have t3 : decide ((64 : Int) < (S : Int) + (m : Int)) = false := by simp; omega
        go_upto_region 13 with fail
        clear t1 t2 t3
        go_wp2
        go_loopg [14, 15] m (fun g2 v14 v15 wj => ∃ j : Nat, j + g2 = m ∧ v14 = .int .i64 ((frL hs (S : Int) j).length : Int) ∧ v15 = .int .i64 ((S : Int) + (j : Int)) ∧ w12 = wj)
        case atStart => exact ⟨0, by omega, rfl, by go_num, rfl⟩
        case round =>
          obtain ⟨j, hj, rfl, rfl, rfl⟩ := hrel
          have hfl := frL_len (hs := hs) (st := (S : Int)) (n := j)
          cases gk with
          | zero =>
            obtain rfl : j = m := by omega
            have tj : decide ((S : Int) + (j : Int) < (S : Int) + (j : Int)) = false := by simp
            obtain ⟨L, hL⟩ : ∃ L, (frL hs (S : Int) j).length = L := ⟨_, rfl⟩
            rw [hL] at hfl HFT ⊢
            clear hL hj
            by_cases hfit : (W : Int) ≤ (L : Int) - (M : Int)
            · have tf : decide ((L : Int) - (W : Int) < (M : Int)) = false := by simp; omega
              obtain ⟨Q, hQe⟩ : ∃ Q : Nat, (S + W - 1) / W = Q := ⟨_, rfl⟩
              obtain ⟨F0, hF0⟩ : ∃ F : Nat, fzA S W = F := ⟨_, rfl⟩
              have hQ : ((S : Int) + (W : Int) - 1) / (W : Int) = (Q : Int) := by
                rw [← hQe, show (S : Int) + (W : Int) - 1 = ((S + W - 1 : Nat) : Int) by omega]
                rfl
              have hQW : (Q : Int) * (W : Int) = (F0 : Int) := by
                rw [← hF0]
                unfold fzA
                rw [hQe]
                exact (Int.natCast_mul Q W).symm
              have hFu : F0 ≤ S + W := by rw [← hF0]; exact fzA_up HP2.out
              obtain ⟨N, hN⟩ : ∃ N, rnds S j W = N := ⟨_, rfl⟩
              have HN1 := Lib.hid (fun q => rnds_iff (S := S) (m := j) (q := q) HP2.out)
              have HN2 := Lib.hid (fun q => rnds_le (S := S) (m := j) (q := q) HP2.out)
              rw [hF0, hN] at HFT HN1
              rw [hF0, hN] at HN2
              have hFI : fits a k i ↔ ∃ q, q < N ∧ opn hs (F0 + W * q) W := HFT.out.trans ⟨fun h => h.2, fun h => ⟨hfit, h⟩⟩
              have HFI := Lib.hid hFI
              have hQ80 : Q ≤ 100 := by rw [← hQe]; exact Nat.le_trans (Nat.div_le_self _ _) (by omega)
              clear hQe hF0 hN hFI HFT hfit
              go_wp2
              go_loopg [11, 16] N (fun g3 v11 v16 wj => ∃ (q F : Nat) (b2 : Bool), q + g3 = N ∧ F = F0 + W * q ∧ v16 = .int .i64 (F : Int) ∧ v11 = .bool b2 ∧ w12 = wj ∧ (b2 = true ↔ b = true ∨ ∃ p, p < q ∧ opn hs (F0 + W * p) W))
              case atStart => exact ⟨0, F0, b, by omega, rfl, rfl, rfl, rfl, ⟨.inl, fun h => by
                rcases h with h | ⟨p, h, _⟩
                · exact h
                · omega⟩⟩
              case round =>
                clear tj tf hQ hQW
                obtain ⟨q, F, b2, hq, hF, rfl, rfl, rfl, hb2⟩ := hrel
                have HB2 := Lib.hid hb2
                have HFE := Lib.hid hF
                have hle := HN2.out q (by omega)
                have hiff := HN1.out q
                rw [← hF] at hle hiff
                clear hb2 hF
                cases gk with
                | zero =>
                  have tq : ¬ F + W ≤ S + j := fun h => by have := hiff.1 h; omega
                  have HNB := Lib.hid (show b2 = true ↔ ∃ j, j < i + 1 ∧ fits a k j from by
                    have hqN : q = N := by omega
                    rw [HB2.out, HBI.out, hqN]
                    constructor
                    · rintro (⟨j, h1, h2⟩ | h)
                      · exact ⟨j, by omega, h2⟩
                      · exact ⟨i, by omega, HFI.out.2 h⟩
                    · rintro ⟨j, h1, h2⟩
                      by_cases e : j = i
                      · subst e; exact .inr (HFI.out.1 h2)
                      · exact .inl ⟨j, by omega, h2⟩)
                  clear hiff hq
                  go_wp2
                  go_roundg gg
                  case rel => exact ⟨i + 1, b2, by have := HI.out; omega, by go_num, rfl, b13, HNB.out⟩
                  case measure => omega
                | succ g3 =>
                  have hFW : F + W ≤ S + j := hiff.2 (by omega)
                  have tq : decide ((F : Int) + (W : Int) ≤ (S : Int) + (j : Int)) = true := by simp; omega
                  have HQ := Lib.hid hq
                  clear hiff hq hle
                  go_wp2
                  go_loopg [17, 18] W (fun g4 v17 v18 wk => ∃ (r : Nat) (b3 : Bool), r + g4 = W ∧ v18 = .int .i64 ((F : Int) + (r : Int)) ∧ v17 = .bool b3 ∧ w12 = wk ∧ (b3 = true ↔ ∀ p, p < r → hs.getD (F + p) false = false))
                  case atStart => exact ⟨0, true, by omega, by go_num, rfl, rfl, ⟨fun _ p h => by omega, fun _ => rfl⟩⟩
                  case round =>
                    clear tq
                    obtain ⟨r, b3, hr, rfl, rfl, rfl, hb3⟩ := hrel
                    have HB3 := Lib.hid hb3
                    clear hb3
                    cases gk with
                    | zero =>
                      obtain rfl : r = W := by omega
                      have tr : decide ((F : Int) + (r : Int) < (F : Int) + (r : Int)) = false := by simp
                      have HO3 := Lib.hid (show b3 = true ↔ opn hs (F0 + r * q) r from by rw [HB3.out, ← HFE.out]; exact Iff.rfl)
                      have HF2 := Lib.hid (show F + r = F0 + r * (q + 1) by rw [HFE.out, Nat.mul_succ]; omega)
                      clear hr
                      cases b2 with
                      | true =>
                        have HN3 := Lib.hid (show b = true ∨ ∃ p, p < q + 1 ∧ opn hs (F0 + r * p) r from by
                          rcases HB2.out.1 rfl with h1 | ⟨p, h1, h2⟩
                          · exact .inl h1
                          · exact .inr ⟨p, by omega, h2⟩)
                        go_wp2
                        go_roundg g3
                        case rel => exact ⟨q + 1, F + r, true, by have := HQ.out; omega, HF2.out, by go_num, rfl, rfl, fun _ => HN3.out, fun _ => rfl⟩
                        case measure => omega
                      | false =>
                        have HN3 := Lib.hid (show b3 = true ↔ b = true ∨ ∃ p, p < q + 1 ∧ opn hs (F0 + r * p) r from by
                          have hnb : ¬ (b = true ∨ ∃ p, p < q ∧ opn hs (F0 + r * p) r) := fun h => by
                            have := HB2.out.2 h
                            cases this
                          rw [HO3.out]
                          constructor
                          · intro h; exact .inr ⟨q, by omega, h⟩
                          · rintro (h | ⟨p, h1, h2⟩)
                            · exact absurd (.inl h) hnb
                            · by_cases e : p = q
                              · subst e; exact h2
                              · exact absurd (.inr ⟨p, by omega, h2⟩) hnb)
                        go_wp2
                        go_roundg g3
                        case rel => exact ⟨q + 1, F + r, b3, by have := HQ.out; omega, HF2.out, by go_num, rfl, rfl, HN3.out⟩
                        case measure => omega
                    | succ g4 =>
                      have hrW : r < W := by omega
                      have tr : decide ((F : Int) + (r : Int) < (F : Int) + (W : Int)) = true := by simp; omega
                      have hq64 : F + r < 64 := by omega
                      have hd : w12.cell? ⟨g6, F + r, none⟩ = some (.bool (hs.getD (F + r) false)) := by rw [hD.cell]; exact hvs_get (by rw [HH.out.l]; exact hq64)
                      have HR := Lib.hid hr
                      have hix : ∃ q : Nat, q = F + r ∧ (F : Int) + (r : Int) = (q : Int) := ⟨F + r, rfl, by omega⟩
                      obtain ⟨hb, hhb⟩ : ∃ b, hs.getD (F + r) false = b := ⟨_, rfl⟩
                      rw [hhb] at hd
                      have HBX := Lib.hid hhb
                      clear hr hhb
                      cases b3 with
                      | true =>
                        have HN4 := Lib.hid (show (!hb) = true ↔ ∀ p, p < r + 1 → hs.getD (F + p) false = false from by
                          have h0 := HB3.out.1 rfl
                          constructor
                          · intro h p hp
                            by_cases e : p = r
                            · subst e; rw [HBX.out]; simpa using h
                            · exact h0 p (by omega)
                          · intro h
                            have := h r (by omega)
                            rw [HBX.out] at this
                            rw [this]; rfl)
                        go_wp2
                        go_roundg g4
                        case rel => exact ⟨r + 1, !hb, by have := HR.out; omega, by go_num, rfl, rfl, HN4.out⟩
                        case measure => omega
                      | false =>
                        have HN4 := Lib.hid (show false = true ↔ ∀ p, p < r + 1 → hs.getD (F + p) false = false from
                          ⟨fun h => (by cases h), fun h => HB3.out.2 fun p hp => h p (by omega)⟩)
                        go_wp2
                        go_roundg g4
                        case rel => exact ⟨r + 1, false, by have := HR.out; omega, by go_num, rfl, rfl, HN4.out⟩
                        case measure => omega
            · have tf : decide ((L : Int) - (W : Int) < (M : Int)) = true := by simp; omega
              have HNB := Lib.hid (show b = true ↔ ∃ j, j < i + 1 ∧ fits a k j from by
                rw [HBI.out]
                constructor
                · rintro ⟨j, h1, h2⟩
                  exact ⟨j, by omega, h2⟩
                · rintro ⟨j, h1, h2⟩
                  by_cases e : j = i
                  · subst e; exact absurd (HFT.out.1 h2).1 hfit
                  · exact ⟨j, by omega, h2⟩)
              go_wp2
              go_roundg gg
              case rel => exact ⟨i + 1, b, by have := HI.out; omega, by go_num, rfl, b13, HNB.out⟩
              case measure => omega
          | succ g2 =>
            have hjm : j < m := by omega
            have tj : decide ((S : Int) + (j : Int) < (S : Int) + (m : Int)) = true := by simp; omega
            have hq64 : S + j < 64 := by omega
            have hd : w12.cell? ⟨g6, S + j, none⟩ = some (.bool (hs.getD (S + j) false)) := by rw [hD.cell]; exact hvs_get (by rw [HH.out.l]; exact hq64)
            have HNX := frL_next (hs := hs) (st := (S : Int)) (n := j)
            rw [show ((S : Int) + (j : Int)).toNat = S + j by omega] at HNX
            have HJ := Lib.hid hj
            obtain ⟨hb, hhb⟩ : ∃ b, hs.getD (S + j) false = b := ⟨_, rfl⟩
            rw [hhb] at hd HNX
            have hix : ∃ q : Nat, q = S + j ∧ (S : Int) + (j : Int) = (q : Int) := ⟨S + j, rfl, by omega⟩
            clear hhb hj
            cases hb with
            | true =>
              rw [if_pos rfl] at HNX
              have HNX := Lib.hid HNX
              go_wp2
              go_roundg g2
              case rel => exact ⟨j + 1, by have := HJ.out; omega, by rw [HNX.out], by go_num, rfl⟩
              case measure => omega
            | false =>
              rw [if_neg (by decide)] at HNX
              have HNL := Lib.hid (show (frL hs (S : Int) (j + 1)).length = (frL hs (S : Int) j).length + 1 by rw [HNX, List.length_append]; rfl)
              obtain ⟨L, hL⟩ : ∃ L, (frL hs (S : Int) j).length = L := ⟨_, rfl⟩
              rw [hL] at hfl HNL ⊢
              clear HNX hL
              go_wp2
              go_roundg g2
              case rel => exact ⟨j + 1, by have := HJ.out; omega, by rw [HNL.out]; go_num, by go_num, rfl⟩
              case measure => omega
  · have t40 : decide ((40 : Int) < (n : Int)) = true := by simp; omega
    clear h40
    go_wp2_with fail
    refine (awake w2).mono ?_
    rintro e w3 ⟨rfl, b3⟩
    have b4 := below_then b1 b3
    clear b1 b3 x1
    go_wp2
    go_ret
    exact ⟨rfl, b4⟩
end Go.Proofs.Ytdddkfpcbfgocaa
