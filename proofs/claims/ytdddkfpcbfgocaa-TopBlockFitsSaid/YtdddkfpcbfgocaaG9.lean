/- Walks: the fixed example of the statements about the allocator. -/
import Derived.Test.YtdddkfpcbfgocaaG6
import Derived.Test.YtdddkfpcbfgocaaG8
namespace Go.Zn
open Go.Can
def e3 (k : Nat) : List Int := if k = 3 then [0] else []
def e7 (k : Nat) : List Int := if k = 0 then [1] else if k = 1 then [2] else if k = 2 then [4] else []
theorem F_e3 {f : Int} {k : Nat} : F e3 f k ↔ k = 3 ∧ f = 0 := by
  unfold F e3
  constructor
  · rintro ⟨h1, h2⟩
    split at h2
    · rename_i e; exact ⟨e, by simpa using h2⟩
    · cases h2
  · rintro ⟨rfl, rfl⟩
    exact ⟨by omega, by simp⟩
theorem F_e7 {f : Int} {k : Nat} : F e7 f k ↔ (k = 0 ∧ f = 1) ∨ (k = 1 ∧ f = 2) ∨ (k = 2 ∧ f = 4) := by
  unfold F e7
  constructor
  · rintro ⟨h1, h2⟩
    split at h2
    · rename_i e; exact .inl ⟨e, by simpa using h2⟩
    · split at h2
      · rename_i e; exact .inr (.inl ⟨e, by simpa using h2⟩)
      · split at h2
        · rename_i e; exact .inr (.inr ⟨e, by simpa using h2⟩)
        · cases h2
  · rintro (⟨rfl, rfl⟩ | ⟨rfl, rfl⟩ | ⟨rfl, rfl⟩) <;> exact ⟨by omega, by simp⟩
theorem pw1 : pw 1 = 2 := rfl
theorem pw2 : pw 2 = 4 := rfl
theorem pw3 : pw 3 = 8 := rfl
theorem pw4 : pw 4 = 16 := rfl
theorem vd_e3 : Vd 0 8 e3 := by
  refine ⟨fun k _ => ?_, ⟨fun {f k} h => ?_, fun {f k g j x} h1 h2 _ _ => ?_, fun {f k} _ h1 h2 => ?_⟩⟩
  · unfold e3; split <;> simp
  · obtain ⟨rfl, rfl⟩ := F_e3.1 h
    exact ⟨by omega, by omega, by rw [pw3]; omega, by decide⟩
  · obtain ⟨rfl, rfl⟩ := F_e3.1 h1
    obtain ⟨rfl, rfl⟩ := F_e3.1 h2
    exact ⟨rfl, rfl⟩
  · obtain ⟨rfl, rfl⟩ := F_e3.1 h1
    obtain ⟨_, h⟩ := F_e3.1 h2
    rw [pw3] at h
    omega
theorem vd_e7 : Vd 0 8 e7 := by
  refine ⟨fun k _ => ?_, ⟨fun {f k} h => ?_, fun {f k g j x} h1 h2 h3 h4 => ?_, fun {f k} h0 h1 h2 => ?_⟩⟩
  · unfold e7; split <;> try split <;> try split <;> simp
    all_goals simp
  · rcases F_e7.1 h with ⟨rfl, rfl⟩ | ⟨rfl, rfl⟩ | ⟨rfl, rfl⟩ <;> exact ⟨by omega, by omega, by decide, by decide⟩
  · unfold In at h3 h4
    rcases F_e7.1 h1 with ⟨rfl, rfl⟩ | ⟨rfl, rfl⟩ | ⟨rfl, rfl⟩ <;> rcases F_e7.1 h2 with ⟨rfl, rfl⟩ | ⟨rfl, rfl⟩ | ⟨rfl, rfl⟩ <;> (simp only [pw_zero, pw1, pw2] at h3 h4; omega)
  · rcases F_e7.1 h1 with ⟨rfl, rfl⟩ | ⟨rfl, rfl⟩ | ⟨rfl, rfl⟩ <;> rcases F_e7.1 h2 with ⟨h, h'⟩ | ⟨h, h'⟩ | ⟨h, h'⟩ <;> (simp only [pw_zero, pw1, pw2] at h'; omega)
theorem cov_e3 {x : Int} : Cov (F e3) x ↔ 0 ≤ x ∧ x < 8 := by
  constructor
  · rintro ⟨f, k, h1, h2⟩
    obtain ⟨rfl, rfl⟩ := F_e3.1 h1
    unfold In at h2
    rw [pw3] at h2
    omega
  · intro h
    exact ⟨0, 3, F_e3.2 ⟨rfl, rfl⟩, by unfold In; rw [pw3]; omega⟩
theorem cov_e7 {x : Int} : Cov (F e7) x ↔ 1 ≤ x ∧ x < 8 := by
  constructor
  · rintro ⟨f, k, h1, h2⟩
    unfold In at h2
    rcases F_e7.1 h1 with ⟨rfl, rfl⟩ | ⟨rfl, rfl⟩ | ⟨rfl, rfl⟩ <;> (simp only [pw_zero, pw1, pw2] at h2; omega)
  · intro h
    by_cases h1 : x = 1
    · exact ⟨1, 0, F_e7.2 (.inl ⟨rfl, rfl⟩), by unfold In; rw [pw_zero]; omega⟩
    · by_cases h2 : x < 4
      · exact ⟨2, 1, F_e7.2 (.inr (.inl ⟨rfl, rfl⟩)), by unfold In; rw [pw1]; omega⟩
      · exact ⟨4, 2, F_e7.2 (.inr (.inr ⟨rfl, rfl⟩)), by unfold In; rw [pw2]; omega⟩
theorem awk_first {fr : Nat → List Int} (h : Vd 0 8 fr) (hc : ∀ x, Cov (F fr) x ↔ 0 ≤ x ∧ x < 8) {x : Int} (hf : First fr 0 x) : x = 0 := by
  obtain ⟨j, r, _, h2, _, h4⟩ := hf
  rw [vd_uniq h vd_e3 (fun x => (hc x).trans cov_e3.symm) j h2] at h4
  unfold e3 at h4
  split at h4
  · cases h4; rfl
  · cases h4
theorem awk_list {fr : Nat → List Int} (h : Vd 0 8 fr) (hc : ∀ x, Cov (F fr) x ↔ 1 ≤ x ∧ x < 8) : fr 2 = [4] :=
  vd_uniq h vd_e7 (fun x => (hc x).trans cov_e7.symm) 2 (by omega)
theorem nS_all {S : Int → Prop} {a : Int} {n : Nat} (h : ∀ x, a ≤ x → x < a + n → S x) : nS S a n = n := by
  rw [nS_ext (T := fun x => a ≤ x ∧ x < a + n) fun x h1 h2 => ⟨fun _ => ⟨h1, h2⟩, fun _ => h x h1 h2⟩, ← nS_of (l := cov a n) cov_nodup (fun x => mem_cov) fun x h => h, cov_len]
/-- A zone with room is found. -/
theorem pick_some {a : A} {c z : Nat} {kernel rsv : Bool} (hz : z < a.zs.length) (hs : suit a.zs kernel z = true) (he : elg a rsv z = true) : pickZ a c kernel rsv ≠ none := by
  unfold pickZ
  intro h
  rw [List.find?_eq_none] at h
  exact h z (mem_ordP.2 ⟨z, hz, rfl, hs⟩) (by simpa using he)
end Go.Zn
namespace Go.Proofs.Ytdddkfpcbfgocaa
open Go.RowKit Go.Over Go.Zn Go.Can Go.Seg Go.Grow
/-- The zone of the example. -/
def pA : Z := ⟨0, 0, 0, 8, 2, fun _ => []⟩
theorem ps_A : PS [pA] := ⟨by decide, by decide, fun z hz => by simp at hz; subst hz; decide, fun z hz => by simp at hz; subst hz; exact .inl rfl, fun z hz => by simp at hz; subst hz; decide, fun z hz => by simp at hz; subst hz; decide, by decide⟩
/-- What is known of the example's allocator. -/
structure AwA (a : A) : Prop where
  v : VA a
  nz : a.zs.length = 1
  nc : a.cs.length = 1
  st : (zn a 0).st = 0
  ct : (zn a 0).ct = 8
  mn : (zn a 0).mn = 2
  kd : (zn a 0).kd = 0
theorem AwA.of {a b : A} (h : AwA a) (hv : VA b) (hs : Sa a b) : AwA b :=
  ⟨hv, by rw [hs.nz]; exact h.nz, by rw [hs.nc]; exact h.nc, by rw [(hs.par 0).st]; exact h.st, by rw [(hs.par 0).ct]; exact h.ct, by rw [(hs.par 0).mn]; exact h.mn, by rw [(hs.par 0).kd]; exact h.kd⟩
theorem AwA.pick {a : A} (h : AwA a) (hf : ∀ x, 0 ≤ x → x < 8 → Fr a 0 x) : pickZ a 0 true false ≠ none := by
  refine pick_some (z := 0) (by rw [h.nz]; omega) ?_ ?_
  · have : (a.zs.getD 0 noZ).kd = 0 := h.kd
    unfold suit
    rw [this]
    rfl
  · have hc : cntA a 0 = 8 := by
      rw [cnt_fr h.v (by rw [h.nz]; omega), h.st, h.ct]
      exact nS_all (n := 8) fun x h1 h2 => hf x h1 (by simpa using h2)
    unfold elg
    rw [hc, h.mn]
    decide
set_option maxRecDepth 100000 in set_option maxHeartbeats 3200000 in
theorem awake (w : World) : Calls Try.prog 5 #[] w fun e w' => e = .returned (.bool true) ∧ Below w.heap.size w w' := by
  have b1 := below_box w (.cells #[.int .i64 0] 3)
  have hs : (w.alloc (.cells #[.int .i64 0] 3)).heap.size = w.heap.size + 1 := by simp
  have b2 := below_box (w.alloc (.cells #[.int .i64 0] 3)) (.cells #[.int .i64 0, .int .i64 0, .int .i64 8, .int .i64 2] 51)
  have bw := below_then b1 b2
  have NB := (Blk.new w 3 #[.int .i64 0] [.int .i64 0] rfl).later b2
  have NN : Sl ((w.alloc (.cells #[.int .i64 0] 3)).alloc (.cells #[.int .i64 0, .int .i64 0, .int .i64 8, .int .i64 2] 51)) (.slice (some ⟨w.heap.size, 0, none⟩) 1 1) [0] := by
    refine ⟨_, 1, rfl, Nat.le_refl _, by unfold maxLen; omega, fun h => (by cases h), fun _ => ⟨w.heap.size, 0, rfl, ⟨_, NB⟩, fun k hk => ?_⟩⟩
    rw [NB.cell]
    have hk : k < 1 := hk
    obtain rfl : k = 0 := by omega
    rfl
  have SB := Blk.new (w.alloc (.cells #[.int .i64 0] 3)) 51 #[.int .i64 0, .int .i64 0, .int .i64 8, .int .i64 2] (spC pA) rfl
  rw [hs] at SB
  have SS : SV ((w.alloc (.cells #[.int .i64 0] 3)).alloc (.cells #[.int .i64 0, .int .i64 0, .int .i64 8, .int .i64 2] 51)) (w.heap.size + 1) (spC pA) [pA] := SV.of (n := 1) SB rfl rfl
  have HNA := Lib.hid (newA (.slice (some ⟨w.heap.size, 0, none⟩) 1 1) [0] 2 3 (w.heap.size + 1) 1 1 (spC pA) [pA] _ NN (by decide) (by decide) (fun x hx => by simp at hx; omega) (by decide) (by decide) (by decide) SS rfl ps_A)
  clear NN SS SB NB hs b1 b2
  go_enter Try.func5, Try.ntmps5
  go_wp2_with fail
  refine HNA.out.mono ?_
  rintro e w3 ⟨v, a, rfl, ⟨s, zc, ccs, rfl, hW⟩, hV, b3, e1, e2, e3, e4, e5, e6, e7⟩
  obtain ⟨q1, q2, q3, q4, q5⟩ := e5 0 pA rfl
  have HA := Lib.hid (show AwA a from ⟨hV, e4, by rw [hV.nc, e1]; rfl, q3, q4, q5, q2⟩)
  have HF := Lib.hid (show ∀ x, 0 ≤ x → x < 8 → Cov (F (zn a 0).fr) x from fun x h1 h2 => e6 0 x (by decide) (by unfold inZ; rw [HA.out.st, HA.out.ct]; omega))
  have HE := Lib.hid e7
  have bw3 := below_then bw b3
  have hz3 := Blk.new w3 32 #[.slice none 0 0, .int .i64 0, .int .i64 0, .slice none 0 0, .slice none 0 0] nilA rfl
  have b4 := below_box w3 (.cells #[.slice none 0 0, .int .i64 0, .int .i64 0, .slice none 0 0, .slice none 0 0] 32)
  clear HNA hV b3 bw e1 e2 e3 e4 e5 e6 e7 q1 q2 q3 q4 q5
  go_upto_region 2 with ((with_reducible refine stA (s := s) (bt := a.bt) (hi := a.hi) ?_ ?_ hz3 rfl ?_); (focus rfl); (focus rfl); intro w5 hB5 hg5)
  have b5 : Below w3.heap.size w3 w5 := b4.grown hg5 b4.size (fun k hk => by cases hk; exact Nat.le_refl _)
  have W5 := hW.below b5
  have bw5 := below_then bw3 b5
  obtain ⟨g1, hg1⟩ : ∃ g, w3.heap.size = g := ⟨_, rfl⟩
  rw [hg1] at hB5 ⊢
  clear hW hz3 b4 hg5 b5 hg1 bw3
  go_wp2_with ((with_reducible refine lda ?_ hB5 ?_); (focus rfl))
  refine (allocA _ a 0 true false w5 ⟨s, zc, ccs, rfl, W5⟩ HA.out.v (by rw [HA.out.nc]; omega)).mono ?_
  intro e w6 hQ
  obtain ⟨v6, x, b, rfl, hR6, hL, b6, hFst⟩ : ∃ (v : Value) (x : Int) (b : A), e = .returned (.tuple #[v, .int .i64 x, .int .i64 0]) ∧ Ra w6 v b ∧ Less a 0 x b ∧ Below w5.heap.size w5 w6 ∧ x = 0 := by
    rcases hQ with ⟨z, v, x, b, h1, h2, h3, h4, h5, h6, h7⟩ | ⟨h1, _⟩
    · rw [HA.out.nz] at h2
      obtain rfl : z = 0 := by omega
      refine ⟨v, x, b, h3, h4, h5, h6, ?_⟩
      have hvz := (HA.out.v.vz 0 (by rw [HA.out.nz]; omega)).l
      rw [HA.out.st, HA.out.ct] at hvz
      refine awk_first hvz (fun y => ⟨fun h => ?_, fun h => HF.out y h.1 h.2⟩) (h7 (HE.out 0 0) ⟨0, HF.out 0 (by omega) (by omega)⟩)
      have := cov_in hvz h
      omega
    · exact absurd h1 (HA.out.pick fun y h1 h2 => .inl (HF.out y h1 h2))
  subst hFst
  obtain ⟨s6, zc6, ccs6, rfl, W6⟩ := hR6
  have HB := Lib.hid (HA.out.of hL.v hL.s)
  have HFB := Lib.hid (show ∀ y, Fr b 0 y ↔ 1 ≤ y ∧ y < 8 from fun y => by
    rw [hL.f]
    have hvz := (HA.out.v.vz 0 (by rw [HA.out.nz]; omega)).l
    constructor
    · rintro ⟨h1, h2⟩
      have h3 := HA.out.v.fr_in (by rw [HA.out.nz]; omega) h1
      unfold inZ at h3
      rw [HA.out.st, HA.out.ct] at h3
      have : y ≠ 0 := fun e => h2 ⟨rfl, e⟩
      omega
    · intro h
      exact ⟨.inl (HF.out y (by omega) h.2), fun e => by omega⟩)
  have bw6 := below_then bw5 b6
  have hz6 := Blk.new w6 32 #[.slice none 0 0, .int .i64 0, .int .i64 0, .slice none 0 0, .slice none 0 0] nilA rfl
  have b7 := below_box w6 (.cells #[.slice none 0 0, .int .i64 0, .int .i64 0, .slice none 0 0, .slice none 0 0] 32)
  clear hQ hL b6 bw5 W5 hB5 HA HF HE
  go_upto_region 3 with ((with_reducible refine stA (s := s6) (bt := b.bt) (hi := b.hi) ?_ ?_ hz6 rfl ?_); (focus rfl); (focus rfl); intro w8 hB8 hg8)
  have b8 : Below w6.heap.size w6 w8 := b7.grown hg8 b7.size (fun k hk => by cases hk; exact Nat.le_refl _)
  have W8 := W6.below b8
  have bw8 := below_then bw6 b8
  obtain ⟨g3, hg3⟩ : ∃ g, w6.heap.size = g := ⟨_, rfl⟩
  rw [hg3] at hB8 ⊢
  clear W6 hz6 b7 hg8 b8 hg3 bw6
  have c3 : w8.cell? ⟨g3, 3, none⟩ = some (.slice (some ⟨s6.bz, 0, none⟩) s6.nz s6.cz) := by rw [hB8.cell]; rfl
  have c4 : w8.cell? ⟨g3, 4, none⟩ = some (.slice (some ⟨s6.bc, 0, none⟩) s6.nc s6.cc) := by rw [hB8.cell]; rfl
  rw [← W8.ez, HB.out.nz] at c3
  rw [← W8.ec, HB.out.nc] at c4
  go_upto_region 5 with fail
  clear c3 c4
  go_wp2_with ((with_reducible refine lda ?_ hB8 ?_); (focus rfl))
  refine (drainA _ b w8 ⟨s6, zc6, ccs6, rfl, W8⟩ HB.out.v).mono ?_
  rintro e w9 ⟨v9, d, rfl, ⟨s9, zc9, ccs9, rfl, W9⟩, hD, b9⟩
  have HD := Lib.hid (HB.out.of hD.v hD.s)
  have HC := Lib.hid (show ∀ y, Cov (F (zn d 0).fr) y ↔ 1 ≤ y ∧ y < 8 from fun y => by
    rw [← HFB.out, ← hD.f]
    constructor
    · exact .inl
    · rintro (h | ⟨c, hc, hm⟩)
      · exact h
      · rw [hD.s.nc] at hc
        rw [hD.e c 0 hc (by rw [HB.out.nz]; omega)] at hm
        cases hm)
  have bw9 := below_then bw8 b9
  have hz9 := Blk.new w9 32 #[.slice none 0 0, .int .i64 0, .int .i64 0, .slice none 0 0, .slice none 0 0] nilA rfl
  have b10 := below_box w9 (.cells #[.slice none 0 0, .int .i64 0, .int .i64 0, .slice none 0 0, .slice none 0 0] 32)
  clear bw8 b9 hD W8 hB8 HB HFB
  go_upto_region 6 with ((with_reducible refine stA (s := s9) (bt := d.bt) (hi := d.hi) ?_ ?_ hz9 rfl ?_); (focus rfl); (focus rfl); intro w11 hB11 hg11)
  have b11 : Below w9.heap.size w9 w11 := b10.grown hg11 b10.size (fun k hk => by cases hk; exact Nat.le_refl _)
  have W11 := W9.below b11
  have bw11 := below_then bw9 b11
  obtain ⟨g6, hg6⟩ : ∃ g, w9.heap.size = g := ⟨_, rfl⟩
  rw [hg6] at hB11 ⊢
  clear W9 hz9 b10 hg11 b11 hg6 bw9
  have c3 : w11.cell? ⟨g6, 3, none⟩ = some (.slice (some ⟨s9.bz, 0, none⟩) s9.nz s9.cz) := by rw [hB11.cell]; rfl
  have hnz : s9.nz = 1 := by rw [← W11.ez, HD.out.nz]
  rw [hnz] at c3
  obtain ⟨y, hy⟩ := get_some HD.out.nz (show 0 < 1 by omega)
  have HY := Lib.hid (show zn d 0 = y from zn_of hy)
  have Q11 := W11.q
  go_upto_region 8 with fail
  have bN := below_box w11 (.cells #[.int .i64 1, .int .i64 2, .int .i64 3, .int .i64 4, .int .i64 5, .int .i64 6, .int .i64 7] 3)
  have NB := Blk.new w11 3 #[.int .i64 1, .int .i64 2, .int .i64 3, .int .i64 4, .int .i64 5, .int .i64 6, .int .i64 7] [.int .i64 1, .int .i64 2, .int .i64 3, .int .i64 4, .int .i64 5, .int .i64 6, .int .i64 7] rfl
  have NN : Sl (w11.alloc (.cells #[.int .i64 1, .int .i64 2, .int .i64 3, .int .i64 4, .int .i64 5, .int .i64 6, .int .i64 7] 3)) (.slice (some ⟨w11.heap.size, 0, none⟩) 7 7) [1, 2, 3, 4, 5, 6, 7] := by
    refine ⟨_, 7, rfl, Nat.le_refl _, by unfold maxLen; omega, fun h => (by cases h), fun _ => ⟨w11.heap.size, 0, rfl, ⟨_, NB⟩, fun k hk => ?_⟩⟩
    rw [NB.cell]
    have hk : k < 7 := hk
    rcases (show k = 0 ∨ k = 1 ∨ k = 2 ∨ k = 3 ∨ k = 4 ∨ k = 5 ∨ k = 6 by omega) with rfl | rfl | rfl | rfl | rfl | rfl | rfl <;> rfl
  have hyr : Rng y := by have := (HD.out.v.vz 0 (by rw [HD.out.nz]; omega)).r; rw [HY.out] at this; exact this
  have hst : y.st = 0 := by rw [← HY.out]; exact HD.out.st
  have hct : y.ct = 8 := by rw [← HY.out]; exact HD.out.ct
  have HB := Lib.hid (build (.agg (seg zc9 (0 * 10) 10).toArray) y (.slice (some ⟨w11.heap.size, 0, none⟩) 7 7) [1, 2, 3, 4, 5, 6, 7] _ ⟨_, rfl, (Q11.below bN).row 0 y hy⟩ hyr NN (by decide) (fun x hx => by
    unfold inZ
    rw [hst, hct]
    simp at hx
    omega))
  have HYV := Lib.hid (Q11.row 0 y hy)
  have HST := Lib.hid hst; have HCT := Lib.hid hct
  have HY0 := Lib.hid hy
  clear NB NN hyr hst hct
  go_wp2_with ((with_reducible refine ldq (k := 0) ?_ Q11 HY0.out ?_); (focus rfl))
  refine HB.out.mono ?_
  rintro e w12 ⟨cs, fr, rfl, hO, hv, hcv, b12⟩
  rw [HST.out, HCT.out] at hv
  have hfr : ∀ x, Cov (F fr) x ↔ 1 ≤ x ∧ x < 8 := fun x => by
    rw [hcv]
    simp
    omega
  have HL2 := Lib.hid (awk_list hv hfr)
  have V12 := hO.zv
  have h1c := V12.one
  have b13 := below_then bN b12
  have bw12 := below_then bw11 b13
  have QL := HYV.out.below b13
  have HQ12 := Q11.below b13
  have hB12 := hB11.later b13
  have HSM := Lib.hid (show ∀ k, k < 5 → fr k = (zn d 0).fr k from by
    have hvz := (HD.out.v.vz 0 (by rw [HD.out.nz]; omega)).l
    rw [HD.out.st, HD.out.ct] at hvz
    exact vd_uniq hv hvz fun x => (hfr x).trans (HC.out x).symm)
  have hz12 := Blk.new w12 39 #[.int .i64 0, .int .i64 0, .int .i64 0, .int .i64 0, .int .i64 0, .slice none 0 0, .slice none 0 0, .slice none 0 0, .slice none 0 0, .slice none 0 0] zP rfl
  have b14 := below_box w12 (.cells #[.int .i64 0, .int .i64 0, .int .i64 0, .int .i64 0, .int .i64 0, .slice none 0 0, .slice none 0 0, .slice none 0 0, .slice none 0 0, .slice none 0 0] 39)
  clear HB hO hv hcv hfr b12 b13 bN bw11 Q11 hB11 W11 HYV QL c3
  go_upto_region 9 with ((with_reducible refine stZ (cs := cs) ?_ ?_ hz12 zP_len V12.len h1c ?_); (focus rfl); (focus rfl); intro w15 hB15 hg15)
  have b15 : Below w12.heap.size w12 w15 := b14.grown hg15 b14.size (fun k hk => by cases hk; exact Nat.le_refl _)
  have bw15 := below_then bw12 b15
  have V15 := V12.below b15
  have Q15 := HQ12.below b15
  have hB16 := hB12.later b15
  obtain ⟨g7, hg7⟩ : ∃ g, w12.heap.size = g := ⟨_, rfl⟩
  rw [hg7] at hB15 ⊢
  have c3 : w15.cell? ⟨g6, 3, none⟩ = some (.slice (some ⟨s9.bz, 0, none⟩) s9.nz s9.cz) := by rw [hB16.cell]; rfl
  rw [hnz] at c3
  obtain ⟨a2, n2, cc2, hc2, hn2, _, _, _, hI2⟩ := V15.list hB15 (show 2 < 5 by omega)
  have hl2 : ({ y with fr := fr } : Z).fr 2 = [4] := HL2.out
  rw [hl2] at hn2 hI2
  have hn2 : n2 = 1 := hn2.symm
  subst hn2
  obtain ⟨b2, o2, rfl, cx2⟩ := hI2.at (i := 0) (x := 4) rfl
  rw [Nat.add_zero] at cx2
  have hY15 := Q15.row 0 y HY0.out
  have HCS := Lib.hid (fun u => calls_over (sameZone (.agg cs.toArray) (.agg (seg zc9 (0 * 10) 10).toArray) { y with fr := fr } y (over w15 u) ⟨_, rfl, V15.below (below_over w15 u)⟩ ⟨_, rfl, hY15.below (below_over w15 u)⟩ rfl rfl rfl rfl rfl (fun k hk => by
    show fr k = y.fr k
    rw [HSM.out k hk, HY.out])))
  have q1 := fun u => hB15.later (below_over w15 u)
  have q2 := fun u => Q15.x.later (below_over w15 u)
  have hge := Q15.get HY0.out
  have hcl0 := hY15.len
  have z0 := fun u => over_cell c3 u
  have z1 := fun u => over_cell hc2 u
  have z2 := fun u => over_cell cx2 u
  clear HQ12 hB12 hz12 b14 hg15 b15 hg7 bw12 c3 hc2 cx2 hI2 V12
  refine wp_region_over (by kernel_rfl) (by kernel_rfl) ?_
  repeat (go_big_quiet_step (fail))
  go_big_quiet_want
  rename_i K hK
  refine quiet_run (v := .agg cs.toArray) (fun w' hw' => ?_) ?_
  · obtain ⟨u, rfl⟩ := hw'
    exact run_load_row rfl g7 rfl 39 cs.toArray (0, 0) _ (q1 u) Try.underlying39 rfl (by rw [infoZ]; simp [V15.len])
  refine hK _ ?_
  clear hK K
  simp only [Act.put, List.setIfInBounds_toArray, List.set_cons_succ, List.set_cons_zero]
  repeat (go_big_quiet_step (fail))
  go_big_quiet_want
  rename_i K hK
  refine quiet_run (v := .agg (seg zc9 (0 * 10) 10).toArray) (fun w' hw' => ?_) ?_
  · obtain ⟨u, rfl⟩ := hw'
    exact run_load_part rfl s9.bz (0 * 10) rfl 39 zc9 (seg zc9 (0 * 10) 10) _ (q2 u) hge Try.underlying39 rfl (by rw [infoZ, hcl0])
  refine hK _ ?_
  clear hK K
  simp only [Act.put, List.setIfInBounds_toArray, List.set_cons_succ, List.set_cons_zero]
  repeat (go_big_quiet_step ((go_at_call 9; exact HCS.out _)))
  refine wpQuiet_nil ?_
  rintro _ ⟨u, rfl⟩
  have bF := below_then bw15 (below_over w15 u)
  clear q1 q2 z0 z1 z2 HCS
  go_wp2
  go_ret
  exact ⟨rfl, bF⟩
end Go.Proofs.Ytdddkfpcbfgocaa
