/- Walks: page blocks of types with the lists of a set of free frames, of the document. -/
import Derived.Test.YtkiiifmofmbniaaDoorN10
namespace Go.Mob
open Go.Can
theorem lay_step {s : List Int} {i : Nat} {x : Int} (hs : s[i]? = some x) (hi : i < 256) : (s.take i ++ List.replicate (256 - i) 0).set i x = s.take (i + 1) ++ List.replicate (256 - (i + 1)) 0 := by
  have hlt : i < s.length := by rw [List.getElem?_eq_some_iff] at hs; exact hs.1
  have hl : (s.take i).length = i := by rw [List.length_take]; omega
  rw [List.set_append_right _ _ (by omega), hl, Nat.sub_self, List.take_add_one, hs, show 256 - i = (256 - (i + 1)) + 1 by omega, List.replicate_succ, List.set_cons_zero]
  simp
theorem getD_set {l : List Int} {i j : Nat} {x : Int} (hi : i < l.length) : (l.set i x).getD j 0 = if j = i then x else l.getD j 0 := by
  rw [List.getD_eq_getElem?_getD, List.getD_eq_getElem?_getD]
  by_cases h : j = i
  · subst h; rw [List.getElem?_set_self hi, if_pos rfl]; rfl
  · rw [List.getElem?_set_ne (by omega), if_neg h]
theorem parts16 {k : Nat} (hk : k < 5) : ∃ m q : Nat, 2 ^ k = m ∧ m * q = 16 ∧ 0 < m ∧ m ≤ 16 ∧ pw k = (m : Int) := by
  rcases (show k = 0 ∨ k = 1 ∨ k = 2 ∨ k = 3 ∨ k = 4 by omega) with rfl | rfl | rfl | rfl | rfl
  · exact ⟨1, 16, rfl, rfl, by decide, by decide, rfl⟩
  · exact ⟨2, 8, rfl, rfl, by decide, by decide, rfl⟩
  · exact ⟨4, 4, rfl, rfl, by decide, by decide, rfl⟩
  · exact ⟨8, 2, rfl, rfl, by decide, by decide, rfl⟩
  · exact ⟨16, 1, rfl, rfl, by decide, by decide, rfl⟩
/-- The numbers mark the set. -/
def Mk (lv : List Int) (L : Int → Prop) : Prop := lv.length = 256 ∧ (∀ x : Nat, x < 256 → (lv.getD x 0 ≠ 0 ↔ L (x : Int)))
end Go.Mob
namespace Go.Proofs.YtkiiifmofmbniaaDoor
open Go.RowKit Go.Over Go.Mob Go.Can Go.Seg Go.Grow
/-- A cell of another row is set: page blocks stay. -/
theorem VP.beside2 {w W : World} {g gl : Nat} {cs : List Value} {p : P} {l : List Int} {n i : Nat} {u : Value} (h : VP w g cs p W) (hB : Blk W gl 3 (nums l)) (hl : w.heap.size ≤ gl) (hn : l.length = n) (hm : n ≤ 1000) (hs : Sep cs (.slice (some ⟨gl, 0, none⟩) n n)) :
    VP w g cs p (W.setCell ⟨gl, i, none⟩ u) ∧ Kn g W (W.setCell ⟨gl, i, none⟩ u) := by
  have hgr : W.grownBy (W.setCell ⟨gl, i, none⟩ u) (Value.slice (some ⟨gl, 0, none⟩) n n).ownBlock := ⟨rfl, rfl, rfl, by simp [World.setCell], fun k _ hk => Below.heap_setCell W ⟨gl, i, none⟩ u k (fun e => hk (by rw [e]; rfl))⟩
  exact h.other (own_full hB hl hn hm) hgr hs
theorem VP.row0 {w W : World} {g : Nat} {cs : List Value} {p : P} (h : VP w g cs p W) : ∃ v, cs[1]? = some v ∧ Own W w.heap.size v p.ty ∧ W.cell? ⟨g, 1, none⟩ = some v ∧ W.frozen? ⟨g, 1, none⟩ = false := by
  obtain ⟨v, h1, h2⟩ := OwnP.own h.o (show 0 < 16 by decide)
  exact ⟨v, h1, h2, by rw [h.x.cell]; exact h1, h.x.frozen _⟩
/-- What the document's lists are. -/
def WithAns (w : World) (st : Int) (ty : List Int) (S : Int → Prop) (e : Ending) (w' : World) : Prop :=
  ∃ cs q, e = .returned (.agg cs.toArray) ∧ OwnP w' w.heap.size cs q ∧ Below w.heap.size w w' ∧ q.st = st ∧ q.ty = ty ∧ Vd q ∧ ∀ x, Cov (F q) x ↔ S x
set_option maxRecDepth 100000 in set_option maxHeartbeats 3200000 in
theorem with_41 (s0 : Nat) (aT aS : Option Addr) (ty s : List Int) (n cT cS : Nat) (w : World) (HT : Ints w aT ty) (HS : Ints w aS s) (hn : ty.length = n) (hs : s.length = 256) (S : Int → Prop)
    (hr : rngB ⟨(s0 : Int), ty, fun _ => []⟩ = true) (hS : ∀ x : Nat, x < 256 → (s.getD x 0 ≠ 0 ↔ S (x : Int))) (hSr : ∀ x, S x → (s0 : Int) ≤ x ∧ x < (s0 : Int) + 16 * (n : Int)) :
    Calls Tryd.prog 41 #[.int .i64 s0, .slice aT n cT, .slice aS 256 cS] w (WithAns w (s0 : Int) ty S) := by
  obtain ⟨r1, r2, r3, r4, r5, _⟩ := rng_of hr
  simp only at r1 r2 r3 r4 r5
  rw [hn] at r3 r4 r5
  have hE : s0 + 16 * n ≤ 256 := by omega
  have HN := Lib.hid hn; have HRR := Lib.hid hr; have HS2 := Lib.hid hS; have HSR := Lib.hid hSr; have HSL := Lib.hid hs
  clear hn hr hS hSr hs r1 r2 r3 r5
  have hz0 := Blk.new w 26 #[.int .i64 0, .slice none 0 0, .slice none 0 0, .slice none 0 0, .slice none 0 0, .slice none 0 0, .slice none 0 0, .slice none 0 0, .slice none 0 0, .slice none 0 0, .slice none 0 0, .slice none 0 0, .slice none 0 0, .slice none 0 0, .slice none 0 0, .slice none 0 0, .slice none 0 0] zP rfl
  have b0 := below_box w (.cells #[.int .i64 0, .slice none 0 0, .slice none 0 0, .slice none 0 0, .slice none 0 0, .slice none 0 0, .slice none 0 0, .slice none 0 0, .slice none 0 0, .slice none 0 0, .slice none 0 0, .slice none 0 0, .slice none 0 0, .slice none 0 0, .slice none 0 0, .slice none 0 0, .slice none 0 0] 26)
  go_enter Tryd.func41, Tryd.ntmps41
  go_upto_region 1 with fail
  obtain ⟨w1, hw1⟩ : ∃ W, W = w.alloc (.cells #[.int .i64 0, .slice none 0 0, .slice none 0 0, .slice none 0 0, .slice none 0 0, .slice none 0 0, .slice none 0 0, .slice none 0 0, .slice none 0 0, .slice none 0 0, .slice none 0 0, .slice none 0 0, .slice none 0 0, .slice none 0 0, .slice none 0 0, .slice none 0 0, .slice none 0 0] 26) := ⟨_, rfl⟩
  rw [← hw1] at hz0 b0 ⊢
  obtain ⟨gr, hgr⟩ : ∃ g, w.heap.size = g := ⟨_, rfl⟩
  rw [hgr] at hz0 ⊢
  have hlr : w.heap.size ≤ gr := by omega
  clear hw1 hgr
  have hO2 : OwnP w1 w.heap.size (newC (s0 : Int) (.slice none 0 0)) ⟨(s0 : Int), [], fun _ => []⟩ := ownP_new (Own.nil _ _)
  have hz2 := Blk.new w1 26 #[.int .i64 0, .slice none 0 0, .slice none 0 0, .slice none 0 0, .slice none 0 0, .slice none 0 0, .slice none 0 0, .slice none 0 0, .slice none 0 0, .slice none 0 0, .slice none 0 0, .slice none 0 0, .slice none 0 0, .slice none 0 0, .slice none 0 0, .slice none 0 0, .slice none 0 0] zP rfl
  have hZ2 := hz0.later (below_box w1 (.cells #[.int .i64 0, .slice none 0 0, .slice none 0 0, .slice none 0 0, .slice none 0 0, .slice none 0 0, .slice none 0 0, .slice none 0 0, .slice none 0 0, .slice none 0 0, .slice none 0 0, .slice none 0 0, .slice none 0 0, .slice none 0 0, .slice none 0 0, .slice none 0 0, .slice none 0 0] 26))
  have h1c := (MixP.pv hO2).one
  have hne : gr ≠ w1.heap.size := by have := hz0.lt; omega
  go_upto_region 2 with ((with_reducible refine st26 (cs := newC (s0 : Int) (.slice none 0 0)) ?_ ?_ hz2 zP_len rfl h1c ?_); (focus rfl); (focus rfl); intro w3 hB3 hg3)
  have V3 := VP.new hO2 b0 hz2 hB3 hg3
  have Z3 := hZ2.grown hg3 (by simpa using Ne.symm hne)
  obtain ⟨g, hg⟩ : ∃ g, w1.heap.size = g := ⟨_, rfl⟩
  rw [hg] at V3 hne ⊢
  clear hg hB3 hg3 hZ2 hz2 h1c hO2 hz0 b0
  go_wp2
  go_loopg [8] n (fun gg v8 wr => ∃ (i : Nat) (cs : List Value), i + gg = n ∧ v8 = .int .i64 i ∧ VP w g cs ⟨(s0 : Int), ty.take i, fun _ => []⟩ wr ∧ Blk wr gr 26 zP)
  case atStart => exact ⟨0, _, by omega, rfl, V3, Z3⟩
  case round =>
    clear V3 Z3
    obtain ⟨i, cs, hg, rfl, V4, Z4⟩ := hrel
    cases gk with
    | zero =>
      obtain rfl : i = n := by omega
      obtain ⟨n, rfl⟩ : ∃ m, m = i := ⟨_, rfl⟩
      have hin : ¬ n < n := by omega
      have V5 : VP w g cs ⟨(s0 : Int), ty, fun _ => []⟩ wr := by
        have := V4
        rw [List.take_of_length_le (by rw [HN.out]; omega)] at this
        exact this
      clear hg V4
      go_upto_region 7 with (refine wpList_make_ints _ rfl _ _ rfl .i64 .i64 256 256 256 rfl rfl rfl rfl (by decide) (by decide) ?_; intro w2 hS6 b2)
      have V6 := V5.below b2
      have Z6 := Z4.later b2
      have HSEP : Sep cs (.slice (some ⟨wr.heap.size, 0, none⟩) 256 256) := fun s v hs hv => by
        rcases hb : v.ownBlock with _ | b
        · exact .inl rfl
        · refine .inr fun e => ?_
          have := V5.lt hs hv hb
          have e2 : b = wr.heap.size := Option.some.inj e
          omega
      have hlg : w.heap.size ≤ wr.heap.size := V5.b.size
      obtain ⟨gl, hgl⟩ : ∃ g, wr.heap.size = g := ⟨_, rfl⟩
      rw [hgl] at hS6 HSEP hlg ⊢
      have hgg : gl ≠ g := by have := V5.x.lt; omega
      clear hgl b2 V5 Z4
      go_wp2
      go_loopg [10] 256 (fun gg v10 wr => ∃ i : Nat, i + gg = 256 ∧ v10 = .int .i64 i ∧ VP w g cs ⟨(s0 : Int), ty, fun _ => []⟩ wr ∧ Blk wr gr 26 zP ∧ Blk wr gl 3 (nums (s.take i ++ List.replicate (256 - i) 0)))
      case atStart => exact ⟨0, by omega, rfl, V6, Z6, by rw [List.take_zero, List.nil_append]; exact hS6⟩
      case round =>
        clear V6 Z6 hS6
        obtain ⟨i, hg, rfl, V7, Z7, S7⟩ := hrel
        cases gk with
        | zero =>
          obtain rfl : i = 256 := by omega
          have S8 : Blk wr gl 3 (nums s) := by
            have := S7
            rw [List.take_of_length_le (by rw [HSL.out]; decide), List.replicate_zero, List.append_nil] at this
            exact this
          have HW0 := Lib.hid (Wi.start (S := S) HRR.out)
          have HMK := Lib.hid (show Mk s S from ⟨HSL.out, HS2.out⟩)
          clear hg S7
          go_wp2
          clear hin
          go_loopg [11] 5 (fun gg v11 wr => ∃ (fr : Nat → List Int) (cs : List Value) (lv : List Int) (L : Int → Prop), v11 = .int .i64 ((gg : Int) - 1) ∧ gg ≤ 5 ∧ VP w g cs ⟨(s0 : Int), ty, fr⟩ wr ∧ Blk wr gr 26 zP ∧ Blk wr gl 3 (nums lv) ∧ Sep cs (.slice (some ⟨gl, 0, none⟩) 256 256) ∧ Mk lv L ∧ (∀ k, gg = k + 1 → Wi ⟨(s0 : Int), ty, fun _ => []⟩ S k (s0 : Int) fr L) ∧ (gg = 0 → Wi ⟨(s0 : Int), ty, fun _ => []⟩ S 0 ((s0 : Int) + 16 * (ty.length : Int)) fr L))
          case atStart => exact ⟨fun _ => [], cs, s, S, rfl, Nat.le_refl _, V7, Z7, S8, HSEP, HMK.out, fun k hk => (show 4 = k by omega) ▸ HW0.out, fun h => absurd h (by decide)⟩
          case round =>
            clear V7 Z7 S8 HSEP HMK HW0
            obtain ⟨fr, cs, lv, L, rfl, hg5, V8, Z8, S8, HSEP, hMK, hWk, hW0⟩ := hrel
            cases gk with
            | zero =>
              have HDN := Lib.hid (Wi.done HRR.out (hW0 rfl) (fun x hx => by have := HSR.out x hx; rw [HN.out]; exact this))
              have e1 : ((0 : Nat) : Int) - 1 = -1 := by decide
              clear hMK hWk hW0 HSEP S8
              have h1c := V8.v.one
              go_wp2_with first | ((with_reducible refine ld ?_ V8.x V8.v.len ?_); (focus rfl)) | ((with_reducible refine st26 (cs := cs) ?_ ?_ Z8 zP_len V8.v.len h1c ?_); (focus rfl); (focus rfl); intro w5 hB5 hg5)
              refine bodyPost_ret (results_p rfl _ _ gr cs rfl hB5 V8.v.len) rfl ?_
              exact ⟨cs, ⟨(s0 : Int), ty, fr⟩, rfl, OwnP.grown V8.o Z8 hg5, V8.b.grown hg5 V8.b.size (fun k hk => by cases hk; exact hlr), rfl, rfl, HDN.out.1, HDN.out.2⟩
            | succ k =>
              have hk5 : k < 5 := by omega
              have ek : ((k + 1 : Nat) : Int) - 1 = (k : Int) := by omega
              have HWK := Lib.hid (hWk k rfl)
              have HMK := Lib.hid hMK
              obtain ⟨m, q16, hm1, hm2, hm3, hm4, hm5⟩ := parts16 hk5
              have HNN := Lib.hid (show s0 + m * (q16 * n) = s0 + 16 * n by rw [← Nat.mul_assoc, hm2])
              have HWM := Lib.hid (show wrap64 ((2 : Int) ^ k) = (m : Int) by rw [← hm1]; exact wrap_pow hk5)
              have hwm : ∀ i : Nat, i = k → wrap64 ((2 : Int) ^ i) = (m : Int) := fun i hi => by subst hi; exact HWM.out
              have HPW := Lib.hid hm5; have HM1 := Lib.hid hm1
              have tk0 : decide ((0 : Int) ≤ (k : Int)) = true := by simp
              rw [ek]
              clear hMK hWk hW0 hg5 hm1 hm2 hm5 ek
              go_wp2
              go_loopg [12] (q16 * n) (fun g2 v12 wr => ∃ (f : Nat) (fr : Nat → List Int) (cs : List Value) (lv : List Int) (L : Int → Prop), f + m * g2 = s0 + 16 * n ∧ v12 = .int .i64 f ∧ s0 ≤ f ∧ VP w g cs ⟨(s0 : Int), ty, fr⟩ wr ∧ Blk wr gr 26 zP ∧ Blk wr gl 3 (nums lv) ∧ Sep cs (.slice (some ⟨gl, 0, none⟩) 256 256) ∧ Mk lv L ∧ Wi ⟨(s0 : Int), ty, fun _ => []⟩ S k (f : Int) fr L)
              case atStart => exact ⟨s0, fr, cs, lv, L, HNN.out, rfl, Nat.le_refl _, V8, Z8, S8, HSEP, HMK.out, HWK.out⟩
              case round =>
                clear V8 Z8 S8 HSEP HMK HWK
                obtain ⟨f, fr, cs, lv, L, hf, rfl, hsf, V9, Z9, S9, HSEP, hMK, hWI⟩ := hrel
                have HMK := Lib.hid hMK; have HWI := Lib.hid hWI
                clear hMK hWI
                cases gk with
                | zero =>
                  obtain rfl : f = s0 + 16 * n := by omega
                  have HE2 := Lib.hid (show ((s0 + 16 * n : Nat) : Int) = (s0 : Int) + 16 * (ty.length : Int) by rw [HN.out]; omega)
                  have HA := Lib.hid (show (∀ k', k = k' + 1 → Wi ⟨(s0 : Int), ty, fun _ => []⟩ S k' (s0 : Int) fr L) ∧ (k = 0 → Wi ⟨(s0 : Int), ty, fun _ => []⟩ S 0 ((s0 : Int) + 16 * (ty.length : Int)) fr L) from by
                    have hw := HWI.out
                    rw [HE2.out] at hw
                    refine ⟨fun k' hk' => ?_, fun h0 => ?_⟩
                    · subst hk'; exact Wi.next HRR.out hw
                    · subst h0; exact hw)
                  obtain ⟨ff, hff⟩ : ∃ x, s0 + 16 * n = x := ⟨_, rfl⟩
                  have tf : decide ((ff : Int) < (s0 : Int) + 16 * (n : Int)) = false := by simp; omega
                  rw [hff]
                  clear hf hff
                  go_wp2
                  go_roundg k
                  case rel => exact ⟨fr, cs, lv, L, by go_num, by omega, V9, Z9, S9, HSEP, HMK.out, HA.out.1, HA.out.2⟩
                  case measure => omega
                | succ g2 =>
                  obtain ⟨z, hz⟩ : ∃ z, m * g2 = z := ⟨_, rfl⟩
                  have hf2 : f + (z + m) = s0 + 16 * n := by rw [Nat.mul_succ, hz] at hf; exact hf
                  have HZ := Lib.hid hz
                  have hfe : f < s0 + 16 * n := by omega
                  have tf : decide ((f : Int) < (s0 : Int) + 16 * (n : Int)) = true := by simp; omega
                  have hfm : f + m ≤ 256 := by omega
                  have HIN := Lib.hid (show insB ⟨(s0 : Int), ty, fun _ => []⟩ (f : Int) k = true from by
                    unfold insB
                    rw [decide_eq_true_eq, HN.out]
                    exact ⟨by simp only; omega, by simp only; omega, HWI.out.al⟩)
                  have HII : Ints wr (some ⟨gl, 0, none⟩) lv := fun h0 => ⟨gl, 0, rfl, fun i hi => by
                    rw [Nat.zero_add, S9.cell, nums_get (List.getElem?_eq_getElem hi), List.getD_eq_getElem?_getD, List.getElem?_eq_getElem hi]; rfl⟩
                  have HALL := Lib.hid (all_56 (some ⟨gl, 0, none⟩) lv 256 f k wr HII HMK.out.1 hk5 (by rw [HM1.out]; exact hfm))
                  clear hf hz HII
                  go_wp2_with fail
                  refine HALL.out.mono ?_
                  rintro e w2 ⟨b, rfl, rfl, hb⟩
                  have hbm : b = true ↔ Max (Mob.R ⟨(s0 : Int), ty, fun _ => []⟩) S (f : Int) k := by
                    rw [hb, ← Wi.all HRR.out HWI.out HIN.out, HM1.out]
                    constructor
                    · intro h x hx
                      have h1 := hx.1; have h2 := hx.2
                      rw [HPW.out] at h2
                      have := (HMK.out.2 x.toNat (by omega)).1 (h x.toNat (by omega) (by omega))
                      rwa [show ((x.toNat : Nat) : Int) = x by omega] at this
                    · intro h i h1 h2
                      exact (HMK.out.2 i (by omega)).2 (h (i : Int) ⟨by omega, by rw [HPW.out]; omega⟩)
                  have HBM := Lib.hid hbm
                  clear hb hbm HALL
                  cases b with
                  | false =>
                    have HWN := Lib.hid (show Wi ⟨(s0 : Int), ty, fun _ => []⟩ S k ((f + m : Nat) : Int) fr L from by
                      have := Wi.skip HRR.out HWI.out (fun h => absurd (HBM.out.2 h) (by decide))
                      rw [HPW.out] at this
                      rwa [show ((f + m : Nat) : Int) = (f : Int) + (m : Int) by omega])
                    go_wp2
                    go_roundg g2
                    case rel => exact ⟨f + m, fr, cs, lv, L, by rw [HZ.out]; omega, by go_num, by omega, V9, Z9, S9, HSEP, HMK.out, HWN.out⟩
                    case measure => omega
                  | true =>
                    have hmax := HBM.out.1 rfl
                    obtain ⟨t, ht, hty⟩ := ty_at HRR.out HIN.out
                    have HTY := Lib.hid hty; have HMX := Lib.hid hmax
                    obtain ⟨qi, hqi⟩ : ∃ i, ((f : Int) - (s0 : Int)).toNat / 16 = i := ⟨_, rfl⟩
                    have e1 : ((f : Int) - (s0 : Int)).tdiv 16 = (qi : Int) := by rw [Int.tdiv_eq_ediv_of_nonneg (by omega)]; omega
                    have hqn : qi < n := by omega
                    have hqx : ty[qi]? = some (t : Int) := by
                      have := hty
                      unfold tyAt at this
                      simp only at this
                      rw [show (((f : Int) - (s0 : Int)) / 16).toNat = qi by omega, List.getD_eq_getElem?_getD, List.getElem?_eq_getElem (by rw [HN.out]; exact hqn)] at this
                      rw [List.getElem?_eq_getElem (by rw [HN.out]; exact hqn), ← this]; rfl
                    obtain ⟨bT, oT, hbT, cT⟩ := (HT.below V9.b).at hqx
                    subst hbT
                    have hq16 : qi < 16 := by omega
                    obtain ⟨u, hu, hO, dc, df⟩ := V9.at ht hk5
                    simp only at hO
                    have hlen : (fr (5 * t + k)).length ≤ 256 := by
                      refine asc_len (a := 0) (HWI.out.asc _ (by omega)) fun x hx => ?_
                      obtain ⟨i1, i2, _⟩ := ins_open ((HWI.out.mem t k x ht hk5).1 hx).1.1.2
                      rw [HN.out] at i2
                      simp only at i1 i2
                      omega
                    have HFM := Lib.hid hfm
                    clear hqi hqx hty hmax
                    go_upto_region 19 with fail
                    refine wp_region_plan (fun _ => True) (.quiet [0, 1, 2, 3, 4, 5, 6, 8, 11, 12] (.fork 7 (.only 9 (.only 10 (.quiet [13] (.only 14 .done)))) 9 (.only 7 (.only 10 (.quiet [13] (.only 14 .done)))))) 99 (by kernel_rfl) (by kernel_rfl) trivial ?_
                    intro W _ hWe
                    have bW : Below wr.heap.size wr W := by rw [hWe]; exact (Below.refl _ _).drew
                    clear hWe
                    simp only [wpPlan, inOrder, List.filterMap_cons, List.filterMap_nil, List.getElem?_cons_zero, List.getElem?_cons_succ]
                    show wpQuiet _ _ _ _ (_ :: _ :: _ :: _ :: _ :: _ :: _ :: _ :: _ :: [_]) _
                    repeat (go_big_quiet_step (fail))
                    refine wpQuiet_nil ?_
                    have B5 := below_then bW (below_box W (.cells #[.int .i64 (f : Int)] 3))
                    have hO5 := hO.later B5
                    have V5 := V9.below B5
                    have Z5 := Z9.later B5
                    have S5 := S9.later B5
                    have dc4 := cell_later bW dc
                    have dc5 := cell_later B5 dc
                    have HSRC := Lib.hid (src_new W #[.int .i64 (f : Int)] 3 1 1 1 rfl (by simp [Value.oneCell']))
                    obtain ⟨W5, hW5⟩ : ∃ X, X = W.alloc (.cells #[.int .i64 (f : Int)] 3) := ⟨_, rfl⟩
                    rw [← hW5] at hO5 V5 Z5 S5 HSRC dc5
                    have HW5 := Lib.hid hW5
                    clear hW5 B5 bW V9 Z9 S9 dc df cT
                    refine ⟨?_, ?_⟩
                    · show wpList _ _ _ [_] _ _
                      go_wp2
                      refine ⟨hold_of (S0 := fun _ => True) trivial, ?_⟩
                      show wpList _ _ _ [_] _ _
                      go_wp2
                      refine ⟨hold_of (S0 := fun _ => True) trivial, ?_⟩
                      rw [← HW5.out]
                      clear dc4 dc5
                      refine wpList_append_k K22 rfl (.tmp 83) (.tmp 85) rfl u _ (nums (fr (5 * t + k))) rfl hO5 _ 1 1 [.int .i64 (f : Int)] rfl HSRC.out ?c1 ?c2 ?_
                      case c1 => omega
                      case c2 => exact V5.b.size
                      intro u' w6 ho6 hg6 hk6
                      have hx6 := V5.x.grown hg6 (V5.x.not_own hO5 (by decide))
                      have Z6 := Z5.grown hg6 (Z5.not_own hO5 (by decide))
                      have hul : u.ownBlock ≠ some gl := by
                        rcases HSEP _ u (show 1 + (5 * t + k) < 16 by omega) hu with h | h
                        · rw [h]; simp
                        · exact h
                      have S6 := S5.grown hg6 hul
                      have B6 : Below w.heap.size w w6 := V5.b.grown hg6 V5.b.size (fun k hk => (World.ownsRow.lt hO5 k hk).1)
                      have hO6 : Own w6 w.heap.size u' (fr (5 * t + k) ++ [(f : Int)]) := by
                        unfold Own
                        rw [List.length_append]
                        have e1 : nums (fr (5 * t + k) ++ [(f : Int)]) = nums (fr (5 * t + k)) ++ [.int .i64 (f : Int)] := by simp [nums]
                        rw [e1]
                        exact ho6
                      refine wpList_nil ⟨hold_of (S0 := fun _ => True) trivial, ?_⟩
                      simp only [Act.put, List.setIfInBounds_toArray, List.set_cons_succ, List.set_cons_zero]
                      show wpQuiet _ _ _ _ ([_]) _
                      repeat (go_big_quiet_step (fail))
                      refine wpQuiet_nil ?_
                      have V7 := V5.put2 ht hk5 hu hg6 hO6 hk6
                      have hlg2 : gl < W5.heap.size := S5.lt
                      have HSEP7 := Sep.set HSEP V5.v.len (show 1 + (5 * t + k) < 16 by omega) hu hk6 (fun k hk => by cases hk; exact hlg2)
                      have Z7 := Z6.far (p := ⟨g, 2 + t * 5 + k, none⟩) hne u'
                      have S7 := S6.far (p := ⟨g, 2 + t * 5 + k, none⟩) hgg u'
                      have dc6 : w6.cell? ⟨g, 2 + t * 5 + k, none⟩ = some u := by rw [hx6.cell, ← hu]; congr 1; omega
                      have df6 := hx6.frozen (2 + t * 5 + k)
                      obtain ⟨a', c', rfl, _⟩ := own_form hO6
                      obtain ⟨nl, hnl⟩ : ∃ z, (fr (5 * t + k) ++ [(f : Int)]).length = z := ⟨_, rfl⟩
                      rw [hnl] at V7 Z7 S7 HSEP7 ⊢
                      clear hnl V5 Z5 S5 hO5 hO ho6 hg6 hk6 hx6 Z6 S6 B6 hO6 hlg2 hul HSEP
                      show wpList _ _ _ [_] _ _
                      go_wp2
                      refine ⟨hold_of (S0 := fun _ => True) trivial, NoPanic.normal ?_⟩
                      clear dc6 df6
                      obtain ⟨w7, hw7⟩ : ∃ W, W = w6.setCell ⟨g, 2 + t * 5 + k, none⟩ (.slice a' nl c') := ⟨_, rfl⟩
                      rw [← hw7] at V7 Z7 S7 ⊢
                      clear hw7
                      obtain ⟨cs7, hcs7⟩ : ∃ z, cs.set (1 + (1 + (5 * t + k))) (.slice a' nl c') = z := ⟨_, rfl⟩
                      rw [hcs7] at V7 HSEP7
                      clear hcs7 hu
                      have hwm : ∀ i : Nat, i = k → wrap64 ((2 : Int) ^ i) = (m : Int) := fun i hi => by subst hi; exact HWM.out
                      go_wp2
                      go_loopg [14] m (fun g3 v14 wr => ∃ (j : Nat) (lv : List Int), j + g3 = m ∧ v14 = .int .i64 ((f + j : Nat) : Int) ∧ VP w g cs7 ⟨(s0 : Int), ty, upd fr (5 * t + k) (fr (5 * t + k) ++ [(f : Int)])⟩ wr ∧ Blk wr gr 26 zP ∧ Blk wr gl 3 (nums lv) ∧ lv.length = 256 ∧ ∀ x : Nat, x < 256 → (lv.getD x 0 ≠ 0 ↔ L (x : Int) ∧ ¬ (f ≤ x ∧ x < f + j)))
                      case atStart => exact ⟨0, lv, by omega, by rw [Nat.add_zero], V7, Z7, S7, HMK.out.1, fun x hx => by rw [HMK.out.2 x hx]; exact ⟨fun h => ⟨h, by omega⟩, fun h => h.1⟩⟩
                      case round =>
                        clear V7 Z7 S7 HMK
                        obtain ⟨j, lv, hj, rfl, V8, Z8, S8, hll, hmk⟩ := hrel
                        obtain ⟨xq, hxq⟩ : ∃ x, f + j = x := ⟨_, rfl⟩
                        have HLL := Lib.hid hll; have HMK := Lib.hid hmk
                        clear hll hmk
                        cases gk with
                        | zero =>
                          have tq : decide ((xq : Int) < (f : Int) + (m : Int)) = false := by simp; omega
                          have HFIN := Lib.hid (show ∃ L' : Int → Prop, Mk lv L' ∧ Wi ⟨(s0 : Int), ty, fun _ => []⟩ S k ((f + m : Nat) : Int) (upd fr (5 * t + k) (fr (5 * t + k) ++ [(f : Int)])) L' from by
                            refine ⟨fun x => L x ∧ ¬ In (f : Int) k x, ⟨HLL.out, fun x hx => ?_⟩, ?_⟩
                            · rw [HMK.out x hx]
                              unfold In
                              rw [HPW.out]
                              exact ⟨fun h => ⟨h.1, fun h2 => h.2 (by omega)⟩, fun h => ⟨h.1, fun h2 => h.2 (by omega)⟩⟩
                            · have := Wi.take HRR.out HWI.out HMX.out ht HTY.out (L' := fun x => L x ∧ ¬ In (f : Int) k x) (fun x => Iff.rfl)
                              rw [HPW.out] at this
                              rwa [show ((f + m : Nat) : Int) = (f : Int) + (m : Int) by omega])
                          rw [hxq]
                          clear hj hxq
                          go_wp2
                          go_roundg g2
                          case rel =>
                            obtain ⟨L', h1, h2⟩ := HFIN.out
                            exact ⟨f + m, _, cs7, lv, L', by rw [HZ.out]; omega, by go_num, by omega, V8, Z8, S8, HSEP7, h1, h2⟩
                          case measure => omega
                        | succ g3 =>
                          have hjm : j < m := by omega
                          have tq : decide ((xq : Int) < (f : Int) + (m : Int)) = true := by simp; omega
                          have hx256 : xq < 256 := by have := HFM.out; omega
                          obtain ⟨y, hy⟩ := get_some HLL.out hx256
                          have c0 := S8.cell xq
                          rw [nums_get hy] at c0
                          have f0 := S8.frozen xq
                          have HJ := Lib.hid hj; have HXQ := Lib.hid hxq
                          rw [hxq]
                          clear hj hxq hy
                          go_wp2
                          obtain ⟨V9, K9⟩ := V8.beside2 (i := xq) (u := .int .i64 0) S8 hlg HLL.out (by decide) HSEP7
                          have Z9 := K9 gr 26 zP hne (by decide) Z8
                          have S9 := S8.set xq (.int .i64 0)
                          rw [nums_put] at S9
                          clear V8 Z8 S8 K9 c0 f0
                          go_roundg g3
                          case rel =>
                            refine ⟨j + 1, _, by have := HJ.out; omega, by have := HXQ.out; rw [show f + (j + 1) = xq + 1 by omega]; go_num, V9, Z9, S9, by rw [List.length_set]; exact HLL.out, fun x hx => ?_⟩
                            rw [getD_set (by rw [HLL.out]; exact hx256)]
                            have hxe := HXQ.out
                            by_cases e : x = xq
                            · rw [if_pos e]
                              exact ⟨fun h => absurd rfl h, fun h => absurd (by omega) h.2⟩
                            · rw [if_neg e, HMK.out x hx]
                              exact ⟨fun h => ⟨h.1, by omega⟩, fun h => ⟨h.1, by omega⟩⟩
                          case measure => omega
                    · show wpList _ _ _ [_] _ _
                      go_wp2
                      refine ⟨hold_of (S0 := fun _ => True) trivial, ?_⟩
                      rw [← HW5.out]
                      show wpList _ _ _ [_] _ _
                      go_wp2
                      refine ⟨hold_of (S0 := fun _ => True) trivial, ?_⟩
                      clear dc4 dc5
                      refine wpList_append_k K22 rfl (.tmp 83) (.tmp 85) rfl u _ (nums (fr (5 * t + k))) rfl hO5 _ 1 1 [.int .i64 (f : Int)] rfl HSRC.out ?c1 ?c2 ?_
                      case c1 => omega
                      case c2 => exact V5.b.size
                      intro u' w6 ho6 hg6 hk6
                      have hx6 := V5.x.grown hg6 (V5.x.not_own hO5 (by decide))
                      have Z6 := Z5.grown hg6 (Z5.not_own hO5 (by decide))
                      have hul : u.ownBlock ≠ some gl := by
                        rcases HSEP _ u (show 1 + (5 * t + k) < 16 by omega) hu with h | h
                        · rw [h]; simp
                        · exact h
                      have S6 := S5.grown hg6 hul
                      have B6 : Below w.heap.size w w6 := V5.b.grown hg6 V5.b.size (fun k hk => (World.ownsRow.lt hO5 k hk).1)
                      have hO6 : Own w6 w.heap.size u' (fr (5 * t + k) ++ [(f : Int)]) := by
                        unfold Own
                        rw [List.length_append]
                        have e1 : nums (fr (5 * t + k) ++ [(f : Int)]) = nums (fr (5 * t + k)) ++ [.int .i64 (f : Int)] := by simp [nums]
                        rw [e1]
                        exact ho6
                      refine wpList_nil ⟨hold_of (S0 := fun _ => True) trivial, ?_⟩
                      simp only [Act.put, List.setIfInBounds_toArray, List.set_cons_succ, List.set_cons_zero]
                      show wpQuiet _ _ _ _ ([_]) _
                      repeat (go_big_quiet_step (fail))
                      refine wpQuiet_nil ?_
                      have V7 := V5.put2 ht hk5 hu hg6 hO6 hk6
                      have hlg2 : gl < W5.heap.size := S5.lt
                      have HSEP7 := Sep.set HSEP V5.v.len (show 1 + (5 * t + k) < 16 by omega) hu hk6 (fun k hk => by cases hk; exact hlg2)
                      have Z7 := Z6.far (p := ⟨g, 2 + t * 5 + k, none⟩) hne u'
                      have S7 := S6.far (p := ⟨g, 2 + t * 5 + k, none⟩) hgg u'
                      have dc6 : w6.cell? ⟨g, 2 + t * 5 + k, none⟩ = some u := by rw [hx6.cell, ← hu]; congr 1; omega
                      have df6 := hx6.frozen (2 + t * 5 + k)
                      obtain ⟨a', c', rfl, _⟩ := own_form hO6
                      obtain ⟨nl, hnl⟩ : ∃ z, (fr (5 * t + k) ++ [(f : Int)]).length = z := ⟨_, rfl⟩
                      rw [hnl] at V7 Z7 S7 HSEP7 ⊢
                      clear hnl V5 Z5 S5 hO5 hO ho6 hg6 hk6 hx6 Z6 S6 B6 hO6 hlg2 hul HSEP
                      show wpList _ _ _ [_] _ _
                      go_wp2
                      refine ⟨hold_of (S0 := fun _ => True) trivial, NoPanic.normal ?_⟩
                      clear dc6 df6
                      obtain ⟨w7, hw7⟩ : ∃ W, W = w6.setCell ⟨g, 2 + t * 5 + k, none⟩ (.slice a' nl c') := ⟨_, rfl⟩
                      rw [← hw7] at V7 Z7 S7 ⊢
                      clear hw7
                      obtain ⟨cs7, hcs7⟩ : ∃ z, cs.set (1 + (1 + (5 * t + k))) (.slice a' nl c') = z := ⟨_, rfl⟩
                      rw [hcs7] at V7 HSEP7
                      clear hcs7 hu
                      have hwm : ∀ i : Nat, i = k → wrap64 ((2 : Int) ^ i) = (m : Int) := fun i hi => by subst hi; exact HWM.out
                      go_wp2
                      go_loopg [14] m (fun g3 v14 wr => ∃ (j : Nat) (lv : List Int), j + g3 = m ∧ v14 = .int .i64 ((f + j : Nat) : Int) ∧ VP w g cs7 ⟨(s0 : Int), ty, upd fr (5 * t + k) (fr (5 * t + k) ++ [(f : Int)])⟩ wr ∧ Blk wr gr 26 zP ∧ Blk wr gl 3 (nums lv) ∧ lv.length = 256 ∧ ∀ x : Nat, x < 256 → (lv.getD x 0 ≠ 0 ↔ L (x : Int) ∧ ¬ (f ≤ x ∧ x < f + j)))
                      case atStart => exact ⟨0, lv, by omega, by rw [Nat.add_zero], V7, Z7, S7, HMK.out.1, fun x hx => by rw [HMK.out.2 x hx]; exact ⟨fun h => ⟨h, by omega⟩, fun h => h.1⟩⟩
                      case round =>
                        clear V7 Z7 S7 HMK
                        obtain ⟨j, lv, hj, rfl, V8, Z8, S8, hll, hmk⟩ := hrel
                        obtain ⟨xq, hxq⟩ : ∃ x, f + j = x := ⟨_, rfl⟩
                        have HLL := Lib.hid hll; have HMK := Lib.hid hmk
                        clear hll hmk
                        cases gk with
                        | zero =>
                          have tq : decide ((xq : Int) < (f : Int) + (m : Int)) = false := by simp; omega
                          have HFIN := Lib.hid (show ∃ L' : Int → Prop, Mk lv L' ∧ Wi ⟨(s0 : Int), ty, fun _ => []⟩ S k ((f + m : Nat) : Int) (upd fr (5 * t + k) (fr (5 * t + k) ++ [(f : Int)])) L' from by
                            refine ⟨fun x => L x ∧ ¬ In (f : Int) k x, ⟨HLL.out, fun x hx => ?_⟩, ?_⟩
                            · rw [HMK.out x hx]
                              unfold In
                              rw [HPW.out]
                              exact ⟨fun h => ⟨h.1, fun h2 => h.2 (by omega)⟩, fun h => ⟨h.1, fun h2 => h.2 (by omega)⟩⟩
                            · have := Wi.take HRR.out HWI.out HMX.out ht HTY.out (L' := fun x => L x ∧ ¬ In (f : Int) k x) (fun x => Iff.rfl)
                              rw [HPW.out] at this
                              rwa [show ((f + m : Nat) : Int) = (f : Int) + (m : Int) by omega])
                          rw [hxq]
                          clear hj hxq
                          go_wp2
                          go_roundg g2
                          case rel =>
                            obtain ⟨L', h1, h2⟩ := HFIN.out
                            exact ⟨f + m, _, cs7, lv, L', by rw [HZ.out]; omega, by go_num, by omega, V8, Z8, S8, HSEP7, h1, h2⟩
                          case measure => omega
                        | succ g3 =>
                          have hjm : j < m := by omega
                          have tq : decide ((xq : Int) < (f : Int) + (m : Int)) = true := by simp; omega
                          have hx256 : xq < 256 := by have := HFM.out; omega
                          obtain ⟨y, hy⟩ := get_some HLL.out hx256
                          have c0 := S8.cell xq
                          rw [nums_get hy] at c0
                          have f0 := S8.frozen xq
                          have HJ := Lib.hid hj; have HXQ := Lib.hid hxq
                          rw [hxq]
                          clear hj hxq hy
                          go_wp2
                          obtain ⟨V9, K9⟩ := V8.beside2 (i := xq) (u := .int .i64 0) S8 hlg HLL.out (by decide) HSEP7
                          have Z9 := K9 gr 26 zP hne (by decide) Z8
                          have S9 := S8.set xq (.int .i64 0)
                          rw [nums_put] at S9
                          clear V8 Z8 S8 K9 c0 f0
                          go_roundg g3
                          case rel =>
                            refine ⟨j + 1, _, by have := HJ.out; omega, by have := HXQ.out; rw [show f + (j + 1) = xq + 1 by omega]; go_num, V9, Z9, S9, by rw [List.length_set]; exact HLL.out, fun x hx => ?_⟩
                            rw [getD_set (by rw [HLL.out]; exact hx256)]
                            have hxe := HXQ.out
                            by_cases e : x = xq
                            · rw [if_pos e]
                              exact ⟨fun h => absurd rfl h, fun h => absurd (by omega) h.2⟩
                            · rw [if_neg e, HMK.out x hx]
                              exact ⟨fun h => ⟨h.1, by omega⟩, fun h => ⟨h.1, by omega⟩⟩
                          case measure => omega
        | succ gg =>
          have hin : i < 256 := by omega
          have ti : decide ((i : Int) < 256) = true := by simp; omega
          have HG := Lib.hid hg
          obtain ⟨x, hx⟩ := get_some HSL.out hin
          obtain ⟨b, off, rfl, cx⟩ := (HS.below V7.b).at hx
          have hl0 : (s.take i ++ List.replicate (256 - i) 0)[i]? = some 0 := by
            have hl : (s.take i).length = i := by rw [List.length_take, HSL.out]; omega
            rw [List.getElem?_append_right (by omega), hl, Nat.sub_self, List.getElem?_replicate, if_pos (by omega)]
          have hll : (s.take i ++ List.replicate (256 - i) 0).length = 256 := by rw [List.length_append, List.length_take, List.length_replicate, HSL.out]; omega
          have c0 := S7.cell i
          rw [nums_get hl0] at c0
          have f0 := S7.frozen i
          have HLS := Lib.hid (lay_step hx hin)
          clear hg hx hl0
          go_wp2
          obtain ⟨V8, K8⟩ := V7.beside2 (i := i) (u := .int .i64 x) S7 hlg hll (by decide) HSEP
          have Z8 := K8 gr 26 zP hne (by decide) Z7
          have S8 := S7.set i (.int .i64 x)
          rw [nums_put, HLS.out] at S8
          clear V7 Z7 S7 K8 hll c0 f0 cx
          go_roundg gg
          case rel => exact ⟨i + 1, by have := HG.out; omega, by go_num, V8, Z8, S8⟩
          case measure => omega
    | succ gg =>
      have hin : i < n := by omega
      have HG := Lib.hid hg
      obtain ⟨x, hx⟩ := get_some HN.out hin
      obtain ⟨b, off, rfl, cx⟩ := HT.at hx
      obtain ⟨u, hu, hO, dc, df⟩ := V4.row0
      have HTK := Lib.hid (show (ty.take i).length = i by rw [List.length_take, HN.out]; omega)
      have HX := Lib.hid (show ty.take (i + 1) = ty.take i ++ [x] by rw [List.take_add_one, hx]; rfl)
      clear hg hx
      go_wp2_with fail
      refine wp_region_plan (fun U => Below w.heap.size w U ∧ Blk U g 26 cs) (.quiet [0, 1, 2, 3, 4, 5] (.only 6 (.only 7 (.quiet [8] (.last 9))))) 9 (by kernel_rfl) (by kernel_rfl) ⟨V4.b.drew, V4.x.later (Below.refl _ _).drew⟩ ?_
      intro W hW hWe
      have bW : Below wr.heap.size wr W := by rw [hWe]; exact (Below.refl _ _).drew
      clear hWe
      simp only [wpPlan, inOrder, List.filterMap_cons, List.filterMap_nil, List.getElem?_cons_zero, List.getElem?_cons_succ]
      have q0 := fun z => cell_later (hold_ok (S0 := fun U => Below w.heap.size w U ∧ Blk U g 26 cs) hW z).1 cx
      have q1 := fun z => ((hold_ok (S0 := fun U => Below w.heap.size w U ∧ Blk U g 26 cs) hW z).2.cell 1).trans hu
      show wpQuiet _ _ _ _ (_ :: _ :: _ :: _ :: _ :: [_]) _
      repeat (go_big_quiet_step (fail))
      refine wpQuiet_nil ?_
      clear q0 q1
      show wpList _ _ _ [_] _ _
      go_wp2
      have B5 := below_then bW (below_box W (.cells #[.int .i64 x] 3))
      have hO5 := hO.later B5
      have V5 := V4.below B5
      have Z5 := Z4.later B5
      refine ⟨hold_of ⟨V5.b, V5.x⟩, ?_⟩
      have HSRC := Lib.hid (src_new W #[.int .i64 x] 3 1 1 1 rfl (by simp [Value.oneCell']))
      obtain ⟨W5, hW5⟩ : ∃ X, X = W.alloc (.cells #[.int .i64 x] 3) := ⟨_, rfl⟩
      rw [← hW5] at hO5 V5 Z5 HSRC ⊢
      clear hW5 B5 bW hW
      refine wpList_append_k K22 rfl (.tmp 24) (.tmp 29) rfl u _ (nums (ty.take i)) rfl hO5 _ 1 1 [.int .i64 x] rfl HSRC.out ?c1 ?c2 ?_
      case c1 => have := HTK.out; omega
      case c2 => exact V5.b.size
      intro u' w6 ho6 hg6 hk6
      have hx6 := V5.x.grown hg6 (V5.x.not_own hO5 (by decide))
      have Z6 := Z5.grown hg6 (Z5.not_own hO5 (by decide))
      have B6 : Below w.heap.size w w6 := V5.b.grown hg6 V5.b.size (fun k hk => (World.ownsRow.lt hO5 k hk).1)
      have hO6 : Own w6 w.heap.size u' (ty.take (i + 1)) := by
        unfold Own
        rw [HX.out, List.length_append]
        have e1 : nums (ty.take i ++ [x]) = nums (ty.take i) ++ [.int .i64 x] := by simp [nums]
        rw [e1]
        exact ho6
      refine wpList_nil ⟨hold_of ⟨B6, hx6⟩, ?_⟩
      simp only [Act.put, List.setIfInBounds_toArray, List.set_cons_succ, List.set_cons_zero]
      show wpQuiet _ _ _ _ ([_]) _
      repeat (go_big_quiet_step (fail))
      refine wpQuiet_nil ?_
      have V7 := V5.put (r := 0) (by decide) hu hg6 hO6 hk6
      have Z7 := Z6.far (p := ⟨g, 1, none⟩) hne u'
      have dc6 : w6.cell? ⟨g, 1, none⟩ = some u := by rw [hx6.cell]; exact hu
      have df6 := hx6.frozen 1
      obtain ⟨a', c', rfl, _⟩ := own_form hO6
      obtain ⟨nl, hnl⟩ : ∃ z, (ty.take (i + 1)).length = z := ⟨_, rfl⟩
      rw [hnl] at V7 Z7 ⊢
      clear hnl V5 Z5 hO5 hO ho6 hg6 hk6 hx6 Z6 B6 hO6 dc df
      show wpList _ _ _ [_] _ _
      go_wp2
      refine ⟨trivial, NoPanic.normal ?_⟩
      clear dc6 df6
      obtain ⟨w7, hw7⟩ : ∃ W, W = w6.setCell ⟨g, 1, none⟩ (.slice a' nl c') := ⟨_, rfl⟩
      rw [show 1 + 0 = 1 from rfl, ← hw7] at V7
      rw [← hw7] at Z7 ⊢
      clear hw7
      go_wp2
      go_roundg gg
      case rel => exact ⟨i + 1, _, by have := HG.out; omega, by go_num, V7, Z7⟩
      case measure => omega
end Go.Proofs.YtkiiifmofmbniaaDoor
