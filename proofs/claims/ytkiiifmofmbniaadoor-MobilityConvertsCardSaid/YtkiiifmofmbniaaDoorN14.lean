/- Walks: the law on new page blocks. -/
import Derived.Test.YtkiiifmofmbniaaDoorN13
namespace Go.Proofs.YtkiiifmofmbniaaDoor
open Go.RowKit Go.Over Go.Mob Go.Can Go.Seg Go.Grow
/-- The same page blocks. -/
def Sm (p q : P) : Prop := p.st = q.st ∧ p.ty = q.ty ∧ (∀ i, i < 15 → p.fr i = q.fr i) ∧ lenB p
theorem lenB_vd {p : P} (h : Vd p) : lenB p := vd_len h.l
theorem sm_vd {p q : P} {st : Int} {ty : List Int} {S : Int → Prop} (hp : Vd p) (h1 : p.st = st) (h2 : p.ty = ty) (hc : ∀ x, Cov (F p) x ↔ S x) (hq : Is st ty S q) : Sm p q := by
  obtain ⟨q1, q2, q3, q4⟩ := hq
  exact ⟨h1.trans q1.symm, h2.trans q2.symm, vd_uniq hp q3 (h1.trans q1.symm) (h2.trans q2.symm) fun x => (hc x).trans (q4 x).symm, lenB_vd hp⟩
theorem sm_zero : Sm Mob.zero Mob.zero := ⟨rfl, rfl, fun _ _ => rfl, Nat.zero_le _, fun _ _ => Nat.zero_le _⟩
set_option maxRecDepth 100000 in set_option maxHeartbeats 3200000 in
theorem begins_4 (st : Int) (aT : Option Addr) (ty : List Int) (n cT : Nat) (w : World) (HT : Ints w aT ty) (hn : ty.length = n) (hnc : n ≤ cT) (hcm : cT ≤ maxLen) (haz : aT = none → cT = 0) (hFB : FB w) :
    Calls Tryd.prog 4 #[.int .i64 st, .slice aT n cT] w fun e w' => e = .returned (.bool true) ∧ Below w.heap.size w w' := by
  have HN := Lib.hid hn; have HNC := Lib.hid hnc; have HCM := Lib.hid hcm; have HAZ := Lib.hid haz
  clear hn hnc hcm haz
  go_enter Tryd.func4, Tryd.ntmps4
  go_wp2_with fail
  refine (awake_12 _ hFB).mono ?_
  rintro e w1 ⟨rfl, b1⟩
  by_cases h40 : 40 < n
  · have t0 : decide ((40 : Int) < (n : Int)) = true := by simp; omega
    go_wp2_with fail
    refine (awake_12 _ (hFB.below b1)).mono ?_
    rintro e w2 ⟨rfl, b2⟩
    go_wp2
    go_ret
    exact ⟨rfl, below_then b1 b2⟩
  have t0 : decide ((40 : Int) < (n : Int)) = false := by simp; omega
  have hle : n ≤ 40 := by omega
  clear h40
  have HT1 := HT.below b1
  go_wp2_with fail
  refine (new_16 st (.slice aT n cT) ty w1 ⟨aT, cT, by rw [HN.out], by rw [HN.out]; exact HNC.out, HCM.out, HAZ.out, HT1⟩ (by rw [HN.out]; omega)).mono ?_
  obtain ⟨RR, hR⟩ : ∃ R, newP st ty = R := ⟨_, rfl⟩
  obtain ⟨pq, c⟩ := RR
  rw [hR]
  have HR := Lib.hid hR
  clear hR
  rintro e w2 ⟨cs1, rfl, hO, b2⟩
  have HT2 := HT1.below b2
  have hO1w := MixP.weaken hO b1.size
  have hz1 := Blk.new w2 26 #[.int .i64 0, .slice none 0 0, .slice none 0 0, .slice none 0 0, .slice none 0 0, .slice none 0 0, .slice none 0 0, .slice none 0 0, .slice none 0 0, .slice none 0 0, .slice none 0 0, .slice none 0 0, .slice none 0 0, .slice none 0 0, .slice none 0 0, .slice none 0 0, .slice none 0 0] zP rfl
  have h11 := (MixP.pv hO1w).one
  have hl1 := (MixP.pv hO1w).len
  go_upto_region 4 with ((with_reducible refine st26 (cs := cs1) ?_ ?_ hz1 zP_len hl1 h11 ?_); (focus rfl); (focus rfl); intro wS hBS hgS)
  have V1 := VP.new hO1w (below_then b1 b2) hz1 hBS hgS
  have bS : Below w2.heap.size w2 wS := (below_box w2 (.cells #[.int .i64 0, .slice none 0 0, .slice none 0 0, .slice none 0 0, .slice none 0 0, .slice none 0 0, .slice none 0 0, .slice none 0 0, .slice none 0 0, .slice none 0 0, .slice none 0 0, .slice none 0 0, .slice none 0 0, .slice none 0 0, .slice none 0 0, .slice none 0 0, .slice none 0 0] 26)).grown hgS (by simp) (fun k hk => Nat.le_of_eq (Option.some.inj hk))
  obtain ⟨g1, hgq⟩ : ∃ g, w2.heap.size = g := ⟨_, rfl⟩
  rw [hgq] at V1 ⊢
  clear hgq hBS hgS hz1 h11 hl1 hO1w
  have HT3 := HT2.below bS
  clear hO b1 b2 bS HT1 HT2
  have hN := refNew_17 st aT ty n cT wS HT3 HN.out HNC.out HCM.out HAZ.out
  obtain ⟨Q, hC, hSm⟩ : ∃ Q : P → Prop, Calls Tryd.prog 17 #[.int .i64 st, .slice aT n cT] wS (AnsR wS Q c) ∧ ∀ q, Q q → Sm pq q := by
    cases hr : rngB ⟨st, ty, fun _ => []⟩ with
    | false =>
      have h1 : newP st ty = (Mob.zero, 2) := by unfold newP; rw [if_pos hr]
      have h2 := HR.out
      rw [h1] at h2
      cases h2
      exact ⟨_, hN.1 hr, fun q hq => by rw [hq]; exact sm_zero⟩
    | true =>
      obtain ⟨q0, h1, hS⟩ := new_ok hr
      have h2 := HR.out
      rw [h1] at h2
      cases h2
      exact ⟨_, hN.2 hr, fun q hq => sm_vd hS.v hS.s hS.t (fun x => by rw [hS.c x, HN.out]) hq⟩
  have HSM := Lib.hid hSm; have HC := Lib.hid hC
  clear hSm hC hN
  go_wp2_with fail
  refine HC.out.mono ?_
  rintro e w4 ⟨cs2, q, rfl, hO, b4, hq⟩
  have V2 := V1.below b4
  have HSQ := Lib.hid (HSM.out q hq)
  have hO4 := MixP.weaken hO V1.b.size
  clear V1 hq HC hO b4
  have hz4 := Blk.new w4 26 #[.int .i64 0, .slice none 0 0, .slice none 0 0, .slice none 0 0, .slice none 0 0, .slice none 0 0, .slice none 0 0, .slice none 0 0, .slice none 0 0, .slice none 0 0, .slice none 0 0, .slice none 0 0, .slice none 0 0, .slice none 0 0, .slice none 0 0, .slice none 0 0, .slice none 0 0] zP rfl
  have h14 := (MixP.pv hO4).one
  have hl4 := (MixP.pv hO4).len
  go_upto_region 5 with ((with_reducible refine st26 (cs := cs2) ?_ ?_ hz4 zP_len hl4 h14 ?_); (focus rfl); (focus rfl); intro wT hBT hgT)
  have V4 := VP.new hO4 V2.b hz4 hBT hgT
  have V3 := V2.below ((below_box w4 (.cells #[.int .i64 0, .slice none 0 0, .slice none 0 0, .slice none 0 0, .slice none 0 0, .slice none 0 0, .slice none 0 0, .slice none 0 0, .slice none 0 0, .slice none 0 0, .slice none 0 0, .slice none 0 0, .slice none 0 0, .slice none 0 0, .slice none 0 0, .slice none 0 0, .slice none 0 0] 26)).grown hgT (by simp) (fun k hk => Nat.le_of_eq (Option.some.inj hk)))
  obtain ⟨g4, hg4⟩ : ∃ g, w4.heap.size = g := ⟨_, rfl⟩
  rw [hg4] at V4 ⊢
  clear hg4 hBT hgT hz4 h14 hl4 hO4 V2
  have tc : (c == c) = true := by simp
  go_wp2_with first | ((with_reducible refine ldg ?_ ?_ V3.x V3.v.len ?_); (focus rfl); (focus rfl)) | ((with_reducible refine ldg ?_ ?_ V4.x V4.v.len ?_); (focus rfl); (focus rfl))
  refine (same_18 _ _ pq q wT V3.rpv V4.rpv HSQ.out.1 HSQ.out.2.1 HSQ.out.2.2.1 HSQ.out.2.2.2).mono ?_
  rintro e w5 ⟨rfl, b5⟩
  go_wp2
  go_ret
  exact ⟨rfl, (V3.below b5).b⟩
end Go.Proofs.YtkiiifmofmbniaaDoor
