/- Walks: a page block is converted, the exported function. -/
import Derived.Test.YtkiiifmofmbniaaDoorM13
namespace Go.Proofs.YtkiiifmofmbniaaDoor
open Go.RowKit Go.Over Go.Mob Go.Can Go.Seg Go.Grow
set_option maxRecDepth 100000 in set_option maxHeartbeats 3200000 in
theorem convert_26 (v : Value) (p : P) (f t : Int) (w : World) (H : Rpv w v p) : Calls Tryd.prog 26 #[v, .int .i64 f, .int .i64 t] w (AnsP1 w (convP p f t)) := by
  obtain ⟨R, hR⟩ : ∃ R, convP p f t = R := ⟨_, rfl⟩
  rw [hR]
  have HR := Lib.hid hR
  clear hR
  obtain ⟨cs, rfl, hV⟩ := H
  have X0 := XZ.new hV
  clear hV
  go_enter Tryd.func26, Tryd.ntmps26
  go_upto_region 1 with fail
  obtain ⟨w1, hw1⟩ : ∃ W, W = (w.alloc (.cells cs.toArray 26)).alloc (.cells #[.int .i64 0, .slice none 0 0, .slice none 0 0, .slice none 0 0, .slice none 0 0, .slice none 0 0, .slice none 0 0, .slice none 0 0, .slice none 0 0, .slice none 0 0, .slice none 0 0, .slice none 0 0, .slice none 0 0, .slice none 0 0, .slice none 0 0, .slice none 0 0, .slice none 0 0] 26) := ⟨_, rfl⟩
  rw [← hw1] at X0 ⊢
  obtain ⟨gr, hgr⟩ : ∃ g, w.heap.size + 1 = g := ⟨_, rfl⟩
  obtain ⟨g, hg0⟩ : ∃ g, w.heap.size = g := ⟨_, rfl⟩
  have X1 : XZ w g gr cs p w1 := by rw [← hgr, ← hg0]; exact X0
  rw [hgr, hg0]
  clear hw1 X0 hg0 hgr
  go_wp2_with ((with_reducible refine ld ?_ X1.x.x X1.x.v.len ?_); (focus rfl))
  refine (check_14 _ p w1 X1.x.rpv).mono ?_
  rintro e w2 ⟨rfl, b2⟩
  have X2 := X1.below b2
  clear X1 b2
  obtain ⟨c, hc⟩ : ∃ c, chk p = c := ⟨_, rfl⟩
  rw [hc]
  by_cases hc0 : c = 0
  · subst hc0
    have HV := Lib.hid (vd_of hc)
    have HR2 := Lib.hid (show R = if insB p f 0 = false then (Mob.zero, 2) else if kindB t = false then (Mob.zero, 1) else (conv p f t, 0) by rw [← HR.out]; exact if_neg (by rw [hc]; decide))
    clear HR hc
    go_wp2_with ((with_reducible refine ld ?_ X2.x.x X2.x.v.len ?_); (focus rfl))
    refine (inside_33 _ p f 0 (by decide) w2 X2.x.rpv HV.out.l.rng).mono ?_
    rintro e w3 ⟨rfl, b3⟩
    have X3 := X2.below b3
    clear X2 b3
    cases hin : insB p f 0 with
    | false =>
      have HF := Lib.hid (show R = (Mob.zero, 2) by rw [HR2.out, if_pos hin])
      clear hin HR2
      have h1z := (MixP.pv (ownP_zero w 0)).one
      go_wp2_with ((with_reducible refine st26 (cs := zP) ?_ ?_ X3.z zP_len zP_len h1z ?_); (focus rfl); (focus rfl); intro w5 hB5 hg5)
      refine bodyPost_ret (results_p1 rfl _ _ gr zP _ rfl hB5 zP_len rfl) rfl ?_
      rw [HF.out]
      exact ⟨zP, rfl, ownP_zero _ _, X3.x.b.grown hg5 X3.x.b.size (fun k hk => by cases hk; exact X3.l)⟩
    | true =>
      have HIN := Lib.hid hin
      rw [if_neg (by rw [hin]; decide)] at HR2
      clear hin
      go_wp2_with fail
      refine (kind_43 _ _).mono ?_
      rintro e w' ⟨rfl, rfl⟩
      cases hkd : kindB t with
      | false =>
        have HF := Lib.hid (show R = (Mob.zero, 1) by rw [HR2.out, if_pos hkd])
        clear hkd HR2
        have h1z := (MixP.pv (ownP_zero w 0)).one
        go_wp2_with ((with_reducible refine st26 (cs := zP) ?_ ?_ X3.z zP_len zP_len h1z ?_); (focus rfl); (focus rfl); intro w5 hB5 hg5)
        refine bodyPost_ret (results_p1 rfl _ _ gr zP _ rfl hB5 zP_len rfl) rfl ?_
        rw [HF.out]
        exact ⟨zP, rfl, ownP_zero _ _, X3.x.b.grown hg5 X3.x.b.size (fun k hk => by cases hk; exact X3.l)⟩
      | true =>
        have HF := Lib.hid (show R = (conv p f t, 0) by rw [HR2.out, if_neg (by rw [hkd]; decide)])
        obtain ⟨t, rfl⟩ : ∃ n : Nat, t = (n : Int) := ⟨t.toNat, by unfold kindB at hkd; have := of_decide_eq_true hkd; omega⟩
        have ht : t < 3 := by unfold kindB at hkd; have := of_decide_eq_true hkd; omega
        clear hkd HR2
        go_wp2_with ((with_reducible refine ld ?_ X3.x.x X3.x.v.len ?_); (focus rfl))
        refine (clone_45 _ p _ X3.x.rpv (vd_len HV.out.l)).mono ?_
        rintro e w5 ⟨cs', rfl, hO, b5⟩
        have X5 := X3.below b5
        have hO5 := MixP.weaken hO X3.x.b.size
        have hz5 := Blk.new w5 26 #[.int .i64 0, .slice none 0 0, .slice none 0 0, .slice none 0 0, .slice none 0 0, .slice none 0 0, .slice none 0 0, .slice none 0 0, .slice none 0 0, .slice none 0 0, .slice none 0 0, .slice none 0 0, .slice none 0 0, .slice none 0 0, .slice none 0 0, .slice none 0 0, .slice none 0 0] zP rfl
        have Z6 := X5.z.later (below_box w5 (.cells #[.int .i64 0, .slice none 0 0, .slice none 0 0, .slice none 0 0, .slice none 0 0, .slice none 0 0, .slice none 0 0, .slice none 0 0, .slice none 0 0, .slice none 0 0, .slice none 0 0, .slice none 0 0, .slice none 0 0, .slice none 0 0, .slice none 0 0, .slice none 0 0, .slice none 0 0] 26))
        have h1c := (MixP.pv hO5).one
        have hlen := (MixP.pv hO5).len
        have hnez : gr ≠ w5.heap.size := by have := X5.z.lt; omega
        go_upto_region 9 with ((with_reducible refine st26 (cs := cs') ?_ ?_ hz5 zP_len hlen h1c ?_); (focus rfl); (focus rfl); intro w6 hB6 hg6)
        have V6 := VP.new (show OwnP w5 w.heap.size cs' p from hO5) X5.x.b hz5 hB6 hg6
        have Z7 := Z6.grown hg6 (by simpa using Ne.symm hnez)
        obtain ⟨gq, hgq⟩ : ∃ g, w5.heap.size = g := ⟨_, rfl⟩
        rw [hgq] at V6 hnez ⊢
        have hlr := X5.l
        clear hgq hB6 hg6 hz5 Z6 h1c hlen hO5 hO b5 X3 X5
        go_wp2_with fail
        refine (convert_46 w gq cs' p f t w6 V6 HV.out.l (dj_of HV.out.l) HIN.out ht).mono ?_
        rintro e w7 ⟨rfl, ⟨cs7, V7⟩, K7⟩
        have Z8 := K7 gr 26 zP hnez (by decide) Z7
        clear V6 K7 Z7
        have h1x := V7.v.one
        go_wp2_with first | ((with_reducible refine ld ?_ V7.x V7.v.len ?_); (focus rfl)) | ((with_reducible refine st26 (cs := cs7) ?_ ?_ Z8 zP_len V7.v.len h1x ?_); (focus rfl); (focus rfl); intro w11 hB11 hg11)
        refine bodyPost_ret (results_p1 rfl _ _ gr cs7 _ rfl hB11 V7.v.len rfl) rfl ?_
        rw [HF.out]
        exact ⟨cs7, rfl, OwnP.grown V7.o Z8 hg11, V7.b.grown hg11 V7.b.size (fun k hk => by cases hk; exact hlr)⟩
  · have HF := Lib.hid (show R = (Mob.zero, c) by rw [← HR.out]; unfold convP; rw [if_pos (by rw [hc]; exact hc0), hc])
    have t0 : (c != 0) = true := by simpa using hc0
    have h1z := (MixP.pv (ownP_zero w 0)).one
    go_wp2_with ((with_reducible refine st26 (cs := zP) ?_ ?_ X2.z zP_len zP_len h1z ?_); (focus rfl); (focus rfl); intro w5 hB5 hg5)
    refine bodyPost_ret (results_p1 rfl _ _ gr zP _ rfl hB5 zP_len rfl) rfl ?_
    rw [HF.out]
    exact ⟨zP, rfl, ownP_zero _ _, X2.x.b.grown hg5 X2.x.b.size (fun k hk => by cases hk; exact X2.l)⟩
end Go.Proofs.YtkiiifmofmbniaaDoor
