/- Walks: a request is served, of the program. -/
import Derived.Test.YtkiiifmofmbniaaDoorM12
import Derived.Test.YtkiiifmofmbniaaDoorQ3
namespace Go.Mob
open Go.Can
def serveP (p : P) (k : Nat) (t : Int) : P × Int × Int :=
  match find p k t with
  | none => (zero, 0, 16)
  | some (t', j) => ((takeP p t' j k t).1, (takeP p t' j k t).2, 0)
theorem ins_zero {p : P} {f : Int} {k : Nat} (h : insB p f k = true) : insB p f 0 = true := by
  obtain ⟨x1, x2, _⟩ := ins_open h
  unfold insB
  rw [decide_eq_true_eq, pw_zero]
  exact ⟨x1, x2, by omega⟩
/-- The block is in the list of its new type. -/
theorem conv_mem {p : P} (h : Vd p) {f : Int} {a t j : Nat} (ha : a < 3) (ht : t < 3) (hj : j < 5) (hm : f ∈ p.fr (5 * a + j)) (hf : insB p f 0 = true) : Vd (conv p f (t : Int)) ∧ F (conv p f (t : Int)) = F p ∧ f ∈ (conv p f (t : Int)).fr (5 * t + j) := by
  obtain ⟨c1, c2, c3⟩ := conv_vd h hf ht
  refine ⟨c1, c2, ?_⟩
  have hF : F (conv p f (t : Int)) f j := by rw [c2]; exact ⟨by omega, a, ha, hm⟩
  obtain ⟨_, u, hu, h2, h3⟩ := F_at c1.l hF
  have h4 := c3 f hf
  rw [if_pos (by unfold inPB; simp; omega)] at h4
  have : u = t := by omega
  rwa [this] at h3
end Go.Mob
namespace Go.Proofs.YtkiiifmofmbniaaDoor
open Go.RowKit Go.Over Go.Mob Go.Can Go.Seg Go.Grow
theorem dj_of {p : P} (h : Lst p) : Dj p := fun x a b k ha hb hab hk h1 h2 => by
  have g1 := (h.ins (5 * a + k) (by omega) x h1).2
  have g2 := (h.ins (5 * b + k) (by omega) x h2).2
  rw [g1] at g2
  omega
set_option maxRecDepth 100000 in set_option maxHeartbeats 3200000 in
theorem alloc_19 (v : Value) (p : P) (o t : Int) (w : World) (H : Rpv w v p) (hFB : FB w) : Calls Tryd.prog 19 #[v, .int .i64 o, .int .i64 t] w (AnsP2 w (allocP p o t)) := by
  obtain ⟨R, hR⟩ : ∃ R, allocP p o t = R := ⟨_, rfl⟩
  rw [hR]
  have HR := Lib.hid hR
  clear hR
  have HFB := Lib.hid hFB
  clear hFB
  obtain ⟨cs, rfl, hV⟩ := H
  have X0 := XZ.new hV
  clear hV
  go_enter Tryd.func19, Tryd.ntmps19
  go_upto_region 1 with fail
  obtain ⟨w1, hw1⟩ : ∃ W, W = (w.alloc (.cells cs.toArray 26)).alloc (.cells #[.int .i64 0, .slice none 0 0, .slice none 0 0, .slice none 0 0, .slice none 0 0, .slice none 0 0, .slice none 0 0, .slice none 0 0, .slice none 0 0, .slice none 0 0, .slice none 0 0, .slice none 0 0, .slice none 0 0, .slice none 0 0, .slice none 0 0, .slice none 0 0, .slice none 0 0] 26) := ⟨_, rfl⟩
  rw [← hw1] at X0 ⊢
  obtain ⟨gr, hgr⟩ : ∃ g, w.heap.size + 1 = g := ⟨_, rfl⟩
  obtain ⟨g, hg0⟩ : ∃ g, w.heap.size = g := ⟨_, rfl⟩
  have X1 : XZ w g gr cs p w1 := by rw [← hgr, ← hg0]; exact X0
  rw [hgr, hg0]
  clear hw1 X0 hg0 hgr
  go_wp2_with ((with_reducible refine ld ?_ X1.x.x X1.x.v.len ?_); (focus rfl))
  refine (check_14 _ p w1 X1.x.rpv).mono ?_
  rintro e w2 ⟨rfl, b2⟩
  have X2 := X1.below b2
  clear X1 b2
  obtain ⟨c, hc⟩ : ∃ c, chk p = c := ⟨_, rfl⟩
  rw [hc]
  by_cases hc0 : c = 0
  · subst hc0
    have HV := Lib.hid (vd_of hc)
    have HR2 := Lib.hid (show R = if o < 0 ∨ 4 < o then (Mob.zero, 0, 2) else if kindB t = false then (Mob.zero, 0, 1) else serveP p o.toNat t by rw [← HR.out]; exact if_neg (by rw [hc]; decide))
    clear HR hc
    by_cases ho : o < 0 ∨ 4 < o
    · have HF := Lib.hid (show R = (Mob.zero, 0, 2) by rw [HR2.out, if_pos ho])
      rcases ho with ho | ho
      · have t1 : decide (o < 0) = true := by simpa using ho
        have h1z := (MixP.pv (ownP_zero w 0)).one
        go_wp2_with ((with_reducible refine st26 (cs := zP) ?_ ?_ X2.z zP_len zP_len h1z ?_); (focus rfl); (focus rfl); intro w5 hB5 hg5)
        refine bodyPost_ret (results_p2 rfl _ _ gr zP _ _ rfl hB5 zP_len rfl rfl) rfl ?_
        rw [HF.out]
        exact ⟨zP, rfl, ownP_zero _ _, X2.x.b.grown hg5 X2.x.b.size (fun k hk => by cases hk; exact X2.l)⟩
      · have t0 : decide (o < 0) = false := by simp; omega
        have t1 : decide (4 < o) = true := by simpa using ho
        have h1z := (MixP.pv (ownP_zero w 0)).one
        go_wp2_with ((with_reducible refine st26 (cs := zP) ?_ ?_ X2.z zP_len zP_len h1z ?_); (focus rfl); (focus rfl); intro w5 hB5 hg5)
        refine bodyPost_ret (results_p2 rfl _ _ gr zP _ _ rfl hB5 zP_len rfl rfl) rfl ?_
        rw [HF.out]
        exact ⟨zP, rfl, ownP_zero _ _, X2.x.b.grown hg5 X2.x.b.size (fun k hk => by cases hk; exact X2.l)⟩
    · obtain ⟨k, rfl⟩ : ∃ k : Nat, o = (k : Int) := ⟨o.toNat, by omega⟩
      have hk5 : k < 5 := by omega
      rw [Int.toNat_natCast, if_neg ho] at HR2
      have t0 : decide ((k : Int) < 0) = false := by simp
      have t1 : decide (4 < (k : Int)) = false := by simp; omega
      go_wp2_with fail
      refine (kind_43 _ _).mono ?_
      rintro e w' ⟨rfl, rfl⟩
      cases hkd : kindB t with
      | false =>
        have HF := Lib.hid (show R = (Mob.zero, 0, 1) by rw [HR2.out, if_pos hkd])
        clear hkd HR2
        have h1z := (MixP.pv (ownP_zero w 0)).one
        go_wp2_with ((with_reducible refine st26 (cs := zP) ?_ ?_ X2.z zP_len zP_len h1z ?_); (focus rfl); (focus rfl); intro w5 hB5 hg5)
        refine bodyPost_ret (results_p2 rfl _ _ gr zP _ _ rfl hB5 zP_len rfl rfl) rfl ?_
        rw [HF.out]
        exact ⟨zP, rfl, ownP_zero _ _, X2.x.b.grown hg5 X2.x.b.size (fun k hk => by cases hk; exact X2.l)⟩
      | true =>
        rw [if_neg (by rw [hkd]; decide)] at HR2
        obtain ⟨t, rfl⟩ : ∃ n : Nat, t = (n : Int) := ⟨t.toNat, by unfold kindB at hkd; have := of_decide_eq_true hkd; omega⟩
        have ht : t < 3 := by unfold kindB at hkd; have := of_decide_eq_true hkd; omega
        clear hkd ho
        go_wp2_with ((with_reducible refine ld ?_ X2.x.x X2.x.v.len ?_); (focus rfl))
        refine (find_44 _ p k t w2 X2.x.rpv (HFB.out.below X2.x.b) ht hk5).mono ?_
        rintro e w3 ⟨rfl, b3⟩
        have X3 := X2.below b3
        clear X2 b3
        cases hfd : find p k (t : Int) with
        | none =>
          have HF := Lib.hid (show R = (Mob.zero, 0, 16) by rw [HR2.out]; unfold serveP; rw [hfd])
          clear hfd HR2
          simp only [findV]
          have h1z := (MixP.pv (ownP_zero w 0)).one
          go_wp2_with ((with_reducible refine st26 (cs := zP) ?_ ?_ X3.z zP_len zP_len h1z ?_); (focus rfl); (focus rfl); intro w5 hB5 hg5)
          refine bodyPost_ret (results_p2 rfl _ _ gr zP _ _ rfl hB5 zP_len rfl rfl) rfl ?_
          rw [HF.out]
          exact ⟨zP, rfl, ownP_zero _ _, X3.x.b.grown hg5 X3.x.b.size (fun k hk => by cases hk; exact X3.l)⟩
        | some r =>
          obtain ⟨u, j⟩ := r
          obtain ⟨a, ha, rfl, hkj, hj5, hne⟩ := find_spec ht hk5 hfd
          have HR3 := Lib.hid (show R = ((takeP p a j k t).1, (takeP p a j k t).2, 0) by rw [HR2.out]; unfold serveP; rw [hfd])
          clear hfd HR2
          obtain ⟨f, hf⟩ : ∃ f, (p.fr (5 * a + j)).getD 0 0 = f := ⟨_, rfl⟩
          have hmem : (p.fr (5 * a + j))[0]? = some f := by
            rw [List.getD_eq_getElem?_getD, List.getElem?_eq_getElem (by omega)] at hf
            rw [List.getElem?_eq_getElem (by omega), ← hf]; rfl
          have HM := Lib.hid hmem; have HNE := Lib.hid hne; have HFE := Lib.hid hf
          clear hmem hne hf
          have t2 : decide ((j : Int) < 0) = false := by simp
          simp only [findV]
          go_wp2_with ((with_reducible refine ld ?_ X3.x.x X3.x.v.len ?_); (focus rfl))
          refine (clone_45 _ p _ X3.x.rpv (vd_len HV.out.l)).mono ?_
          rintro e w5 ⟨cs', rfl, hO, b5⟩
          have X5 := X3.below b5
          have hO5 := MixP.weaken hO X3.x.b.size
          have hz5 := Blk.new w5 26 #[.int .i64 0, .slice none 0 0, .slice none 0 0, .slice none 0 0, .slice none 0 0, .slice none 0 0, .slice none 0 0, .slice none 0 0, .slice none 0 0, .slice none 0 0, .slice none 0 0, .slice none 0 0, .slice none 0 0, .slice none 0 0, .slice none 0 0, .slice none 0 0, .slice none 0 0] zP rfl
          have Z6 := X5.z.later (below_box w5 (.cells #[.int .i64 0, .slice none 0 0, .slice none 0 0, .slice none 0 0, .slice none 0 0, .slice none 0 0, .slice none 0 0, .slice none 0 0, .slice none 0 0, .slice none 0 0, .slice none 0 0, .slice none 0 0, .slice none 0 0, .slice none 0 0, .slice none 0 0, .slice none 0 0, .slice none 0 0] 26))
          have h1c := (MixP.pv hO5).one
          have hlen := (MixP.pv hO5).len
          have hnez : gr ≠ w5.heap.size := by have := X5.z.lt; omega
          go_upto_region 12 with ((with_reducible refine st26 (cs := cs') ?_ ?_ hz5 zP_len hlen h1c ?_); (focus rfl); (focus rfl); intro w6 hB6 hg6)
          have V6 := VP.new (show OwnP w5 w.heap.size cs' p from hO5) X5.x.b hz5 hB6 hg6
          have Z7 := Z6.grown hg6 (by simpa using Ne.symm hnez)
          obtain ⟨gq, hgq⟩ : ∃ g, w5.heap.size = g := ⟨_, rfl⟩
          rw [hgq] at V6 hnez ⊢
          have hlr := X5.l
          clear hgq hB6 hg6 hz5 Z6 h1c hlen hO5 hO b5 X3 X5
          obtain ⟨v0, hu, hOw, dc, df⟩ := V6.at ha hj5
          obtain ⟨b0, c0, rfl, _, _, h1, h2⟩ := own_pos hOw (by have := HNE.out; omega)
          have hcl : w6.cell? ⟨b0, 0, none⟩ = some (.int .i64 f) := by
            obtain ⟨aq, cq, hq, _, _, _, hI⟩ := hOw.sl
            cases hq
            obtain ⟨bb, off, hb, cx⟩ := hI.at HM.out
            cases hb
            exact cx
          have hne := HNE.out
          obtain ⟨n0, hn0⟩ : ∃ n, (p.fr (5 * a + j)).length = n := ⟨_, rfl⟩
          rw [hn0] at dc h1 hne
          clear hu hOw hn0
          go_upto_region 13 with fail
          clear dc df hcl h1 h2 hne
          have hfm : f ∈ p.fr (5 * a + j) := List.mem_of_getElem? HM.out
          have hins := HV.out.l.ins (5 * a + j) (by omega) f hfm
          rw [show (5 * a + j) % 5 = j by omega, show (5 * a + j) / 5 = a by omega] at hins
          have HIN := Lib.hid hins
          have HFM := Lib.hid hfm
          clear hins hfm
          by_cases hcv : a ≠ t ∧ 3 ≤ j
          · obtain ⟨hat, hj3⟩ := hcv
            have t4 : ((a : Int) != (t : Int)) = true := by simp; omega
            have t5 : decide (3 ≤ (j : Int)) = true := by simp; omega
            obtain ⟨q, hq⟩ : ∃ q, conv p f t = q := ⟨_, rfl⟩
            have HRT := Lib.hid (show R = (⟨q.st, q.ty, split (5 * t) f (j - k) j (upd q.fr (5 * t + j) (del (q.fr (5 * t + j)) f))⟩, f, 0) by
              rw [HR3.out]
              unfold takeP base
              rw [Int.toNat_natCast, HFE.out]
              have hn : ((a : Int) ≠ (t : Int) ∧ 3 ≤ j) := ⟨by omega, hj3⟩
              simp only [if_pos hn, hq, Int.toNat_natCast])
            obtain ⟨e1, e2, e3⟩ := conv_mem HV.out ha ht hj5 HFM.out (ins_zero HIN.out.1)
            rw [hq] at e1 e3
            have HVq := Lib.hid e1; have HFq := Lib.hid e3
            clear e1 e2 e3 HR3
            go_wp2_with fail
            refine (convert_46 w gq cs' p f t w6 V6 HV.out.l (dj_of HV.out.l) (ins_zero HIN.out.1) ht).mono ?_
            rintro e w7 ⟨rfl, ⟨cs7, V7⟩, K7⟩
            rw [hq] at V7
            have Z8 := K7 gr 26 zP hnez (by decide) Z7
            clear hq V6 K7 Z7
            obtain ⟨d1, d2, d3, d4, d5⟩ := take_del HVq.out (f := f) ht hj5 HFq.out
            have HD2 := Lib.hid d2; have HD3 := Lib.hid d3; have HD1 := Lib.hid d1
            have HD5 := Lib.hid (show ∀ x, In f j x → ¬ Cov (F ⟨q.st, q.ty, upd q.fr (5 * t + j) (del (q.fr (5 * t + j)) f)⟩) x from fun x hx hc => ((d5 x).1 hc).2 hx)
            have HCT : Hid ((q.fr (5 * t + j)).contains f = true) := Lib.hid (by simpa using HFq.out)
            have hasc := HVq.out.l.asc (5 * t + j) (by omega)
            have hlen := HVq.out.l.len (i := 5 * t + j) (by omega)
            obtain ⟨v1, hu1, hO1, dc1, df1⟩ := V7.at ht hj5
            obtain ⟨a1, n1, c1, hv1, hn1, hI1⟩ : ∃ aa nn cc, v1 = .slice aa nn cc ∧ (q.fr (5 * t + j)).length = nn ∧ Ints w7 aa (q.fr (5 * t + j)) := by
              obtain ⟨a', c', h1, _, _, _, hI⟩ := hO1.sl
              exact ⟨a', _, c', h1, rfl, hI⟩
            subst hv1
            have hse := search_35 a1 (q.fr (5 * t + j)) n1 c1 f w7 hI1 hn1 (by omega) hasc
            obtain ⟨i, hip⟩ : ∃ i, pos (q.fr (5 * t + j)) f = i := ⟨_, rfl⟩
            rw [hip, HCT.out] at hse
            have HSE := Lib.hid hse
            have hil : i < n1 := by have := (pos_lt hasc HCT.out).1; rw [hip, hn1] at this; exact this
            have HDEL := Lib.hid (show (q.fr (5 * t + j)).eraseIdx i = del (q.fr (5 * t + j)) f by unfold del; rw [hip])
            have hi256 : i < 256 := by omega
            have HN1 := Lib.hid hn1
            clear d1 d2 d3 d4 d5 hse hip hI1 hasc hlen hn1
            go_wp2_with fail
            refine HSE.out.mono ?_
            rintro e w8 ⟨rfl, rfl⟩
            go_wp2_with fail
            refine wp_region_plan (fun _ => True) (.quiet [0, 1, 2, 3, 4, 5, 6, 8, 9, 10, 12, 13] (.only 7 (.only 11 (.quiet [14] (.only 15 .done))))) 99 (by kernel_rfl) (by kernel_rfl) trivial ?_
            intro U _ hWe
            have bW : Below w7.heap.size w7 U := by rw [hWe]; exact (Below.refl _ _).drew
            have V8 := V7.below bW
            have Z8 := Z8.later bW
            have hO8 := hO1.later bW
            have dc8 := cell_later bW dc1
            clear hWe hO1 dc1 df1 bW
            simp only [wpPlan, inOrder, List.filterMap_cons, List.filterMap_nil, List.getElem?_cons_zero, List.getElem?_cons_succ]
            show wpQuiet _ _ _ _ (_ :: _ :: _ :: _ :: _ :: _ :: _ :: _ :: _ :: _ :: _ :: [_]) _
            repeat (go_big_quiet_step (fail))
            refine wpQuiet_nil ?_
            show wpList _ _ _ [_] _ _
            go_wp2
            refine ⟨hold_of (S0 := fun _ => True) trivial, ?_⟩
            show wpList _ _ _ [_] _ _
            go_wp2_with fail
            have hde := dele_47 w.heap.size (.slice a1 n1 c1) (q.fr (5 * t + j)) i U hO8 (by rw [HN1.out]; exact hil) (by have := HVq.out.l.len (i := 5 * t + j) (by omega); omega)
            refine hde.mono ?_
            rintro e w9 ⟨v', rfl, hO9, hg9, hn9⟩
            rw [HDEL.out] at hO9
            have V9 := V8.put2 ht hj5 hu1 hg9 hO9 hn9
            have hx9 := V8.x.grown hg9 (V8.x.not_own hO8 (by decide))
            have Z9 := (Kn.put hO8 hg9 (2 + t * 5 + j) (u := v')) gr 26 zP hnez (by decide) Z8
            have dc9 : w9.cell? ⟨gq, 2 + t * 5 + j, none⟩ = some (.slice a1 n1 c1) := by rw [hx9.cell, ← V8.x.cell]; exact dc8
            have df9 := hx9.frozen (2 + t * 5 + j)
            obtain ⟨a', c', rfl, _⟩ := own_form hO9
            clear V8 Z8 hO8 dc8 hO9 hg9 hn9 hde hx9 hu1
            go_wp2
            refine ⟨hold_of (S0 := fun _ => True) trivial, ?_⟩
            show wpQuiet _ _ _ _ ([_]) _
            repeat (go_big_quiet_step (fail))
            refine wpQuiet_nil ?_
            show wpList _ _ _ [_] _ _
            go_wp2
            refine ⟨hold_of (S0 := fun _ => True) trivial, NoPanic.normal ?_⟩
            clear dc9 df9
            obtain ⟨wA, hwA⟩ : ∃ W, W = w9.setCell ⟨gq, 2 + t * 5 + j, none⟩ (.slice a' (del (q.fr (5 * t + j)) f).length c') := ⟨_, rfl⟩
            rw [← hwA] at V9 Z9 ⊢
            clear hwA
            go_wp2
            go_loopg [11] (j - k) (fun gg v11 wr => ∃ (i : Nat) (fr : Nat → List Int) (cs : List Value), i = k + gg ∧ v11 = .int .i64 i ∧ VP w gq cs ⟨q.st, q.ty, fr⟩ wr ∧ Blk wr gr 26 zP ∧ Vd ⟨q.st, q.ty, fr⟩ ∧ Mob.R ⟨q.st, q.ty, fr⟩ f i ∧ tyAt ⟨q.st, q.ty, fr⟩ f = (t : Int) ∧ (∀ x, In f i x → ¬ Cov (F ⟨q.st, q.ty, fr⟩) x) ∧ R = (⟨q.st, q.ty, split (5 * t) f gg i fr⟩, f, 0))
            case atStart => exact ⟨j, _, _, by omega, rfl, V9, Z9, HD1.out, HD2.out, HD3.out, HD5.out, HRT.out⟩
            case round =>
              clear V9 Z9 HD1 HD2 HD3 HD5 HRT HSE HDEL HN1 HCT
              obtain ⟨i, fr, csx, hi, rfl, V10, Z10, hV10, hR10, hT10, hC10, hRR⟩ := hrel
              cases gk with
              | zero =>
                obtain rfl : i = k := by omega
                have ti : decide ((i : Int) < (i : Int)) = false := by simp
                have HFIN := Lib.hid (show R = (⟨q.st, q.ty, fr⟩, f, 0) from hRR)
                clear hi hV10 hR10 hT10 hC10 hRR
                have h1x := V10.v.one
                go_wp2_with first | ((with_reducible refine ld ?_ V10.x V10.v.len ?_); (focus rfl)) | ((with_reducible refine st26 (cs := csx) ?_ ?_ Z10 zP_len V10.v.len h1x ?_); (focus rfl); (focus rfl); intro w11 hB11 hg11)
                refine bodyPost_ret (results_p2 rfl _ _ gr csx _ _ rfl hB11 V10.v.len rfl rfl) rfl ?_
                rw [HFIN.out]
                exact ⟨csx, rfl, OwnP.grown V10.o Z10 hg11, V10.b.grown hg11 V10.b.size (fun k hk => by cases hk; exact hlr)⟩
              | succ gg =>
                obtain ⟨i', hi'⟩ : ∃ i', i = i' + 1 := ⟨i - 1, by omega⟩
                have hi5 : i' < 5 := by have := hR10.1; omega
                rw [hi'] at hR10 hC10 hRR
                obtain ⟨s1, s2, s3, s4⟩ := split_step ht hV10 hR10 hT10 hC10
                have s5 : ∀ x, In f i' x → ¬ Cov (F ⟨q.st, q.ty, upd fr (5 * t + i') (ins (fr (5 * t + i')) (f + pw i'))⟩) x := fun x hx hc => by
                  have hp := pw_succ i'
                  have hp0 := pw_pos i'
                  rcases (s4 x).1 hc with h1 | h1
                  · exact hC10 x ⟨hx.1, by have := hx.2; omega⟩ h1
                  · exact h1.2 hx
                obtain ⟨z1, z2, z3⟩ := ins_lt hV10.l.rng (show i' + 1 < 5 by have := hR10.1; omega) hR10.2
                have hp := pw_succ i'
                obtain ⟨m, hwm, hpm, hm16⟩ : ∃ m : Nat, wrap64 ((2 : Int) ^ i') = (m : Int) ∧ pw i' = (m : Int) ∧ m ≤ 16 := ⟨2 ^ i', wrap_pow hi5, rfl, pow_le16 hi5⟩
                have HWM := Lib.hid hwm
                clear hwm
                rw [hpm] at s1 s2 s3 s5 hp
                have hfm0 : 0 ≤ f + (m : Int) := by omega
                have hfm1 : f + (m : Int) ≤ 256 := by omega
                have hei : (i : Int) - 1 = (i' : Int) := by omega
                have td : decide ((k : Int) < (i : Int)) = true := by simp; omega
                have hki : k < i := by omega
                have HRR := Lib.hid (show R = (⟨q.st, q.ty, split (5 * t) f gg i' (upd fr (5 * t + i') (ins (fr (5 * t + i')) (f + (m : Int))))⟩, f, 0) by
                  rw [hRR, ← hpm]; rfl)
                have HI := Lib.hid (show i' = k + gg by omega)
                have HS1 := Lib.hid s1; have HS2 := Lib.hid s2; have HS3 := Lib.hid s3; have HS5 := Lib.hid s5
                have hasc := hV10.l.asc (5 * t + i') (by omega)
                have hlen := hV10.l.len (i := 5 * t + i') (by omega)
                obtain ⟨v2, hu2, hO2, dc2, df2⟩ := V10.at ht hi5
                simp only at hO2 hasc hlen
                clear hi hi' hV10 hR10 hT10 hC10 hRR s1 s2 s3 s4 s5 z1 z2 z3 hp hpm
                have hwm := HWM.out
                go_wp2_with fail
                refine wp_region_plan (fun _ => True) (.quiet [0, 1, 2, 3, 4, 5, 6, 8, 9, 10, 11, 13, 14] (.only 7 (.only 12 (.quiet [15] (.only 16 .done))))) 99 (by kernel_rfl) (by kernel_rfl) trivial ?_
                intro U2 _ hWe
                have bW := (show Below wr.heap.size wr U2 by rw [hWe]; exact (Below.refl _ _).drew)
                have V11 := V10.below bW
                have Z11 := Z10.later bW
                have hO11 := hO2.later bW
                have dc11 := cell_later bW dc2
                clear hWe hO2 dc2 df2 bW V10 Z10
                simp only [wpPlan, inOrder, List.filterMap_cons, List.filterMap_nil, List.getElem?_cons_zero, List.getElem?_cons_succ]
                show wpQuiet _ _ _ _ (_ :: _ :: _ :: _ :: _ :: _ :: _ :: _ :: _ :: _ :: _ :: _ :: [_]) _
                iterate 10 (go_big_quiet_step (fail))
                try simp only [hwm]
                clear hwm
                repeat (go_big_quiet_step (fail))
                refine wpQuiet_nil ?_
                show wpList _ _ _ [_] _ _
                go_wp2
                refine ⟨hold_of (S0 := fun _ => True) trivial, ?_⟩
                show wpList _ _ _ [_] _ _
                go_wp2_with fail
                refine (add_48 w.heap.size v2 (fr (5 * t + i')) (f + (m : Int)) U2 hO11 hasc (by omega) V11.b.size).mono ?_
                rintro e w12 ⟨v', rfl, hO12, hg12, hn12⟩
                have V12 := V11.put2 ht hi5 hu2 hg12 hO12 hn12
                have hx12 := V11.x.grown hg12 (V11.x.not_own hO11 (by decide))
                have Z12 := (Kn.put hO11 hg12 (2 + t * 5 + i') (u := v')) gr 26 zP hnez (by decide) Z11
                have dc12 : w12.cell? ⟨gq, 2 + t * 5 + i', none⟩ = some v2 := by rw [hx12.cell, ← V11.x.cell]; exact dc11
                have df12 := hx12.frozen (2 + t * 5 + i')
                obtain ⟨a2, c2, rfl, _⟩ := own_form hO12
                clear V11 Z11 hO11 dc11 hO12 hg12 hn12 hx12 hu2 hasc hlen
                go_wp2
                refine ⟨hold_of (S0 := fun _ => True) trivial, ?_⟩
                show wpQuiet _ _ _ _ ([_]) _
                repeat (go_big_quiet_step (fail))
                refine wpQuiet_nil ?_
                show wpList _ _ _ [_] _ _
                go_wp2
                refine ⟨hold_of (S0 := fun _ => True) trivial, NoPanic.normal ?_⟩
                clear dc12 df12
                obtain ⟨wB, hwB⟩ : ∃ W, W = w12.setCell ⟨gq, 2 + t * 5 + i', none⟩ (.slice a2 (ins (fr (5 * t + i')) (f + (m : Int))).length c2) := ⟨_, rfl⟩
                rw [← hwB] at V12 Z12 ⊢
                clear hwB
                go_wp2
                go_roundg gg
                case rel => exact ⟨i', _, _, HI.out, by go_num, V12, Z12, HS1.out, HS2.out, HS3.out, HS5.out, HRR.out⟩
                case measure => omega
          · have HRT := Lib.hid (show R = (⟨p.st, p.ty, split (5 * a) f (j - k) j (upd p.fr (5 * a + j) (del (p.fr (5 * a + j)) f))⟩, f, 0) by
              rw [HR3.out]
              unfold takeP base
              rw [Int.toNat_natCast, HFE.out]
              have hn : ¬ ((a : Int) ≠ (t : Int) ∧ 3 ≤ j) := fun h => hcv ⟨by omega, h.2⟩
              simp only [if_neg hn])
            clear HR3
            by_cases hat : a = t
            · subst hat
              have t4 : ((a : Int) != (a : Int)) = false := by simp
              obtain ⟨d1, d2, d3, d4, d5⟩ := take_del HV.out (f := f) ha hj5 HFM.out
              have HD2 := Lib.hid d2; have HD3 := Lib.hid d3; have HD1 := Lib.hid d1
              have HD5 := Lib.hid (show ∀ x, In f j x → ¬ Cov (F ⟨p.st, p.ty, upd p.fr (5 * a + j) (del (p.fr (5 * a + j)) f)⟩) x from fun x hx hc => ((d5 x).1 hc).2 hx)
              have HCT : Hid ((p.fr (5 * a + j)).contains f = true) := Lib.hid (by simpa using HFM.out)
              have hasc := HV.out.l.asc (5 * a + j) (by omega)
              have hlen := HV.out.l.len (i := 5 * a + j) (by omega)
              obtain ⟨v1, hu1, hO1, dc1, df1⟩ := V6.at ha hj5
              obtain ⟨a1, n1, c1, hv1, hn1, hI1⟩ : ∃ aa nn cc, v1 = .slice aa nn cc ∧ (p.fr (5 * a + j)).length = nn ∧ Ints w6 aa (p.fr (5 * a + j)) := by
                obtain ⟨a', c', h1, _, _, _, hI⟩ := hO1.sl
                exact ⟨a', _, c', h1, rfl, hI⟩
              subst hv1
              have hse := search_35 a1 (p.fr (5 * a + j)) n1 c1 f w6 hI1 hn1 (by omega) hasc
              obtain ⟨i, hip⟩ : ∃ i, pos (p.fr (5 * a + j)) f = i := ⟨_, rfl⟩
              rw [hip, HCT.out] at hse
              have HSE := Lib.hid hse
              have hil : i < n1 := by have := (pos_lt hasc HCT.out).1; rw [hip, hn1] at this; exact this
              have HDEL := Lib.hid (show (p.fr (5 * a + j)).eraseIdx i = del (p.fr (5 * a + j)) f by unfold del; rw [hip])
              have hi256 : i < 256 := by omega
              have HN1 := Lib.hid hn1
              clear d1 d2 d3 d4 d5 hse hip hI1 hasc hlen hn1
              go_wp2_with fail
              refine HSE.out.mono ?_
              rintro e w8 ⟨rfl, rfl⟩
              go_wp2_with fail
              refine wp_region_plan (fun _ => True) (.quiet [0, 1, 2, 3, 4, 5, 6, 8, 9, 10, 12, 13] (.only 7 (.only 11 (.quiet [14] (.only 15 .done))))) 99 (by kernel_rfl) (by kernel_rfl) trivial ?_
              intro U _ hWe
              have bW : Below w6.heap.size w6 U := by rw [hWe]; exact (Below.refl _ _).drew
              have V8 := V6.below bW
              have Z8 := Z7.later bW
              have hO8 := hO1.later bW
              have dc8 := cell_later bW dc1
              clear hWe hO1 dc1 df1 bW
              simp only [wpPlan, inOrder, List.filterMap_cons, List.filterMap_nil, List.getElem?_cons_zero, List.getElem?_cons_succ]
              show wpQuiet _ _ _ _ (_ :: _ :: _ :: _ :: _ :: _ :: _ :: _ :: _ :: _ :: _ :: [_]) _
              repeat (go_big_quiet_step (fail))
              refine wpQuiet_nil ?_
              show wpList _ _ _ [_] _ _
              go_wp2
              refine ⟨hold_of (S0 := fun _ => True) trivial, ?_⟩
              show wpList _ _ _ [_] _ _
              go_wp2_with fail
              have hde := dele_47 w.heap.size (.slice a1 n1 c1) (p.fr (5 * a + j)) i U hO8 (by rw [HN1.out]; exact hil) (by have := HV.out.l.len (i := 5 * a + j) (by omega); omega)
              refine hde.mono ?_
              rintro e w9 ⟨v', rfl, hO9, hg9, hn9⟩
              rw [HDEL.out] at hO9
              have V9 := V8.put2 ha hj5 hu1 hg9 hO9 hn9
              have hx9 := V8.x.grown hg9 (V8.x.not_own hO8 (by decide))
              have Z9 := (Kn.put hO8 hg9 (2 + a * 5 + j) (u := v')) gr 26 zP hnez (by decide) Z8
              have dc9 : w9.cell? ⟨gq, 2 + a * 5 + j, none⟩ = some (.slice a1 n1 c1) := by rw [hx9.cell, ← V8.x.cell]; exact dc8
              have df9 := hx9.frozen (2 + a * 5 + j)
              obtain ⟨a', c', rfl, _⟩ := own_form hO9
              clear V8 Z8 hO8 dc8 hO9 hg9 hn9 hde hx9 hu1
              go_wp2
              refine ⟨hold_of (S0 := fun _ => True) trivial, ?_⟩
              show wpQuiet _ _ _ _ ([_]) _
              repeat (go_big_quiet_step (fail))
              refine wpQuiet_nil ?_
              show wpList _ _ _ [_] _ _
              go_wp2
              refine ⟨hold_of (S0 := fun _ => True) trivial, NoPanic.normal ?_⟩
              clear dc9 df9
              obtain ⟨wA, hwA⟩ : ∃ W, W = w9.setCell ⟨gq, 2 + a * 5 + j, none⟩ (.slice a' (del (p.fr (5 * a + j)) f).length c') := ⟨_, rfl⟩
              rw [← hwA] at V9 Z9 ⊢
              clear hwA
              go_wp2
              go_loopg [11] (j - k) (fun gg v11 wr => ∃ (i : Nat) (fr : Nat → List Int) (cs : List Value), i = k + gg ∧ v11 = .int .i64 i ∧ VP w gq cs ⟨p.st, p.ty, fr⟩ wr ∧ Blk wr gr 26 zP ∧ Vd ⟨p.st, p.ty, fr⟩ ∧ Mob.R ⟨p.st, p.ty, fr⟩ f i ∧ tyAt ⟨p.st, p.ty, fr⟩ f = (a : Int) ∧ (∀ x, In f i x → ¬ Cov (F ⟨p.st, p.ty, fr⟩) x) ∧ R = (⟨p.st, p.ty, split (5 * a) f gg i fr⟩, f, 0))
              case atStart => exact ⟨j, _, _, by omega, rfl, V9, Z9, HD1.out, HD2.out, HD3.out, HD5.out, HRT.out⟩
              case round =>
                clear V9 Z9 HD1 HD2 HD3 HD5 HRT HSE HDEL HN1 HCT
                obtain ⟨i, fr, csx, hi, rfl, V10, Z10, hV10, hR10, hT10, hC10, hRR⟩ := hrel
                cases gk with
                | zero =>
                  obtain rfl : i = k := by omega
                  have ti : decide ((i : Int) < (i : Int)) = false := by simp
                  have HFIN := Lib.hid (show R = (⟨p.st, p.ty, fr⟩, f, 0) from hRR)
                  clear hi hV10 hR10 hT10 hC10 hRR
                  have h1x := V10.v.one
                  go_wp2_with first | ((with_reducible refine ld ?_ V10.x V10.v.len ?_); (focus rfl)) | ((with_reducible refine st26 (cs := csx) ?_ ?_ Z10 zP_len V10.v.len h1x ?_); (focus rfl); (focus rfl); intro w11 hB11 hg11)
                  refine bodyPost_ret (results_p2 rfl _ _ gr csx _ _ rfl hB11 V10.v.len rfl rfl) rfl ?_
                  rw [HFIN.out]
                  exact ⟨csx, rfl, OwnP.grown V10.o Z10 hg11, V10.b.grown hg11 V10.b.size (fun k hk => by cases hk; exact hlr)⟩
                | succ gg =>
                  obtain ⟨i', hi'⟩ : ∃ i', i = i' + 1 := ⟨i - 1, by omega⟩
                  have hi5 : i' < 5 := by have := hR10.1; omega
                  rw [hi'] at hR10 hC10 hRR
                  obtain ⟨s1, s2, s3, s4⟩ := split_step ha hV10 hR10 hT10 hC10
                  have s5 : ∀ x, In f i' x → ¬ Cov (F ⟨p.st, p.ty, upd fr (5 * a + i') (ins (fr (5 * a + i')) (f + pw i'))⟩) x := fun x hx hc => by
                    have hp := pw_succ i'
                    have hp0 := pw_pos i'
                    rcases (s4 x).1 hc with h1 | h1
                    · exact hC10 x ⟨hx.1, by have := hx.2; omega⟩ h1
                    · exact h1.2 hx
                  obtain ⟨z1, z2, z3⟩ := ins_lt hV10.l.rng (show i' + 1 < 5 by have := hR10.1; omega) hR10.2
                  have hp := pw_succ i'
                  obtain ⟨m, hwm, hpm, hm16⟩ : ∃ m : Nat, wrap64 ((2 : Int) ^ i') = (m : Int) ∧ pw i' = (m : Int) ∧ m ≤ 16 := ⟨2 ^ i', wrap_pow hi5, rfl, pow_le16 hi5⟩
                  have HWM := Lib.hid hwm
                  clear hwm
                  rw [hpm] at s1 s2 s3 s5 hp
                  have hfm0 : 0 ≤ f + (m : Int) := by omega
                  have hfm1 : f + (m : Int) ≤ 256 := by omega
                  have hei : (i : Int) - 1 = (i' : Int) := by omega
                  have td : decide ((k : Int) < (i : Int)) = true := by simp; omega
                  have hki : k < i := by omega
                  have HRR := Lib.hid (show R = (⟨p.st, p.ty, split (5 * a) f gg i' (upd fr (5 * a + i') (ins (fr (5 * a + i')) (f + (m : Int))))⟩, f, 0) by
                    rw [hRR, ← hpm]; rfl)
                  have HI := Lib.hid (show i' = k + gg by omega)
                  have HS1 := Lib.hid s1; have HS2 := Lib.hid s2; have HS3 := Lib.hid s3; have HS5 := Lib.hid s5
                  have hasc := hV10.l.asc (5 * a + i') (by omega)
                  have hlen := hV10.l.len (i := 5 * a + i') (by omega)
                  obtain ⟨v2, hu2, hO2, dc2, df2⟩ := V10.at ha hi5
                  simp only at hO2 hasc hlen
                  clear hi hi' hV10 hR10 hT10 hC10 hRR s1 s2 s3 s4 s5 z1 z2 z3 hp hpm
                  have hwm := HWM.out
                  go_wp2_with fail
                  refine wp_region_plan (fun _ => True) (.quiet [0, 1, 2, 3, 4, 5, 6, 8, 9, 10, 11, 13, 14] (.only 7 (.only 12 (.quiet [15] (.only 16 .done))))) 99 (by kernel_rfl) (by kernel_rfl) trivial ?_
                  intro U2 _ hWe
                  have bW := (show Below wr.heap.size wr U2 by rw [hWe]; exact (Below.refl _ _).drew)
                  have V11 := V10.below bW
                  have Z11 := Z10.later bW
                  have hO11 := hO2.later bW
                  have dc11 := cell_later bW dc2
                  clear hWe hO2 dc2 df2 bW V10 Z10
                  simp only [wpPlan, inOrder, List.filterMap_cons, List.filterMap_nil, List.getElem?_cons_zero, List.getElem?_cons_succ]
                  show wpQuiet _ _ _ _ (_ :: _ :: _ :: _ :: _ :: _ :: _ :: _ :: _ :: _ :: _ :: _ :: [_]) _
                  iterate 10 (go_big_quiet_step (fail))
                  try simp only [hwm]
                  clear hwm
                  repeat (go_big_quiet_step (fail))
                  refine wpQuiet_nil ?_
                  show wpList _ _ _ [_] _ _
                  go_wp2
                  refine ⟨hold_of (S0 := fun _ => True) trivial, ?_⟩
                  show wpList _ _ _ [_] _ _
                  go_wp2_with fail
                  refine (add_48 w.heap.size v2 (fr (5 * a + i')) (f + (m : Int)) U2 hO11 hasc (by omega) V11.b.size).mono ?_
                  rintro e w12 ⟨v', rfl, hO12, hg12, hn12⟩
                  have V12 := V11.put2 ha hi5 hu2 hg12 hO12 hn12
                  have hx12 := V11.x.grown hg12 (V11.x.not_own hO11 (by decide))
                  have Z12 := (Kn.put hO11 hg12 (2 + a * 5 + i') (u := v')) gr 26 zP hnez (by decide) Z11
                  have dc12 : w12.cell? ⟨gq, 2 + a * 5 + i', none⟩ = some v2 := by rw [hx12.cell, ← V11.x.cell]; exact dc11
                  have df12 := hx12.frozen (2 + a * 5 + i')
                  obtain ⟨a2, c2, rfl, _⟩ := own_form hO12
                  clear V11 Z11 hO11 dc11 hO12 hg12 hn12 hx12 hu2 hasc hlen
                  go_wp2
                  refine ⟨hold_of (S0 := fun _ => True) trivial, ?_⟩
                  show wpQuiet _ _ _ _ ([_]) _
                  repeat (go_big_quiet_step (fail))
                  refine wpQuiet_nil ?_
                  show wpList _ _ _ [_] _ _
                  go_wp2
                  refine ⟨hold_of (S0 := fun _ => True) trivial, NoPanic.normal ?_⟩
                  clear dc12 df12
                  obtain ⟨wB, hwB⟩ : ∃ W, W = w12.setCell ⟨gq, 2 + a * 5 + i', none⟩ (.slice a2 (ins (fr (5 * a + i')) (f + (m : Int))).length c2) := ⟨_, rfl⟩
                  rw [← hwB] at V12 Z12 ⊢
                  clear hwB
                  go_wp2
                  go_roundg gg
                  case rel => exact ⟨i', _, _, HI.out, by go_num, V12, Z12, HS1.out, HS2.out, HS3.out, HS5.out, HRR.out⟩
                  case measure => omega
            · have t4 : ((a : Int) != (t : Int)) = true := by simp; omega
              have t5 : decide (3 ≤ (j : Int)) = false := by simp; omega
              obtain ⟨d1, d2, d3, d4, d5⟩ := take_del HV.out (f := f) ha hj5 HFM.out
              have HD2 := Lib.hid d2; have HD3 := Lib.hid d3; have HD1 := Lib.hid d1
              have HD5 := Lib.hid (show ∀ x, In f j x → ¬ Cov (F ⟨p.st, p.ty, upd p.fr (5 * a + j) (del (p.fr (5 * a + j)) f)⟩) x from fun x hx hc => ((d5 x).1 hc).2 hx)
              have HCT : Hid ((p.fr (5 * a + j)).contains f = true) := Lib.hid (by simpa using HFM.out)
              have hasc := HV.out.l.asc (5 * a + j) (by omega)
              have hlen := HV.out.l.len (i := 5 * a + j) (by omega)
              obtain ⟨v1, hu1, hO1, dc1, df1⟩ := V6.at ha hj5
              obtain ⟨a1, n1, c1, hv1, hn1, hI1⟩ : ∃ aa nn cc, v1 = .slice aa nn cc ∧ (p.fr (5 * a + j)).length = nn ∧ Ints w6 aa (p.fr (5 * a + j)) := by
                obtain ⟨a', c', h1, _, _, _, hI⟩ := hO1.sl
                exact ⟨a', _, c', h1, rfl, hI⟩
              subst hv1
              have hse := search_35 a1 (p.fr (5 * a + j)) n1 c1 f w6 hI1 hn1 (by omega) hasc
              obtain ⟨i, hip⟩ : ∃ i, pos (p.fr (5 * a + j)) f = i := ⟨_, rfl⟩
              rw [hip, HCT.out] at hse
              have HSE := Lib.hid hse
              have hil : i < n1 := by have := (pos_lt hasc HCT.out).1; rw [hip, hn1] at this; exact this
              have HDEL := Lib.hid (show (p.fr (5 * a + j)).eraseIdx i = del (p.fr (5 * a + j)) f by unfold del; rw [hip])
              have hi256 : i < 256 := by omega
              have HN1 := Lib.hid hn1
              clear d1 d2 d3 d4 d5 hse hip hI1 hasc hlen hn1
              go_wp2_with fail
              refine HSE.out.mono ?_
              rintro e w8 ⟨rfl, rfl⟩
              go_wp2_with fail
              refine wp_region_plan (fun _ => True) (.quiet [0, 1, 2, 3, 4, 5, 6, 8, 9, 10, 12, 13] (.only 7 (.only 11 (.quiet [14] (.only 15 .done))))) 99 (by kernel_rfl) (by kernel_rfl) trivial ?_
              intro U _ hWe
              have bW : Below w6.heap.size w6 U := by rw [hWe]; exact (Below.refl _ _).drew
              have V8 := V6.below bW
              have Z8 := Z7.later bW
              have hO8 := hO1.later bW
              have dc8 := cell_later bW dc1
              clear hWe hO1 dc1 df1 bW
              simp only [wpPlan, inOrder, List.filterMap_cons, List.filterMap_nil, List.getElem?_cons_zero, List.getElem?_cons_succ]
              show wpQuiet _ _ _ _ (_ :: _ :: _ :: _ :: _ :: _ :: _ :: _ :: _ :: _ :: _ :: [_]) _
              repeat (go_big_quiet_step (fail))
              refine wpQuiet_nil ?_
              show wpList _ _ _ [_] _ _
              go_wp2
              refine ⟨hold_of (S0 := fun _ => True) trivial, ?_⟩
              show wpList _ _ _ [_] _ _
              go_wp2_with fail
              have hde := dele_47 w.heap.size (.slice a1 n1 c1) (p.fr (5 * a + j)) i U hO8 (by rw [HN1.out]; exact hil) (by have := HV.out.l.len (i := 5 * a + j) (by omega); omega)
              refine hde.mono ?_
              rintro e w9 ⟨v', rfl, hO9, hg9, hn9⟩
              rw [HDEL.out] at hO9
              have V9 := V8.put2 ha hj5 hu1 hg9 hO9 hn9
              have hx9 := V8.x.grown hg9 (V8.x.not_own hO8 (by decide))
              have Z9 := (Kn.put hO8 hg9 (2 + a * 5 + j) (u := v')) gr 26 zP hnez (by decide) Z8
              have dc9 : w9.cell? ⟨gq, 2 + a * 5 + j, none⟩ = some (.slice a1 n1 c1) := by rw [hx9.cell, ← V8.x.cell]; exact dc8
              have df9 := hx9.frozen (2 + a * 5 + j)
              obtain ⟨a', c', rfl, _⟩ := own_form hO9
              clear V8 Z8 hO8 dc8 hO9 hg9 hn9 hde hx9 hu1
              go_wp2
              refine ⟨hold_of (S0 := fun _ => True) trivial, ?_⟩
              show wpQuiet _ _ _ _ ([_]) _
              repeat (go_big_quiet_step (fail))
              refine wpQuiet_nil ?_
              show wpList _ _ _ [_] _ _
              go_wp2
              refine ⟨hold_of (S0 := fun _ => True) trivial, NoPanic.normal ?_⟩
              clear dc9 df9
              obtain ⟨wA, hwA⟩ : ∃ W, W = w9.setCell ⟨gq, 2 + a * 5 + j, none⟩ (.slice a' (del (p.fr (5 * a + j)) f).length c') := ⟨_, rfl⟩
              rw [← hwA] at V9 Z9 ⊢
              clear hwA
              go_wp2
              go_loopg [11] (j - k) (fun gg v11 wr => ∃ (i : Nat) (fr : Nat → List Int) (cs : List Value), i = k + gg ∧ v11 = .int .i64 i ∧ VP w gq cs ⟨p.st, p.ty, fr⟩ wr ∧ Blk wr gr 26 zP ∧ Vd ⟨p.st, p.ty, fr⟩ ∧ Mob.R ⟨p.st, p.ty, fr⟩ f i ∧ tyAt ⟨p.st, p.ty, fr⟩ f = (a : Int) ∧ (∀ x, In f i x → ¬ Cov (F ⟨p.st, p.ty, fr⟩) x) ∧ R = (⟨p.st, p.ty, split (5 * a) f gg i fr⟩, f, 0))
              case atStart => exact ⟨j, _, _, by omega, rfl, V9, Z9, HD1.out, HD2.out, HD3.out, HD5.out, HRT.out⟩
              case round =>
                clear V9 Z9 HD1 HD2 HD3 HD5 HRT HSE HDEL HN1 HCT
                obtain ⟨i, fr, csx, hi, rfl, V10, Z10, hV10, hR10, hT10, hC10, hRR⟩ := hrel
                cases gk with
                | zero =>
                  obtain rfl : i = k := by omega
                  have ti : decide ((i : Int) < (i : Int)) = false := by simp
                  have HFIN := Lib.hid (show R = (⟨p.st, p.ty, fr⟩, f, 0) from hRR)
                  clear hi hV10 hR10 hT10 hC10 hRR
                  have h1x := V10.v.one
                  go_wp2_with first | ((with_reducible refine ld ?_ V10.x V10.v.len ?_); (focus rfl)) | ((with_reducible refine st26 (cs := csx) ?_ ?_ Z10 zP_len V10.v.len h1x ?_); (focus rfl); (focus rfl); intro w11 hB11 hg11)
                  refine bodyPost_ret (results_p2 rfl _ _ gr csx _ _ rfl hB11 V10.v.len rfl rfl) rfl ?_
                  rw [HFIN.out]
                  exact ⟨csx, rfl, OwnP.grown V10.o Z10 hg11, V10.b.grown hg11 V10.b.size (fun k hk => by cases hk; exact hlr)⟩
                | succ gg =>
                  obtain ⟨i', hi'⟩ : ∃ i', i = i' + 1 := ⟨i - 1, by omega⟩
                  have hi5 : i' < 5 := by have := hR10.1; omega
                  rw [hi'] at hR10 hC10 hRR
                  obtain ⟨s1, s2, s3, s4⟩ := split_step ha hV10 hR10 hT10 hC10
                  have s5 : ∀ x, In f i' x → ¬ Cov (F ⟨p.st, p.ty, upd fr (5 * a + i') (ins (fr (5 * a + i')) (f + pw i'))⟩) x := fun x hx hc => by
                    have hp := pw_succ i'
                    have hp0 := pw_pos i'
                    rcases (s4 x).1 hc with h1 | h1
                    · exact hC10 x ⟨hx.1, by have := hx.2; omega⟩ h1
                    · exact h1.2 hx
                  obtain ⟨z1, z2, z3⟩ := ins_lt hV10.l.rng (show i' + 1 < 5 by have := hR10.1; omega) hR10.2
                  have hp := pw_succ i'
                  obtain ⟨m, hwm, hpm, hm16⟩ : ∃ m : Nat, wrap64 ((2 : Int) ^ i') = (m : Int) ∧ pw i' = (m : Int) ∧ m ≤ 16 := ⟨2 ^ i', wrap_pow hi5, rfl, pow_le16 hi5⟩
                  have HWM := Lib.hid hwm
                  clear hwm
                  rw [hpm] at s1 s2 s3 s5 hp
                  have hfm0 : 0 ≤ f + (m : Int) := by omega
                  have hfm1 : f + (m : Int) ≤ 256 := by omega
                  have hei : (i : Int) - 1 = (i' : Int) := by omega
                  have td : decide ((k : Int) < (i : Int)) = true := by simp; omega
                  have hki : k < i := by omega
                  have HRR := Lib.hid (show R = (⟨p.st, p.ty, split (5 * a) f gg i' (upd fr (5 * a + i') (ins (fr (5 * a + i')) (f + (m : Int))))⟩, f, 0) by
                    rw [hRR, ← hpm]; rfl)
                  have HI := Lib.hid (show i' = k + gg by omega)
                  have HS1 := Lib.hid s1; have HS2 := Lib.hid s2; have HS3 := Lib.hid s3; have HS5 := Lib.hid s5
                  have hasc := hV10.l.asc (5 * a + i') (by omega)
                  have hlen := hV10.l.len (i := 5 * a + i') (by omega)
                  obtain ⟨v2, hu2, hO2, dc2, df2⟩ := V10.at ha hi5
                  simp only at hO2 hasc hlen
                  clear hi hi' hV10 hR10 hT10 hC10 hRR s1 s2 s3 s4 s5 z1 z2 z3 hp hpm
                  have hwm := HWM.out
                  go_wp2_with fail
                  refine wp_region_plan (fun _ => True) (.quiet [0, 1, 2, 3, 4, 5, 6, 8, 9, 10, 11, 13, 14] (.only 7 (.only 12 (.quiet [15] (.only 16 .done))))) 99 (by kernel_rfl) (by kernel_rfl) trivial ?_
                  intro U2 _ hWe
                  have bW := (show Below wr.heap.size wr U2 by rw [hWe]; exact (Below.refl _ _).drew)
                  have V11 := V10.below bW
                  have Z11 := Z10.later bW
                  have hO11 := hO2.later bW
                  have dc11 := cell_later bW dc2
                  clear hWe hO2 dc2 df2 bW V10 Z10
                  simp only [wpPlan, inOrder, List.filterMap_cons, List.filterMap_nil, List.getElem?_cons_zero, List.getElem?_cons_succ]
                  show wpQuiet _ _ _ _ (_ :: _ :: _ :: _ :: _ :: _ :: _ :: _ :: _ :: _ :: _ :: _ :: [_]) _
                  iterate 10 (go_big_quiet_step (fail))
                  try simp only [hwm]
                  clear hwm
                  repeat (go_big_quiet_step (fail))
                  refine wpQuiet_nil ?_
                  show wpList _ _ _ [_] _ _
                  go_wp2
                  refine ⟨hold_of (S0 := fun _ => True) trivial, ?_⟩
                  show wpList _ _ _ [_] _ _
                  go_wp2_with fail
                  refine (add_48 w.heap.size v2 (fr (5 * a + i')) (f + (m : Int)) U2 hO11 hasc (by omega) V11.b.size).mono ?_
                  rintro e w12 ⟨v', rfl, hO12, hg12, hn12⟩
                  have V12 := V11.put2 ha hi5 hu2 hg12 hO12 hn12
                  have hx12 := V11.x.grown hg12 (V11.x.not_own hO11 (by decide))
                  have Z12 := (Kn.put hO11 hg12 (2 + a * 5 + i') (u := v')) gr 26 zP hnez (by decide) Z11
                  have dc12 : w12.cell? ⟨gq, 2 + a * 5 + i', none⟩ = some v2 := by rw [hx12.cell, ← V11.x.cell]; exact dc11
                  have df12 := hx12.frozen (2 + a * 5 + i')
                  obtain ⟨a2, c2, rfl, _⟩ := own_form hO12
                  clear V11 Z11 hO11 dc11 hO12 hg12 hn12 hx12 hu2 hasc hlen
                  go_wp2
                  refine ⟨hold_of (S0 := fun _ => True) trivial, ?_⟩
                  show wpQuiet _ _ _ _ ([_]) _
                  repeat (go_big_quiet_step (fail))
                  refine wpQuiet_nil ?_
                  show wpList _ _ _ [_] _ _
                  go_wp2
                  refine ⟨hold_of (S0 := fun _ => True) trivial, NoPanic.normal ?_⟩
                  clear dc12 df12
                  obtain ⟨wB, hwB⟩ : ∃ W, W = w12.setCell ⟨gq, 2 + a * 5 + i', none⟩ (.slice a2 (ins (fr (5 * a + i')) (f + (m : Int))).length c2) := ⟨_, rfl⟩
                  rw [← hwB] at V12 Z12 ⊢
                  clear hwB
                  go_wp2
                  go_roundg gg
                  case rel => exact ⟨i', _, _, HI.out, by go_num, V12, Z12, HS1.out, HS2.out, HS3.out, HS5.out, HRR.out⟩
                  case measure => omega
  · have HF := Lib.hid (show R = (Mob.zero, 0, c) by rw [← HR.out]; unfold allocP; rw [if_pos (by rw [hc]; exact hc0), hc])
    have t0 : (c != 0) = true := by simpa using hc0
    have h1z := (MixP.pv (ownP_zero w 0)).one
    go_wp2_with ((with_reducible refine st26 (cs := zP) ?_ ?_ X2.z zP_len zP_len h1z ?_); (focus rfl); (focus rfl); intro w5 hB5 hg5)
    refine bodyPost_ret (results_p2 rfl _ _ gr zP _ _ rfl hB5 zP_len rfl rfl) rfl ?_
    rw [HF.out]
    exact ⟨zP, rfl, ownP_zero _ _, X2.x.b.grown hg5 X2.x.b.size (fun k hk => by cases hk; exact X2.l)⟩
end Go.Proofs.YtkiiifmofmbniaaDoor
