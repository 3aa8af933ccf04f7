/- Walks: the taking of free objects. -/
import Derived.Test.YthhdiiboblaclaaW16
namespace Go.Proofs.Ythhdiiboblaclaa
open Go.RowKit Go.Over Go.Slb Go.Seg Go.Grow
theorem set_same {α : Type} {l : List α} {i : Nat} {x : α} (h : l[i]? = some x) : l.set i x = l := by
  apply List.ext_getElem?
  intro k
  by_cases hk : i = k
  · subst hk
    rw [List.getElem?_set_self (by rw [List.getElem?_eq_some_iff] at h; exact h.1), h]
  · rw [List.getElem?_set_ne hk]
theorem own_blk {w : World} {base e size n g c : Nat} {xs : List Value} (h : w.ownsRow base e size (.slice (some ⟨g, 0, none⟩) n c) n xs) : ∃ cur, Blk w g e cur ∧ cur.take (n * size) = xs := by
  rcases h.2 with ⟨h1, _⟩ | ⟨g', cap, cur, h1, _, h2, _, _, _, h3⟩
  · cases h1
  · cases h1
    exact ⟨cur.toList, by unfold Blk; simpa using h2, h3⟩
theorem OwnC.at {w : World} {base n c : Nat} {a : Option Addr} {rs : List R} {i : Nat} {r : R} (h : OwnC w base (.slice a n c) rs) (hr : rs[i]? = some r) :
    ∃ b off, a = some ⟨b, off, none⟩ ∧ w.cell? ⟨b, off + i * 2, none⟩ = some (.int .i64 r.1) ∧ w.cell? ⟨b, off + i * 2 + 1, none⟩ = some (.slice (some ⟨r.2.2.1, 0, none⟩) r.2.1.length r.2.2.2) := by
  have hlt : i < rs.length := by rw [List.getElem?_eq_some_iff] at hr; exact hr.1
  obtain ⟨g, c', hv, _, _, _, _⟩ := own_pos h.out (by omega)
  cases hv
  obtain ⟨k0, k1⟩ := cellsR_get hr
  have q := World.ownsRow.cells h.out (g := g) rfl
  have q0 := q _ _ k0
  have q1 := q _ _ k1
  rw [add_row] at q0 q1
  exact ⟨g, 0, rfl, q0, by rw [Nat.add_assoc]; exact q1⟩
theorem OwnC.flag_at {w : World} {base : Nat} {V : Value} {rs : List R} {i j : Nat} {f : Int} {u : List Bool} {g c : Nat} (h : OwnC w base V rs) (hr : rs[i]? = some (f, u, g, c)) (hj : j < u.length) :
    w.cell? ⟨g, j, none⟩ = some (.bool (u.getD j false)) ∧ w.frozen? ⟨g, j, none⟩ = false ∧ u.length ≤ c ∧ c ≤ maxLen := by
  have hi := h.inn _ (List.mem_of_getElem? hr)
  obtain ⟨cur, hb, _⟩ := own_blk hi
  obtain ⟨h1, h2⟩ := cap_own hi
  refine ⟨?_, hb.frozen j, h1, h2⟩
  have := World.ownsRow.cells hi (g := g) rfl j (.bool (u.getD j false)) (by
    show (u.map Value.bool)[j]? = _
    rw [List.getElem?_map, List.getElem?_eq_getElem hj, List.getD_eq_getElem?_getD, List.getElem?_eq_getElem hj]; rfl)
  rwa [add_row, Nat.zero_add] at this
theorem own_flag_kept {w : World} {base e size n m g c : Nat} {v : Value} {xs ys : List Value} (h : w.ownsRow base e size v n xs) {base' : Nat} (hg : w.ownsRow base' 4 1 (.slice (some ⟨g, 0, none⟩) m c) m ys) (he : e ≠ 4) (j : Nat) (b : Value) : (w.setCell ⟨g, j, none⟩ b).ownsRow base e size v n xs :=
  h.kept (grown_set w g j b) (by
    rcases inner_ne_outer h hg he with h1 | h1
    · exact .inl h1
    · exact .inr h1)
set_option maxRecDepth 100000 in set_option maxHeartbeats 3200000 in
theorem take_38 (base X Y : Nat) (fa : Option Addr) (fm fc : Nat) (F : List Int) (o : Int) (a : Option Addr) (n c : Nat) (rs : List R) (N : Nat) (w : World) (E : Env w base X Y fa fm fc F) (hm : fm ≤ 1000000) (hO : OwnC w base (.slice a n c) rs) (hn : rs.length = n) (hS : Small o (rs.map sl)) (hN : N ≤ 1000000) :
    Calls Try.prog 40 #[.agg #[.int .i64 o, .slice a n c], .int .i64 N, .func (.func 38) #[] #[.pointer (some ⟨X, 0, none⟩)]] w fun e w' => ∃ v rs', e = .returned v ∧ OwnC w' base (.slice a n c) rs' ∧ rs'.map sl = (tk o (fun x => F.contains x) N (rs.map sl)).1 ∧ rs'.map (·.2.2.1) = rs.map (·.2.2.1) ∧ OwnI w' w.heap.size v (tk o (fun x => F.contains x) N (rs.map sl)).2 ∧ Only (rs.map (·.2.2.1)) w w' := by
  obtain ⟨T, hT⟩ : ∃ T, tk o (fun x => F.contains x) N (rs.map sl) = T := ⟨_, rfl⟩
  rw [hT]
  have HT := Lib.hid hT
  have HN := Lib.hid hn
  have HS := Lib.hid hS
  have HE := Lib.hid E
  obtain ⟨gs, hgs⟩ : ∃ gs, rs.map (·.2.2.1) = gs := ⟨_, rfl⟩
  rw [hgs]
  have HGS := Lib.hid hgs
  have HO0 := Lib.hid hO
  have hlow : ∀ g ∈ gs, base ≤ g := by rw [← hgs]; exact hO.gs_low
  have HLOW := Lib.hid hlow
  have hn1000 : n ≤ 1000 := by have := hS.n; rw [List.length_map, hn] at this; exact this
  obtain ⟨w1, hw1⟩ : ∃ w1, w1 = w.alloc (.cells #[.int .i64 o, .slice a n c] 24) := ⟨_, rfl⟩
  have hB1 : Blk w1 w.heap.size 24 [.int .i64 o, .slice a n c] := by rw [hw1]; exact Blk.new w 24 _ _ rfl
  have k0 : w1.cell? ⟨w.heap.size, 0, none⟩ = some (.int .i64 o) := hB1.cell 0
  have k1 : w1.cell? ⟨w.heap.size, 1, none⟩ = some (.slice a n c) := hB1.cell 1
  have hO1 : OwnC w1 base (.slice a n c) rs := by rw [hw1]; exact hO.alloc _
  have hon1 : Only gs w w1 := (Only.refl gs w).then (by rw [hw1]; exact below_box w _)
  have hz1 : w.heap.size < w1.heap.size := by rw [hw1]; simp
  have HW := Lib.hid hw1
  clear hw1 hT hn hS E hgs hlow hO
  go_enter Try.func40, Try.ntmps40
  go_wp2
  rw [← HW.out]
  clear HW k0 k1
  go_loopg [7, 14] n (fun g v0 i0 wr => ∃ (i : Nat) (L : List Int) (v : Value) (rs' : List R), i + g = n ∧ v = v0 ∧ i0 = .int .i64 i ∧ L.length ≤ i * 40 ∧ rs'.map (·.2.2.1) = gs ∧ OwnC wr base (.slice a n c) rs' ∧ (∃ P, P.length = i ∧ rs'.map sl = P ++ (rs.map sl).drop i ∧ T = (P ++ (tk o (fun x => F.contains x) (N - L.length) ((rs.map sl).drop i)).1, L ++ (tk o (fun x => F.contains x) (N - L.length) ((rs.map sl).drop i)).2)) ∧ OwnI wr w.heap.size v L ∧ Only gs w wr ∧ Blk wr w.heap.size 24 [.int .i64 o, .slice a n c])
  case atStart => exact ⟨0, [], _, rs, by omega, rfl, rfl, by simp, HGS.out, hO1, ⟨[], rfl, rfl, by rw [← HT.out]; rfl⟩, World.ownsRow_nil _ _ _ _, hon1, hB1⟩
  case round =>
    clear hO1 hon1 hB1 hz1
    obtain ⟨i, L, v, rs', hg, rfl, rfl, hLl, hgs', hO, hP, hI, hon, hB⟩ := hrel
    have hP := Lib.hid hP
    cases gk with
    | zero =>
      obtain rfl : i = n := by omega
      have HFin := Lib.hid (show rs'.map sl = T.1 ∧ L = T.2 by
        obtain ⟨P, h1, h2, h3⟩ := hP.out
        rw [List.drop_eq_nil_of_le (by rw [List.length_map, HN.out]; exact Nat.le_refl _)] at h2 h3
        rw [h3]; simp [tk, h2])
      clear hg hP
      go_wp2
      go_ret
      exact ⟨_, rs', rfl, hO, HFin.out.1, hgs', by rw [← HFin.out.2]; exact hI, hon⟩
    | succ g =>
      have hin : i < n := by omega
      have hlen' : rs'.length = n := by
        have h1 := congrArg List.length hgs'
        have h2 := congrArg List.length HGS.out
        rw [List.length_map] at h1 h2
        rw [h1, ← h2]; exact HN.out
      obtain ⟨⟨f, u, gg, cp⟩, hs⟩ := get_some hlen' hin
      obtain ⟨P, hP1, hP2, hP3⟩ := hP.out
      have hsl : (rs.map sl)[i]? = some (f, u) := by
        have h1 : (rs'.map sl)[i]? = some (f, u) := by rw [List.getElem?_map, hs]; rfl
        rw [hP2, List.getElem?_append_right (by omega), hP1, Nat.sub_self, List.getElem?_drop] at h1
        exact h1
      have hfr := HS.out.fr _ (List.mem_of_getElem? hsl)
      have hul := HS.out.len _ (List.mem_of_getElem? hsl)
      have ho0 := HS.out.o0
      have ho1 := HS.out.o1
      rw [drop_get hsl] at hP2 hP3
      have HMid := Lib.hid (Mid.start (want := fun x => F.contains x) hP3)
      have HP1 := Lib.hid hP1; have HP2 := Lib.hid hP2
      obtain ⟨b, off, rfl, s0, s1⟩ := hO.at hs
      obtain ⟨hcp1, hcp2⟩ : u.length ≤ cp ∧ cp ≤ maxLen := cap_own (hO.inn _ (List.mem_of_getElem? hs))
      obtain ⟨um, hum⟩ : ∃ m, u.length = m := ⟨_, rfl⟩
      simp only [hum] at s0 s1 hul hfr hcp1
      obtain ⟨bw, hbw⟩ : ∃ bw, ((fun x => F.contains x) : Int → Bool) f = bw := ⟨_, rfl⟩
      have HMid2 := Lib.hid (show Mid o (fun x => F.contains x) N T P f bw 0 [] u L ((rs.map sl).drop (i + 1)) by rw [← hbw]; exact HMid.out)
      have HBW := Lib.hid hbw
      obtain ⟨pp, hpp⟩ : ∃ p : Int, f * o = p := ⟨_, rfl⟩
      have hpb := mul_small hfr.1 hfr.2 ho0 ho1
      rw [hpp] at hpb
      obtain ⟨hp0, hp1⟩ := hpb
      have HPP := Lib.hid hpp
      have HM := Lib.hid hum; have HG := Lib.hid hg; have HSI := Lib.hid hs
      clear hum hg hs hP hP1 hP2 hP3 HMid hsl hbw hpp hlen'
      have c1 : wr.cell? ⟨w.heap.size, 1, none⟩ = some (.slice (some ⟨b, off, none⟩) n c) := hB.cell 1
      have hOb := hO.alloc (.cells #[.int .i64 f, .slice (some ⟨gg, 0, none⟩) um cp] 52)
      have hIb : OwnI (wr.alloc (.cells #[.int .i64 f, .slice (some ⟨gg, 0, none⟩) um cp] 52)) w.heap.size v L := own_later hI (below_box wr _)
      have honb := hon.then (below_box wr (.cells #[.int .i64 f, .slice (some ⟨gg, 0, none⟩) um cp] 52))
      have hBb := hB.alloc (.cells #[.int .i64 f, .slice (some ⟨gg, 0, none⟩) um cp] 52)
      have hXb := Blk.new wr 52 #[.int .i64 f, .slice (some ⟨gg, 0, none⟩) um cp] [.int .i64 f, .slice (some ⟨gg, 0, none⟩) um cp] rfl
      obtain ⟨wb, hwb⟩ : ∃ W, W = wr.alloc (.cells #[.int .i64 f, .slice (some ⟨gg, 0, none⟩) um cp] 52) := ⟨_, rfl⟩
      rw [← hwb] at hOb hIb honb hBb hXb
      have HWB := Lib.hid hwb
      clear hwb
      go_wp2
      rw [← HWB.out]
      clear HWB hO hI hon hB c1 s0 s1
      go_loopg [7, 21] um (fun g2 v0 i0 wi => ∃ (j m2 : Nat) (p : List Bool) (L2 : List Int) (v : Value) (rs2 : List R), j + g2 = um ∧ v = v0 ∧ i0 = .int .i64 j ∧ p.length = j ∧ L2.length = m2 ∧ m2 ≤ i * 40 + j ∧ rs2.map (·.2.2.1) = gs ∧ rs2[i]? = some (f, p ++ u.drop j, gg, cp) ∧ rs2.map sl = P ++ (f, p ++ u.drop j) :: (rs.map sl).drop (i + 1) ∧ Mid o (fun x => F.contains x) N T P f bw j p (u.drop j) L2 ((rs.map sl).drop (i + 1)) ∧ OwnC wi base (.slice (some ⟨b, off, none⟩) n c) rs2 ∧ OwnI wi w.heap.size v L2 ∧ Only gs w wi ∧ Blk wi w.heap.size 24 [.int .i64 o, .slice (some ⟨b, off, none⟩) n c] ∧ Blk wi wr.heap.size 52 [.int .i64 f, .slice (some ⟨gg, 0, none⟩) um cp])
      case atStart => exact ⟨0, L.length, [], L, _, rs', by omega, rfl, rfl, rfl, rfl, by omega, hgs', HSI.out, HP2.out, HMid2.out, hOb, hIb, honb, hBb, hXb⟩
      case round =>
        clear hOb hIb honb hBb hXb
        obtain ⟨j, m2, p, L2, v, rs2, hj, rfl, rfl, hp, hL2, hm2, hg2, hri, hr2, hMid, hO, hI, hon, hB, hX⟩ := hrel
        have c0 : wr.cell? ⟨w.heap.size, 0, none⟩ = some (.int .i64 o) := hB.cell 0
        have c2 : wr.cell? ⟨_, 0, none⟩ = some (.int .i64 f) := hX.cell 0
        have c3 : wr.cell? ⟨_, 1, none⟩ = some (.slice (some ⟨gg, 0, none⟩) um cp) := hX.cell 1
        obtain ⟨av, cv, rfl, hv1, hv2, hv3, _⟩ := hI.ints hL2
        have hOwn := Lib.hid hO; have hIn := Lib.hid hI; have hOn := Lib.hid hon; have HMI := Lib.hid hMid; have HR2 := Lib.hid hr2; have HRI := Lib.hid hri; have HG2 := Lib.hid hg2; have HL2 := Lib.hid hL2; have HPL := Lib.hid hp
        clear hMid hr2 hri hg2 hL2 hI hon hp
        cases gk with
        | zero =>
          obtain rfl : j = um := by omega
          clear hj hO
          go_wp2
          go_roundg g
          case rel =>
            refine ⟨i + 1, L2, _, rs2, by have := HG.out; omega, rfl, by go_num, by rw [HL2.out]; omega, HG2.out, hOwn.out, ⟨P ++ [(f, p)], by rw [List.length_append, HP1.out]; rfl, ?_, ?_⟩, hIn.out, hOn.out, hB⟩
            · rw [HR2.out, List.drop_eq_nil_of_le (by rw [HM.out]; exact Nat.le_refl _)]; simp
            · have := HMI.out
              rw [List.drop_eq_nil_of_le (by rw [HM.out]; exact Nat.le_refl _)] at this
              exact this.stop
          case measure => omega
        | succ g2 =>
          have hjm : j < um := by omega
          have HJ := Lib.hid hj
          have hud : u.drop j = u.getD j false :: u.drop (j + 1) := flag_drop HM.out hjm
          obtain ⟨x, hx⟩ : ∃ x, u.getD j false = x := ⟨_, rfl⟩
          rw [hx] at hud
          have HUD := Lib.hid hud
          obtain ⟨f00, f1, hq1, hq2⟩ := hO.flag_at HRI.out (j := j) (by rw [List.length_append, HPL.out, List.length_drop, HM.out]; omega)
          have f0 : wr.cell? ⟨gg, j, none⟩ = some (.bool x) := by
            rw [f00, List.getD_eq_getElem?_getD, List.getElem?_append_right (by rw [HPL.out]; exact Nat.le_refl _), HPL.out, Nat.sub_self, hud]; rfl
          have hcall := Lib.hid (show Calls Try.prog 38 #[.int .i64 f, .pointer (some ⟨X, 0, none⟩)] wr fun e w' => e = .returned (.bool bw) ∧ wr = w' from by
            have h := fresh_38 base X Y fa fm fc F f wr (HE.out.only HO0.out (by rw [HGS.out]; exact hOn.out)) hm
            have e : (F.contains f) = bw := HBW.out
            rw [e] at h
            exact h)
          clear hj hud hx hO f00 hq1 hq2
          have hN64 : (N : Int) ≤ 1000000 := by omega
          by_cases hmN : m2 < N
          · cases x with
            | true =>
              have HMs := Lib.hid (Mid.miss (x := true) (by rw [← HUD.out]; exact HMI.out) (by simp))
              go_wp2
              go_roundg g2
              case rel => exact ⟨j + 1, m2, p ++ [true], L2, _, rs2, by have := HJ.out; omega, rfl, by go_num, by rw [List.length_append, HPL.out]; rfl, HL2.out, by omega, HG2.out, by rw [HRI.out, HUD.out]; simp, by rw [HR2.out, HUD.out]; simp, HMs.out, hOwn.out, hIn.out, hOn.out, hB, hX⟩
              case measure => omega
            | false =>
              cases bw with
              | false =>
                have HMs := Lib.hid (Mid.miss (x := false) (by rw [← HUD.out]; exact HMI.out) (by simp))
                go_wp2_with (go_at_call 38; refine (hcall.out).mono ?_; rintro e w' ⟨rfl, rfl⟩)
                go_roundg g2
                case rel => exact ⟨j + 1, m2, p ++ [false], L2, _, rs2, by have := HJ.out; omega, rfl, by go_num, by rw [List.length_append, HPL.out]; rfl, HL2.out, by omega, HG2.out, by rw [HRI.out, HUD.out]; simp, by rw [HR2.out, HUD.out]; simp, HMs.out, hOwn.out, hIn.out, hOn.out, hB, hX⟩
                case measure => omega
              | true =>
                have hne1 := hB.not_own (hOwn.out.inn _ (List.mem_of_getElem? HRI.out)) (by decide)
                have hne2 := hX.not_own (hOwn.out.inn _ (List.mem_of_getElem? HRI.out)) (by decide)
                have hBs := hB.far (p := ⟨gg, j, none⟩) (fun e => hne1 (by rw [e]; rfl)) (.bool true)
                have hXs := hX.far (p := ⟨gg, j, none⟩) (fun e => hne2 (by rw [e]; rfl)) (.bool true)
                have d0 : (wr.setCell ⟨gg, j, none⟩ (.bool true)).cell? ⟨w.heap.size, 0, none⟩ = some (.int .i64 o) := hBs.cell 0
                have d2 : (wr.setCell ⟨gg, j, none⟩ (.bool true)).cell? ⟨_, 0, none⟩ = some (.int .i64 f) := hXs.cell 0
                clear hne1 hne2
                have hin2 := hOwn.out.inn _ (List.mem_of_getElem? HRI.out)
                have hIs0 : (wr.setCell ⟨gg, j, none⟩ (.bool true)).ownsRow w.heap.size 3 1 (.slice av m2 cv) m2 (L2.map (Value.int .i64)) := by
                  have h := hIn.out
                  unfold OwnI at h
                  rw [HL2.out] at h
                  exact own_flag_kept h hin2 (by decide) j _
                have hIs := own_later hIs0 (below_box (wr.setCell ⟨gg, j, none⟩ (.bool true)) (.cells #[.int .i64 (pp + (j : Int))] 3))
                have hOs0 : OwnC (wr.setCell ⟨gg, j, none⟩ (.bool true)) base (.slice (some ⟨b, off, none⟩) n c) (rs2.set i (f, p ++ true :: u.drop (j + 1), gg, cp)) := by
                  have h := hOwn.out.flag HRI.out j true
                  have e : (p ++ u.drop j).set j true = p ++ true :: u.drop (j + 1) := by
                    rw [HUD.out, List.set_append_right _ _ (by rw [HPL.out]; exact Nat.le_refl _), HPL.out, Nat.sub_self]; rfl
                  simp only [e] at h
                  exact h
                have hOs := hOs0.alloc (.cells #[.int .i64 (pp + (j : Int))] 3)
                have hons := (hOn.out.grown (grown_set wr gg j (.bool true)) (fun k hk => by cases hk; exact .inr (by rw [← HG2.out]; exact List.mem_map.2 ⟨_, List.mem_of_getElem? HRI.out, rfl⟩))).then (below_box (wr.setCell ⟨gg, j, none⟩ (.bool true)) (.cells #[.int .i64 (pp + (j : Int))] 3))
                have hBa := hBs.alloc (.cells #[.int .i64 (pp + (j : Int))] 3)
                have hXa := hXs.alloc (.cells #[.int .i64 (pp + (j : Int))] 3)
                have HIS := Lib.hid hIs; have HOS := Lib.hid hOs; have HONS := Lib.hid hons; have HBA := Lib.hid hBa; have HXA := Lib.hid hXa
                have HMs := Lib.hid (Mid.hit (by rw [← HUD.out]; exact HMI.out) (by rw [HL2.out]; exact hmN))
                clear hin2 hIs0 hIs hOs0 hOs hons hBa hXa hBs hXs hB hX
                have hsrc := src_new (wr.setCell ⟨gg, j, none⟩ (.bool true)) #[.int .i64 (pp + (j : Int))] 3 1 1 1 rfl (by simp [Value.oneCell'])
                rw [show (wr.setCell ⟨gg, j, none⟩ (.bool true)).heap.size = wr.heap.size by simp [World.setCell]] at hsrc
                have HSRC := Lib.hid hsrc
                clear hsrc
                have hp := HPP.out
                have e1 : IntKind.i64.wrap pp = pp := IntWalk.i64_in _ (by omega)
                have e2 : IntKind.i64.wrap (pp + (j : Int)) = pp + (j : Int) := IntWalk.i64_in _ (by omega)
                go_wp2_with (first | (go_at_call 38; refine (hcall.out).mono ?_; rintro e w' ⟨rfl, rfl⟩) | (at_builtin; refine wpList_append_k K31 rfl (.tmp 46) (.tmp 54) rfl _ m2 (L2.map (Value.int .i64)) rfl HIS.out _ 1 1 _ rfl HSRC.out ?c1 ?c2 ?_))
                case c1 => omega
                case c2 => exact HONS.out.size
                intro v3 w3 hown hgrow _
                have hI3 : OwnI w3 w.heap.size v3 (L2 ++ [f * o + (j : Int)]) := by
                  unfold OwnI
                  rw [List.map_append, List.length_append, HL2.out, HPP.out]
                  exact hown
                have hO3 : OwnC w3 base (.slice (some ⟨b, off, none⟩) n c) (rs2.set i (f, p ++ true :: u.drop (j + 1), gg, cp)) :=
                  ⟨HOS.out.out.kept hgrow (inner_ne_outer HOS.out.out HIS.out (by decide)), fun r hr => (HOS.out.inn r hr).kept hgrow (inner_ne_outer (HOS.out.inn r hr) HIS.out (by decide)), HOS.out.nod⟩
                have hon3 : Only gs w w3 := HONS.out.grown hgrow (fun k hk => .inl (World.ownsRow.lt HIS.out k hk).1)
                have hB3 := HBA.out.grown hgrow (HBA.out.not_own HIS.out (by decide))
                have hX3 := HXA.out.grown hgrow (HXA.out.not_own HIS.out (by decide))
                clear hown hgrow d0 d2
                go_wp2
                go_roundg g2
                case rel =>
                  refine ⟨j + 1, m2 + 1, p ++ [true], L2 ++ [f * o + (j : Int)], _, _, by have := HJ.out; omega, rfl, by go_num, by rw [List.length_append, HPL.out]; rfl, by rw [List.length_append, HL2.out]; rfl, by omega, ?_, ?_, ?_, HMs.out, hO3, hI3, hon3, hB3, hX3⟩
                  · rw [List.map_set]
                    show (rs2.map (·.2.2.1)).set i gg = gs
                    have h1 : (rs2.map (·.2.2.1))[i]? = some gg := by rw [List.getElem?_map, HRI.out]; rfl
                    rw [HG2.out] at h1 ⊢
                    exact set_same h1
                  · have hlt : i < rs2.length := by have := HRI.out; rw [List.getElem?_eq_some_iff] at this; exact this.1
                    rw [List.getElem?_set_self hlt]; simp
                  · rw [List.map_set, HR2.out, List.set_append_right _ _ (by rw [HP1.out]; exact Nat.le_refl _), HP1.out, Nat.sub_self]
                    simp [sl]
                case measure => omega
          · have HMs := Lib.hid (Mid.miss (x := x) (by rw [← HUD.out]; exact HMI.out) (by rw [HL2.out]; simp [hmN]))
            go_wp2
            go_roundg g2
            case rel => exact ⟨j + 1, m2, p ++ [x], L2, _, rs2, by have := HJ.out; omega, rfl, by go_num, by rw [List.length_append, HPL.out]; rfl, HL2.out, by omega, HG2.out, by rw [HRI.out, HUD.out]; simp, by rw [HR2.out, HUD.out]; simp, HMs.out, hOwn.out, hIn.out, hOn.out, hB, hX⟩
            case measure => omega
set_option maxRecDepth 100000 in set_option maxHeartbeats 3200000 in
theorem take_41 (base X Y : Nat) (fa : Option Addr) (fm fc : Nat) (F : List Int) (o : Int) (a : Option Addr) (n c : Nat) (rs : List R) (N : Nat) (w : World) (E : Env w base X Y fa fm fc F) (hm : fm ≤ 1000000) (hO : OwnC w base (.slice a n c) rs) (hn : rs.length = n) (hS : Small o (rs.map sl)) (hN : N ≤ 1000000) :
    Calls Try.prog 40 #[.agg #[.int .i64 o, .slice a n c], .int .i64 N, .func (.func 41) #[] #[.pointer (some ⟨Y, 0, none⟩)]] w fun e w' => ∃ v rs', e = .returned v ∧ OwnC w' base (.slice a n c) rs' ∧ rs'.map sl = (tk o (fun x => !F.contains x) N (rs.map sl)).1 ∧ rs'.map (·.2.2.1) = rs.map (·.2.2.1) ∧ OwnI w' w.heap.size v (tk o (fun x => !F.contains x) N (rs.map sl)).2 ∧ Only (rs.map (·.2.2.1)) w w' := by
  obtain ⟨T, hT⟩ : ∃ T, tk o (fun x => !F.contains x) N (rs.map sl) = T := ⟨_, rfl⟩
  rw [hT]
  have HT := Lib.hid hT
  have HN := Lib.hid hn
  have HS := Lib.hid hS
  have HE := Lib.hid E
  obtain ⟨gs, hgs⟩ : ∃ gs, rs.map (·.2.2.1) = gs := ⟨_, rfl⟩
  rw [hgs]
  have HGS := Lib.hid hgs
  have HO0 := Lib.hid hO
  have hlow : ∀ g ∈ gs, base ≤ g := by rw [← hgs]; exact hO.gs_low
  have HLOW := Lib.hid hlow
  have hn1000 : n ≤ 1000 := by have := hS.n; rw [List.length_map, hn] at this; exact this
  obtain ⟨w1, hw1⟩ : ∃ w1, w1 = w.alloc (.cells #[.int .i64 o, .slice a n c] 24) := ⟨_, rfl⟩
  have hB1 : Blk w1 w.heap.size 24 [.int .i64 o, .slice a n c] := by rw [hw1]; exact Blk.new w 24 _ _ rfl
  have k0 : w1.cell? ⟨w.heap.size, 0, none⟩ = some (.int .i64 o) := hB1.cell 0
  have k1 : w1.cell? ⟨w.heap.size, 1, none⟩ = some (.slice a n c) := hB1.cell 1
  have hO1 : OwnC w1 base (.slice a n c) rs := by rw [hw1]; exact hO.alloc _
  have hon1 : Only gs w w1 := (Only.refl gs w).then (by rw [hw1]; exact below_box w _)
  have hz1 : w.heap.size < w1.heap.size := by rw [hw1]; simp
  have HW := Lib.hid hw1
  clear hw1 hT hn hS E hgs hlow hO
  go_enter Try.func40, Try.ntmps40
  go_wp2
  rw [← HW.out]
  clear HW k0 k1
  go_loopg [7, 14] n (fun g v0 i0 wr => ∃ (i : Nat) (L : List Int) (v : Value) (rs' : List R), i + g = n ∧ v = v0 ∧ i0 = .int .i64 i ∧ L.length ≤ i * 40 ∧ rs'.map (·.2.2.1) = gs ∧ OwnC wr base (.slice a n c) rs' ∧ (∃ P, P.length = i ∧ rs'.map sl = P ++ (rs.map sl).drop i ∧ T = (P ++ (tk o (fun x => !F.contains x) (N - L.length) ((rs.map sl).drop i)).1, L ++ (tk o (fun x => !F.contains x) (N - L.length) ((rs.map sl).drop i)).2)) ∧ OwnI wr w.heap.size v L ∧ Only gs w wr ∧ Blk wr w.heap.size 24 [.int .i64 o, .slice a n c])
  case atStart => exact ⟨0, [], _, rs, by omega, rfl, rfl, by simp, HGS.out, hO1, ⟨[], rfl, rfl, by rw [← HT.out]; rfl⟩, World.ownsRow_nil _ _ _ _, hon1, hB1⟩
  case round =>
    clear hO1 hon1 hB1 hz1
    obtain ⟨i, L, v, rs', hg, rfl, rfl, hLl, hgs', hO, hP, hI, hon, hB⟩ := hrel
    have hP := Lib.hid hP
    cases gk with
    | zero =>
      obtain rfl : i = n := by omega
      have HFin := Lib.hid (show rs'.map sl = T.1 ∧ L = T.2 by
        obtain ⟨P, h1, h2, h3⟩ := hP.out
        rw [List.drop_eq_nil_of_le (by rw [List.length_map, HN.out]; exact Nat.le_refl _)] at h2 h3
        rw [h3]; simp [tk, h2])
      clear hg hP
      go_wp2
      go_ret
      exact ⟨_, rs', rfl, hO, HFin.out.1, hgs', by rw [← HFin.out.2]; exact hI, hon⟩
    | succ g =>
      have hin : i < n := by omega
      have hlen' : rs'.length = n := by
        have h1 := congrArg List.length hgs'
        have h2 := congrArg List.length HGS.out
        rw [List.length_map] at h1 h2
        rw [h1, ← h2]; exact HN.out
      obtain ⟨⟨f, u, gg, cp⟩, hs⟩ := get_some hlen' hin
      obtain ⟨P, hP1, hP2, hP3⟩ := hP.out
      have hsl : (rs.map sl)[i]? = some (f, u) := by
        have h1 : (rs'.map sl)[i]? = some (f, u) := by rw [List.getElem?_map, hs]; rfl
        rw [hP2, List.getElem?_append_right (by omega), hP1, Nat.sub_self, List.getElem?_drop] at h1
        exact h1
      have hfr := HS.out.fr _ (List.mem_of_getElem? hsl)
      have hul := HS.out.len _ (List.mem_of_getElem? hsl)
      have ho0 := HS.out.o0
      have ho1 := HS.out.o1
      rw [drop_get hsl] at hP2 hP3
      have HMid := Lib.hid (Mid.start (want := fun x => !F.contains x) hP3)
      have HP1 := Lib.hid hP1; have HP2 := Lib.hid hP2
      obtain ⟨b, off, rfl, s0, s1⟩ := hO.at hs
      obtain ⟨hcp1, hcp2⟩ : u.length ≤ cp ∧ cp ≤ maxLen := cap_own (hO.inn _ (List.mem_of_getElem? hs))
      obtain ⟨um, hum⟩ : ∃ m, u.length = m := ⟨_, rfl⟩
      simp only [hum] at s0 s1 hul hfr hcp1
      obtain ⟨bw, hbw⟩ : ∃ bw, ((fun x => !F.contains x) : Int → Bool) f = bw := ⟨_, rfl⟩
      have HMid2 := Lib.hid (show Mid o (fun x => !F.contains x) N T P f bw 0 [] u L ((rs.map sl).drop (i + 1)) by rw [← hbw]; exact HMid.out)
      have HBW := Lib.hid hbw
      obtain ⟨pp, hpp⟩ : ∃ p : Int, f * o = p := ⟨_, rfl⟩
      have hpb := mul_small hfr.1 hfr.2 ho0 ho1
      rw [hpp] at hpb
      obtain ⟨hp0, hp1⟩ := hpb
      have HPP := Lib.hid hpp
      have HM := Lib.hid hum; have HG := Lib.hid hg; have HSI := Lib.hid hs
      clear hum hg hs hP hP1 hP2 hP3 HMid hsl hbw hpp hlen'
      have c1 : wr.cell? ⟨w.heap.size, 1, none⟩ = some (.slice (some ⟨b, off, none⟩) n c) := hB.cell 1
      have hOb := hO.alloc (.cells #[.int .i64 f, .slice (some ⟨gg, 0, none⟩) um cp] 52)
      have hIb : OwnI (wr.alloc (.cells #[.int .i64 f, .slice (some ⟨gg, 0, none⟩) um cp] 52)) w.heap.size v L := own_later hI (below_box wr _)
      have honb := hon.then (below_box wr (.cells #[.int .i64 f, .slice (some ⟨gg, 0, none⟩) um cp] 52))
      have hBb := hB.alloc (.cells #[.int .i64 f, .slice (some ⟨gg, 0, none⟩) um cp] 52)
      have hXb := Blk.new wr 52 #[.int .i64 f, .slice (some ⟨gg, 0, none⟩) um cp] [.int .i64 f, .slice (some ⟨gg, 0, none⟩) um cp] rfl
      obtain ⟨wb, hwb⟩ : ∃ W, W = wr.alloc (.cells #[.int .i64 f, .slice (some ⟨gg, 0, none⟩) um cp] 52) := ⟨_, rfl⟩
      rw [← hwb] at hOb hIb honb hBb hXb
      have HWB := Lib.hid hwb
      clear hwb
      go_wp2
      rw [← HWB.out]
      clear HWB hO hI hon hB c1 s0 s1
      go_loopg [7, 21] um (fun g2 v0 i0 wi => ∃ (j m2 : Nat) (p : List Bool) (L2 : List Int) (v : Value) (rs2 : List R), j + g2 = um ∧ v = v0 ∧ i0 = .int .i64 j ∧ p.length = j ∧ L2.length = m2 ∧ m2 ≤ i * 40 + j ∧ rs2.map (·.2.2.1) = gs ∧ rs2[i]? = some (f, p ++ u.drop j, gg, cp) ∧ rs2.map sl = P ++ (f, p ++ u.drop j) :: (rs.map sl).drop (i + 1) ∧ Mid o (fun x => !F.contains x) N T P f bw j p (u.drop j) L2 ((rs.map sl).drop (i + 1)) ∧ OwnC wi base (.slice (some ⟨b, off, none⟩) n c) rs2 ∧ OwnI wi w.heap.size v L2 ∧ Only gs w wi ∧ Blk wi w.heap.size 24 [.int .i64 o, .slice (some ⟨b, off, none⟩) n c] ∧ Blk wi wr.heap.size 52 [.int .i64 f, .slice (some ⟨gg, 0, none⟩) um cp])
      case atStart => exact ⟨0, L.length, [], L, _, rs', by omega, rfl, rfl, rfl, rfl, by omega, hgs', HSI.out, HP2.out, HMid2.out, hOb, hIb, honb, hBb, hXb⟩
      case round =>
        clear hOb hIb honb hBb hXb
        obtain ⟨j, m2, p, L2, v, rs2, hj, rfl, rfl, hp, hL2, hm2, hg2, hri, hr2, hMid, hO, hI, hon, hB, hX⟩ := hrel
        have c0 : wr.cell? ⟨w.heap.size, 0, none⟩ = some (.int .i64 o) := hB.cell 0
        have c2 : wr.cell? ⟨_, 0, none⟩ = some (.int .i64 f) := hX.cell 0
        have c3 : wr.cell? ⟨_, 1, none⟩ = some (.slice (some ⟨gg, 0, none⟩) um cp) := hX.cell 1
        obtain ⟨av, cv, rfl, hv1, hv2, hv3, _⟩ := hI.ints hL2
        have hOwn := Lib.hid hO; have hIn := Lib.hid hI; have hOn := Lib.hid hon; have HMI := Lib.hid hMid; have HR2 := Lib.hid hr2; have HRI := Lib.hid hri; have HG2 := Lib.hid hg2; have HL2 := Lib.hid hL2; have HPL := Lib.hid hp
        clear hMid hr2 hri hg2 hL2 hI hon hp
        cases gk with
        | zero =>
          obtain rfl : j = um := by omega
          clear hj hO
          go_wp2
          go_roundg g
          case rel =>
            refine ⟨i + 1, L2, _, rs2, by have := HG.out; omega, rfl, by go_num, by rw [HL2.out]; omega, HG2.out, hOwn.out, ⟨P ++ [(f, p)], by rw [List.length_append, HP1.out]; rfl, ?_, ?_⟩, hIn.out, hOn.out, hB⟩
            · rw [HR2.out, List.drop_eq_nil_of_le (by rw [HM.out]; exact Nat.le_refl _)]; simp
            · have := HMI.out
              rw [List.drop_eq_nil_of_le (by rw [HM.out]; exact Nat.le_refl _)] at this
              exact this.stop
          case measure => omega
        | succ g2 =>
          have hjm : j < um := by omega
          have HJ := Lib.hid hj
          have hud : u.drop j = u.getD j false :: u.drop (j + 1) := flag_drop HM.out hjm
          obtain ⟨x, hx⟩ : ∃ x, u.getD j false = x := ⟨_, rfl⟩
          rw [hx] at hud
          have HUD := Lib.hid hud
          obtain ⟨f00, f1, hq1, hq2⟩ := hO.flag_at HRI.out (j := j) (by rw [List.length_append, HPL.out, List.length_drop, HM.out]; omega)
          have f0 : wr.cell? ⟨gg, j, none⟩ = some (.bool x) := by
            rw [f00, List.getD_eq_getElem?_getD, List.getElem?_append_right (by rw [HPL.out]; exact Nat.le_refl _), HPL.out, Nat.sub_self, hud]; rfl
          have hcall := Lib.hid (show Calls Try.prog 41 #[.int .i64 f, .pointer (some ⟨Y, 0, none⟩)] wr fun e w' => e = .returned (.bool bw) ∧ wr = w' from by
            have h := stale_41 base X Y fa fm fc F f wr (HE.out.only HO0.out (by rw [HGS.out]; exact hOn.out)) hm
            have e : (!F.contains f) = bw := HBW.out
            rw [e] at h
            exact h)
          clear hj hud hx hO f00 hq1 hq2
          have hN64 : (N : Int) ≤ 1000000 := by omega
          by_cases hmN : m2 < N
          · cases x with
            | true =>
              have HMs := Lib.hid (Mid.miss (x := true) (by rw [← HUD.out]; exact HMI.out) (by simp))
              go_wp2
              go_roundg g2
              case rel => exact ⟨j + 1, m2, p ++ [true], L2, _, rs2, by have := HJ.out; omega, rfl, by go_num, by rw [List.length_append, HPL.out]; rfl, HL2.out, by omega, HG2.out, by rw [HRI.out, HUD.out]; simp, by rw [HR2.out, HUD.out]; simp, HMs.out, hOwn.out, hIn.out, hOn.out, hB, hX⟩
              case measure => omega
            | false =>
              cases bw with
              | false =>
                have HMs := Lib.hid (Mid.miss (x := false) (by rw [← HUD.out]; exact HMI.out) (by simp))
                go_wp2_with (go_at_call 41; refine (hcall.out).mono ?_; rintro e w' ⟨rfl, rfl⟩)
                go_roundg g2
                case rel => exact ⟨j + 1, m2, p ++ [false], L2, _, rs2, by have := HJ.out; omega, rfl, by go_num, by rw [List.length_append, HPL.out]; rfl, HL2.out, by omega, HG2.out, by rw [HRI.out, HUD.out]; simp, by rw [HR2.out, HUD.out]; simp, HMs.out, hOwn.out, hIn.out, hOn.out, hB, hX⟩
                case measure => omega
              | true =>
                have hne1 := hB.not_own (hOwn.out.inn _ (List.mem_of_getElem? HRI.out)) (by decide)
                have hne2 := hX.not_own (hOwn.out.inn _ (List.mem_of_getElem? HRI.out)) (by decide)
                have hBs := hB.far (p := ⟨gg, j, none⟩) (fun e => hne1 (by rw [e]; rfl)) (.bool true)
                have hXs := hX.far (p := ⟨gg, j, none⟩) (fun e => hne2 (by rw [e]; rfl)) (.bool true)
                have d0 : (wr.setCell ⟨gg, j, none⟩ (.bool true)).cell? ⟨w.heap.size, 0, none⟩ = some (.int .i64 o) := hBs.cell 0
                have d2 : (wr.setCell ⟨gg, j, none⟩ (.bool true)).cell? ⟨_, 0, none⟩ = some (.int .i64 f) := hXs.cell 0
                clear hne1 hne2
                have hin2 := hOwn.out.inn _ (List.mem_of_getElem? HRI.out)
                have hIs0 : (wr.setCell ⟨gg, j, none⟩ (.bool true)).ownsRow w.heap.size 3 1 (.slice av m2 cv) m2 (L2.map (Value.int .i64)) := by
                  have h := hIn.out
                  unfold OwnI at h
                  rw [HL2.out] at h
                  exact own_flag_kept h hin2 (by decide) j _
                have hIs := own_later hIs0 (below_box (wr.setCell ⟨gg, j, none⟩ (.bool true)) (.cells #[.int .i64 (pp + (j : Int))] 3))
                have hOs0 : OwnC (wr.setCell ⟨gg, j, none⟩ (.bool true)) base (.slice (some ⟨b, off, none⟩) n c) (rs2.set i (f, p ++ true :: u.drop (j + 1), gg, cp)) := by
                  have h := hOwn.out.flag HRI.out j true
                  have e : (p ++ u.drop j).set j true = p ++ true :: u.drop (j + 1) := by
                    rw [HUD.out, List.set_append_right _ _ (by rw [HPL.out]; exact Nat.le_refl _), HPL.out, Nat.sub_self]; rfl
                  simp only [e] at h
                  exact h
                have hOs := hOs0.alloc (.cells #[.int .i64 (pp + (j : Int))] 3)
                have hons := (hOn.out.grown (grown_set wr gg j (.bool true)) (fun k hk => by cases hk; exact .inr (by rw [← HG2.out]; exact List.mem_map.2 ⟨_, List.mem_of_getElem? HRI.out, rfl⟩))).then (below_box (wr.setCell ⟨gg, j, none⟩ (.bool true)) (.cells #[.int .i64 (pp + (j : Int))] 3))
                have hBa := hBs.alloc (.cells #[.int .i64 (pp + (j : Int))] 3)
                have hXa := hXs.alloc (.cells #[.int .i64 (pp + (j : Int))] 3)
                have HIS := Lib.hid hIs; have HOS := Lib.hid hOs; have HONS := Lib.hid hons; have HBA := Lib.hid hBa; have HXA := Lib.hid hXa
                have HMs := Lib.hid (Mid.hit (by rw [← HUD.out]; exact HMI.out) (by rw [HL2.out]; exact hmN))
                clear hin2 hIs0 hIs hOs0 hOs hons hBa hXa hBs hXs hB hX
                have hsrc := src_new (wr.setCell ⟨gg, j, none⟩ (.bool true)) #[.int .i64 (pp + (j : Int))] 3 1 1 1 rfl (by simp [Value.oneCell'])
                rw [show (wr.setCell ⟨gg, j, none⟩ (.bool true)).heap.size = wr.heap.size by simp [World.setCell]] at hsrc
                have HSRC := Lib.hid hsrc
                clear hsrc
                have hp := HPP.out
                have e1 : IntKind.i64.wrap pp = pp := IntWalk.i64_in _ (by omega)
                have e2 : IntKind.i64.wrap (pp + (j : Int)) = pp + (j : Int) := IntWalk.i64_in _ (by omega)
                go_wp2_with (first | (go_at_call 41; refine (hcall.out).mono ?_; rintro e w' ⟨rfl, rfl⟩) | (at_builtin; refine wpList_append_k K31 rfl (.tmp 46) (.tmp 54) rfl _ m2 (L2.map (Value.int .i64)) rfl HIS.out _ 1 1 _ rfl HSRC.out ?c1 ?c2 ?_))
                case c1 => omega
                case c2 => exact HONS.out.size
                intro v3 w3 hown hgrow _
                have hI3 : OwnI w3 w.heap.size v3 (L2 ++ [f * o + (j : Int)]) := by
                  unfold OwnI
                  rw [List.map_append, List.length_append, HL2.out, HPP.out]
                  exact hown
                have hO3 : OwnC w3 base (.slice (some ⟨b, off, none⟩) n c) (rs2.set i (f, p ++ true :: u.drop (j + 1), gg, cp)) :=
                  ⟨HOS.out.out.kept hgrow (inner_ne_outer HOS.out.out HIS.out (by decide)), fun r hr => (HOS.out.inn r hr).kept hgrow (inner_ne_outer (HOS.out.inn r hr) HIS.out (by decide)), HOS.out.nod⟩
                have hon3 : Only gs w w3 := HONS.out.grown hgrow (fun k hk => .inl (World.ownsRow.lt HIS.out k hk).1)
                have hB3 := HBA.out.grown hgrow (HBA.out.not_own HIS.out (by decide))
                have hX3 := HXA.out.grown hgrow (HXA.out.not_own HIS.out (by decide))
                clear hown hgrow d0 d2
                go_wp2
                go_roundg g2
                case rel =>
                  refine ⟨j + 1, m2 + 1, p ++ [true], L2 ++ [f * o + (j : Int)], _, _, by have := HJ.out; omega, rfl, by go_num, by rw [List.length_append, HPL.out]; rfl, by rw [List.length_append, HL2.out]; rfl, by omega, ?_, ?_, ?_, HMs.out, hO3, hI3, hon3, hB3, hX3⟩
                  · rw [List.map_set]
                    show (rs2.map (·.2.2.1)).set i gg = gs
                    have h1 : (rs2.map (·.2.2.1))[i]? = some gg := by rw [List.getElem?_map, HRI.out]; rfl
                    rw [HG2.out] at h1 ⊢
                    exact set_same h1
                  · have hlt : i < rs2.length := by have := HRI.out; rw [List.getElem?_eq_some_iff] at this; exact this.1
                    rw [List.getElem?_set_self hlt]; simp
                  · rw [List.map_set, HR2.out, List.set_append_right _ _ (by rw [HP1.out]; exact Nat.le_refl _), HP1.out, Nat.sub_self]
                    simp [sl]
                case measure => omega
          · have HMs := Lib.hid (Mid.miss (x := x) (by rw [← HUD.out]; exact HMI.out) (by rw [HL2.out]; simp [hmN]))
            go_wp2
            go_roundg g2
            case rel => exact ⟨j + 1, m2, p ++ [x], L2, _, rs2, by have := HJ.out; omega, rfl, by go_num, by rw [List.length_append, HPL.out]; rfl, HL2.out, by omega, HG2.out, by rw [HRI.out, HUD.out]; simp, by rw [HR2.out, HUD.out]; simp, HMs.out, hOwn.out, hIn.out, hOn.out, hB, hX⟩
            case measure => omega
end Go.Proofs.Ythhdiiboblaclaa
