/- The walk of the law that results share nothing with what came in. -/
import Derived.Test.YthhdiiboblaclaaL6
namespace Go.Proofs.Ythhdiiboblaclaa
open Go.RowKit Go.Over Go.Slb Go.Seg Go.Grow
theorem cells_set {rs : List R} {i : Nat} {r : R} (hr : rs[i]? = some r) (f : Int) : cellsR (rs.set i (f, r.2.1, r.2.2.1, r.2.2.2)) = (cellsR rs).set (i * 2) (.int .i64 f) := by
  have hlt : i < rs.length := by rw [List.getElem?_eq_some_iff] at hr; exact hr.1
  have hri : rs[i] = r := by rw [List.getElem?_eq_getElem hlt] at hr; exact Option.some.inj hr
  apply List.ext_getElem?
  intro k
  have hk2 : k = k / 2 * 2 + k % 2 := by omega
  have hl1 : (rs.set i (f, r.2.1, r.2.2.1, r.2.2.2)).length = rs.length := List.length_set
  rcases Nat.lt_or_ge (k / 2) rs.length with hk | hk
  · obtain ⟨s, hs⟩ : ∃ s, (rs.set i (f, r.2.1, r.2.2.1, r.2.2.2))[k / 2]? = some s := ⟨_, List.getElem?_eq_getElem (by omega)⟩
    obtain ⟨t, ht⟩ : ∃ t, rs[k / 2]? = some t := ⟨_, List.getElem?_eq_getElem hk⟩
    have g := cellsR_get hs
    have g' := cellsR_get ht
    by_cases hik : i = k / 2
    · rw [← hik] at hs ht
      rw [List.getElem?_set_self hlt] at hs
      rw [hr] at ht
      cases hs; cases ht
      rcases Nat.mod_two_eq_zero_or_one k with h0 | h0
      · have e : k = k / 2 * 2 := by omega
        rw [e, g.1, ← hik, List.getElem?_set_self (by rw [cellsR_len]; omega)]
      · have e : k = k / 2 * 2 + 1 := by omega
        rw [e, g.2, ← hik, List.getElem?_set_ne (by omega), show i * 2 + 1 = k / 2 * 2 + 1 by rw [hik], g'.2]
        rfl
    · rw [List.getElem?_set_ne hik] at hs
      rw [ht] at hs; cases hs
      rw [List.getElem?_set_ne (by omega)]
      rcases Nat.mod_two_eq_zero_or_one k with h0 | h0
      · have e : k = k / 2 * 2 := by omega
        rw [e, g.1, g'.1]
      · have e : k = k / 2 * 2 + 1 := by omega
        rw [e, g.2, g'.2]
  · rw [List.getElem?_eq_none (by rw [cellsR_len, hl1]; omega), List.getElem?_eq_none (by rw [List.length_set, cellsR_len]; omega)]
/-- A frame of a cache of one's own is changed. -/
theorem OwnC.frame {w : World} {base n c : Nat} {a : Option Addr} {rs : List R} (h : OwnC w base (.slice a n c) rs) (hn : rs.length = n) {i : Nat} {r : R} (hr : rs[i]? = some r) (f : Int) :
    ∃ g, a = some ⟨g, 0, none⟩ ∧ w.cell? ⟨g, i * 2, none⟩ = some (.int .i64 r.1) ∧ w.frozen? ⟨g, i * 2, none⟩ = false ∧ OwnC (w.setCell ⟨g, i * 2, none⟩ (.int .i64 f)) base (.slice a n c) (rs.set i (f, r.2.1, r.2.2.1, r.2.2.2)) := by
  subst hn
  have hlt : i < rs.length := by rw [List.getElem?_eq_some_iff] at hr; exact hr.1
  obtain ⟨g, c', hv, _, _, _, _⟩ := own_pos h.out (by omega)
  cases hv
  obtain ⟨cur, hb, _⟩ := own_blk h.out
  obtain ⟨s1, s2⟩ := World.ownsRow.stored (w := w) (base := base) (e := 52) (size := 2) (g := g) (cap := c) (n := rs.length) (xs := cellsR rs) h.out (i * 2) (.int .i64 f)
  have q0 := World.ownsRow.cells h.out (g := g) rfl _ _ (cellsR_get hr).1
  rw [add_row, Nat.zero_add] at q0
  refine ⟨g, rfl, q0, hb.frozen _, ?_, fun q hq => ?_, ?_⟩
  · rw [List.length_set, cells_set hr]; exact s1
  · have key : ∀ q ∈ rs, (w.setCell ⟨g, i * 2, none⟩ (.int .i64 f)).ownsRow base 4 1 (rv q) q.2.1.length (q.2.1.map Value.bool) := fun q hq => by
      refine (h.inn q hq).kept s2 ?_
      exact inner_ne_outer (h.inn q hq) h.out (by decide)
    rcases List.mem_or_eq_of_mem_set hq with hq1 | rfl
    · exact key q hq1
    · exact key r (List.mem_of_getElem? hr)
  · have e : (rs.set i (f, r.2.1, r.2.2.1, r.2.2.2)).map (·.2.2.1) = rs.map (·.2.2.1) := by
      apply List.ext_getElem?
      intro k
      rw [List.getElem?_map, List.getElem?_map]
      by_cases hik : i = k
      · subst hik
        rw [List.getElem?_set_self hlt, hr]; rfl
      · rw [List.getElem?_set_ne hik]
    rw [e]; exact h.nod
/-- The blocks of a cache of one's own. -/
def blocks (V : Value) (rs : List R) : List Nat := V.ownBlock.toList ++ rs.map (·.2.2.1)
theorem blocks_flag {V : Value} {rs : List R} {i : Nat} {r : R} (hr : rs[i]? = some r) (u : List Bool) (f : Int) : blocks V (rs.set i (f, u, r.2.2.1, r.2.2.2)) = blocks V rs := by
  have hlt : i < rs.length := by rw [List.getElem?_eq_some_iff] at hr; exact hr.1
  unfold blocks
  congr 1
  apply List.ext_getElem?
  intro k
  rw [List.getElem?_map, List.getElem?_map]
  by_cases hik : i = k
  · subst hik
    rw [List.getElem?_set_self hlt, hr]; rfl
  · rw [List.getElem?_set_ne hik]
theorem OwnC.blocks_low {w : World} {base : Nat} {V : Value} {rs : List R} (h : OwnC w base V rs) : ∀ g ∈ blocks V rs, base ≤ g ∧ g < w.heap.size := by
  intro g hg
  rcases List.mem_append.1 hg with hg | hg
  · have : V.ownBlock = some g := by simpa using hg
    exact World.ownsRow.lt h.out g this
  · obtain ⟨r, hr, rfl⟩ := List.mem_map.1 hg
    exact World.ownsRow.lt (h.inn r hr) r.2.2.1 rfl
theorem OwnC.blocks_not {w : World} {base g : Nat} {V : Value} {rs : List R} {t : TypeId} {cs : List Value} (h : OwnC w base V rs) (hb : Blk w g t cs) (h1 : t ≠ 52) (h2 : t ≠ 4) : g ∉ blocks V rs := by
  intro hg
  rcases List.mem_append.1 hg with hg | hg
  · have : V.ownBlock = some g := by simpa using hg
    exact hb.not_own h.out (Ne.symm h1) this
  · exact h.not_in hb h2 hg
/-- What lies elsewhere stays. -/
theorem OwnC.apart {w w' : World} {base : Nat} {V : Value} {rs : List R} {gs : List Nat} (h : OwnC w base V rs) (ho : Only gs w w') (hn : ∀ g ∈ gs, g < base) : OwnC w' base V rs :=
  ⟨own_only1 h.out ho (fun k hk hm => by have := hn k hm; have := (World.ownsRow.lt h.out k hk).1; omega), fun r hr => own_only1 (h.inn r hr) ho (fun k hk hm => by have := hn k hm; have := (World.ownsRow.lt (h.inn r hr) k hk).1; omega), h.nod⟩
theorem OwnC.apart_blk {w w' : World} {base : Nat} {V : Value} {rs : List R} {gs : List Nat} (h : OwnC w base V rs) (ho : Only gs w w') (hn : ∀ g ∈ gs, ∃ cs, Blk w g 3 cs) : OwnC w' base V rs :=
  ⟨own_only1 h.out ho (fun k hk hm => by obtain ⟨cs, hb⟩ := hn k hm; exact hb.not_own h.out (by decide) hk), fun r hr => own_only1 (h.inn r hr) ho (fun k hk hm => by obtain ⟨cs, hb⟩ := hn k hm; exact hb.not_own (h.inn r hr) (by decide) hk), h.nod⟩
theorem own_gs {w : World} {base n : Nat} {v : Value} {xs : List Value} (h : w.ownsRow base 3 1 v n xs) : ∀ g ∈ v.ownBlock.toList, base ≤ g ∧ ∃ cs, Blk w g 3 cs := by
  intro g hg
  have hv : v.ownBlock = some g := by simpa using hg
  obtain ⟨a, c, rfl, _, _, _⟩ := own_form h
  cases a with
  | none => simp [Value.ownBlock] at hv
  | some ad =>
    rcases h.2 with ⟨h1, _⟩ | ⟨g', cap, cur, h1, hb, hg', _⟩
    · cases h1
    · cases h1
      simp [Value.ownBlock] at hv
      subst hv
      exact ⟨hb, cur.toList, by unfold Blk; simpa using hg'⟩
/-- A number of a row of one's own is changed. -/
theorem ints_stored {w : World} {base n c : Nat} {a : Option Addr} {l : List Int} (h : w.ownsRow base 3 1 (.slice a n c) n (l.map (Value.int .i64))) {i : Nat} (hi : i < n) (x : Int) :
    ∃ g, a = some ⟨g, 0, none⟩ ∧ base ≤ g ∧ (∃ y, w.cell? ⟨g, i, none⟩ = some (.int .i64 y)) ∧ w.frozen? ⟨g, i, none⟩ = false ∧ (w.setCell ⟨g, i, none⟩ (.int .i64 x)).ownsRow base 3 1 (.slice a n c) n ((l.set i x).map (Value.int .i64)) := by
  obtain ⟨g, c', hv, hb, _, _, _⟩ := own_pos h (by omega)
  cases hv
  obtain ⟨cur, hbk, _⟩ := own_blk h
  obtain ⟨s1, _⟩ := World.ownsRow.stored (w := w) (base := base) (e := 3) (size := 1) (g := g) (cap := c) (n := n) (xs := l.map (Value.int .i64)) h i (.int .i64 x)
  have hl : l.length = n := by have := h.1; rw [List.length_map, Nat.mul_one] at this; exact this
  have q0 := World.ownsRow.cells h (g := g) rfl i (.int .i64 (l[i]'(by omega))) (by rw [List.getElem?_map, List.getElem?_eq_getElem (by omega)]; rfl)
  rw [add_row, Nat.zero_add] at q0
  exact ⟨g, rfl, hb, ⟨_, q0⟩, hbk.frozen i, by rw [List.map_set]; exact s1⟩
set_option maxRecDepth 100000 in set_option maxHeartbeats 3200000 in
theorem law_keeps (o : Int) (a : Option Addr) (l : List S) (n c : Nat) (N : Int) (fa : Option Addr) (F : List Int) (fm fc : Nat) (w : World) (H : Slabs w a l) (hn : l.length = n) (hN1 : -9223372036854775808 ≤ N) (hN2 : N ≤ 9223372036854775807) (HF : Ints w fa F) (hfm : F.length = fm) (hfc : fm ≤ fc) (hfz : fa = none → fc = 0) :
    Calls Try.prog 11 #[.agg #[.int .i64 o, .slice a n c], .int .i64 N, .slice fa fm fc] w fun e w' => e = .returned (.bool true) ∧ Below w.heap.size w w' := by
  have HFM := Lib.hid hfm
  clear hfm
  have HN := Lib.hid hn
  have b1 := below_box w (.cells #[.int .i64 o, .slice a n c] 24)
  have X1 := Blk.new w 24 #[.int .i64 o, .slice a n c] [.int .i64 o, .slice a n c] rfl
  obtain ⟨w1, hw1⟩ : ∃ W, W = w.alloc (.cells #[.int .i64 o, .slice a n c] 24) := ⟨_, rfl⟩
  rw [← hw1] at b1 X1
  have hfw := few_12 o a l n c w1 (H.below b1) hn
  obtain ⟨fb, hfb⟩ : ∃ fb, fewB 20 l = fb := ⟨_, rfl⟩
  rw [hfb] at hfw
  have HFW := Lib.hid hfw; have HW := Lib.hid hw1; have HFB := Lib.hid hfb
  clear hn hw1 hfw hfb
  go_enter Try.func11, Try.ntmps11
  go_wp2_with fail
  rw [← HW.out]
  refine (HFW.out).mono ?_
  rintro e w2 ⟨rfl, b2⟩
  have X2 := X1.later b2
  have B2 := below_then b1 b2
  have x0 : w2.cell? ⟨w.heap.size, 0, none⟩ = some (.int .i64 o) := X2.cell 0
  have x1 : w2.cell? ⟨w.heap.size, 1, none⟩ = some (.slice a n c) := X2.cell 1
  clear HW HFW b1 b2 X1
  cases fb with
  | false =>
    go_wp2_with (go_at_call 13; refine (awake_13 _).mono ?_; rintro e w' ⟨rfl, hz⟩)
    go_ret
    exact ⟨rfl, (by repeat (first | with_reducible exact Below.refl _ _ | with_reducible assumption | with_reducible refine below_alloc ?_ _ | with_reducible refine Below.drew ?_ | with_reducible refine below_drewN ?_ _ | with_reducible refine below_then ?_ (by with_reducible assumption)))⟩
  | true =>
    have hfs := few_spec HFB.out
    have hn20 : n ≤ 20 := by have := hfs.1; have := HN.out; omega
    have hl40 := hfs.2
    clear hfs HFB
    rcases Nat.lt_or_ge 40 fm with h40 | h40
    · go_wp2_with (go_at_call 13; refine (awake_13 _).mono ?_; rintro e w' ⟨rfl, hz⟩)
      go_ret
      exact ⟨rfl, (by repeat (first | with_reducible exact Below.refl _ _ | with_reducible assumption | with_reducible refine below_alloc ?_ _ | with_reducible refine Below.drew ?_ | with_reducible refine below_drewN ?_ _ | with_reducible refine below_then ?_ (by with_reducible assumption)))⟩
    · have hl40' := Lib.hid hl40
      go_wp2_with fail
      refine (own_32 o a l n c w2 (H.below B2) HN.out (by omega) hl40).mono ?_
      rintro e w3 ⟨V, rs0, rfl, hO3, hrs0, b3⟩
      obtain ⟨aO, cO, rfl, _, _, _, S3⟩ := hO3.slabs (n := n) (by have := congrArg List.length hrs0; rw [List.length_map] at this; rw [this]; exact HN.out)
      rw [hrs0] at S3
      have X3 := X2.later b3
      have B3 := below_then B2 b3
      clear x0 x1 X2 B2 b3 hO3 hrs0
      have hmade : (w3.alloc (.cells #[] 3)).ownsRow w3.heap.size 3 1 (.slice (some ⟨w3.heap.size, 0, none⟩) 0 0) 0 [] := World.ownsRow_made w3 #[] 0 (Nat.le_refl _) (Nat.zero_le _) rfl
      have b4 := below_box w3 (.cells #[] 3)
      have hsrc := Lib.hid (ints_src (c := fc) ((HF.below B3).below b4) HFM.out (fun h => by have := hfz h; omega))
      have HMA := Lib.hid hmade
      clear hmade
      go_wp2_with (at_builtin; refine wpList_append_ks K31 rfl (.tmp 33) (.tmp 34) rfl (.slice (some ⟨w3.heap.size, 0, none⟩) 0 0) 0 [] rfl HMA.out (by simp [Value.ownBlock]) _ fm fc _ rfl hsrc.out ?c1 ?c2 ?_)
      case c1 => omega
      case c2 => simp
      intro gg cp w4 hin4 hg4
      try simp only [Nat.zero_add, List.nil_append] at hin4
      have b34 : Below w3.heap.size w3 w4 := b4.grown hg4 (by simp) (fun k hk => by simp [Value.ownBlock] at hk; omega)
      have S4 := S3.below b34
      have X4 := X3.later b34
      have B4 := below_then B3 b34
      have I4 : Ints w4 (some ⟨gg, 0, none⟩) F := by
        have h : OwnI w4 w3.heap.size (.slice (some ⟨gg, 0, none⟩) fm cp) F := by unfold OwnI; rw [HFM.out]; exact hin4
        obtain ⟨_, _, h1, _, _, _, h2⟩ := h.ints HFM.out
        cases h1; exact h2
      clear hsrc HMA hin4 hg4 b4 b34 S3 X3 B3
      have Y5 := Blk.new w4 24 #[.int .i64 o, .slice aO n cO] [.int .i64 o, .slice aO n cO] rfl
      have b5 := below_box w4 (.cells #[.int .i64 o, .slice aO n cO] 24)
      have S5 := S4.below b5
      have X5 := X4.later b5
      have I5 := I4.below b5
      have B5 := below_then B4 b5
      obtain ⟨yB, hyB⟩ : ∃ z, z = w4.heap.size := ⟨_, rfl⟩
      obtain ⟨w5, hw5⟩ : ∃ W, W = w4.alloc (.cells #[.int .i64 o, .slice aO n cO] 24) := ⟨_, rfl⟩
      rw [← hw5, ← hyB] at Y5
      rw [← hw5] at S5 X5 I5 B5
      have HW5 := Lib.hid hw5; have HYB := Lib.hid hyB
      have y0 : (w4.alloc (.cells #[.int .i64 o, .slice aO n cO] 24)).cell? ⟨yB, 0, none⟩ = some (.int .i64 o) := by rw [← hw5]; exact Y5.cell 0
      have y1 : (w4.alloc (.cells #[.int .i64 o, .slice aO n cO] 24)).cell? ⟨yB, 1, none⟩ = some (.slice aO n cO) := by rw [← hw5]; exact Y5.cell 1
      clear hw5 hyB b5 S4 X4 I4 B4
      go_wp2_with fail
      rw [← HW5.out, ← HYB.out]
      clear HW5 HYB y0 y1
      refine (alloc_19 o aO l n cO N (some ⟨gg, 0, none⟩) F fm cp w5 S5 HN.out (by omega) hN1 hN2 I5 HFM.out (by omega)).mono ?_
      obtain ⟨P, hP⟩ : ∃ P, allocP o l N F = P := ⟨_, rfl⟩
      have hfew := alloc_few (o := o) (l := l) (N := N) (F := F) (by rw [HFM.out]; omega)
      rw [hP] at hfew ⊢
      obtain ⟨pr, pL, px⟩ := P
      obtain ⟨hf1, _, hf3⟩ := hfew
      replace hf1 : pL.length ≤ 1000000 := hf1
      replace hf3 : px.length ≤ 1000000 := hf3
      rintro e w6 ⟨Va, rsa, va, rfl, hOa, hrsa, hIa, b6⟩
      simp only at hrsa hIa
      obtain ⟨o2, ho2⟩ : ∃ o2, (if ((pr, pL, px) : Int × List S × List Int).1 = 0 then o else 0) = o2 := ⟨_, rfl⟩
      rw [ho2]
      obtain ⟨ma, hma⟩ : ∃ m, rsa.length = m := ⟨_, rfl⟩
      obtain ⟨ka, hka⟩ : ∃ k, px.length = k := ⟨_, rfl⟩
      have hma6 : ma ≤ 1000000 := by rw [← hma]; have := congrArg List.length hrsa; rw [List.length_map] at this; omega
      have hka6 : ka ≤ 1000000 := by omega
      obtain ⟨aA, cA, rfl, _, _, _, _⟩ := hOa.slabs hma
      have hIa : w6.ownsRow w5.heap.size 3 1 va ka (px.map (Value.int .i64)) := by unfold OwnI at hIa; rw [hka] at hIa; exact hIa
      obtain ⟨al, cl, rfl, _, _, _⟩ := own_form hIa
      have HMA := Lib.hid hma; have HKA := Lib.hid hka
      clear ho2 hP hf1 hf3 hrsa hma hka
      have Z7 := Blk.new w6 24 #[.int .i64 o2, .slice aA ma cA] [.int .i64 o2, .slice aA ma cA] rfl
      have b7 := below_box w6 (.cells #[.int .i64 o2, .slice aA ma cA] 24)
      have hOa7 := hOa.later b7
      have hIa7 := own_later hIa b7
      have bb := below_then b6 b7
      obtain ⟨zB, hzB⟩ : ∃ z, z = w6.heap.size := ⟨_, rfl⟩
      obtain ⟨w7, hw7⟩ : ∃ W, W = w6.alloc (.cells #[.int .i64 o2, .slice aA ma cA] 24) := ⟨_, rfl⟩
      rw [← hw7, ← hzB] at Z7
      rw [← hw7] at hOa7 hIa7 bb
      have y0 : (w6.alloc (.cells #[.int .i64 o2, .slice aA ma cA] 24)).cell? ⟨yB, 0, none⟩ = some (.int .i64 o) := by rw [← hw7]; exact (Y5.later bb).cell 0
      have y1 : (w6.alloc (.cells #[.int .i64 o2, .slice aA ma cA] 24)).cell? ⟨yB, 1, none⟩ = some (.slice aO n cO) := by rw [← hw7]; exact (Y5.later bb).cell 1
      have HW7 := Lib.hid hw7; have HZB := Lib.hid hzB
      clear hw7 hzB hOa hIa b6 b7
      go_wp2_with fail
      rw [← HW7.out, ← HZB.out]
      clear HW7 HZB y0 y1
      refine (free_22 o aO l n cO N w7 (S5.below bb) HN.out (by omega) hN1 hN2).mono ?_
      obtain ⟨P, hP⟩ : ∃ P, freeP o l N = P := ⟨_, rfl⟩
      have hfew := free_few (o := o) (l := l) (x := N)
      rw [hP] at hfew ⊢
      obtain ⟨qr, qL, qx⟩ := P
      obtain ⟨hf1, _⟩ := hfew
      replace hf1 : qL.length ≤ 1000000 := hf1
      rintro e w8 ⟨Vb, rsb, rfl, hOb, hrsb, b8⟩
      simp only at hrsb
      obtain ⟨o3, ho3⟩ : ∃ o3, (if ((qr, qL, qx) : Int × List S × Int).1 = 0 then o else 0) = o3 := ⟨_, rfl⟩
      rw [ho3]
      obtain ⟨mb, hmb⟩ : ∃ m, rsb.length = m := ⟨_, rfl⟩
      have hmb6 : mb ≤ 1000000 := by rw [← hmb]; have := congrArg List.length hrsb; rw [List.length_map] at this; omega
      obtain ⟨aB, cB, rfl, _, _, _, _⟩ := hOb.slabs hmb
      have HMB := Lib.hid hmb
      clear ho3 hP hf1 hrsb hmb
      have Q9 := Blk.new w8 24 #[.int .i64 o3, .slice aB mb cB] [.int .i64 o3, .slice aB mb cB] rfl
      have b9 := below_box w8 (.cells #[.int .i64 o3, .slice aB mb cB] 24)
      have hOb9 := hOb.later b9
      have b89 := below_then b8 b9
      have bb9 := below_then bb b89
      have hOa9 := hOa7.later b89
      have hIa9 := own_later hIa7 b89
      have Z9 := Z7.later b89
      have hG7 : ∀ g ∈ blocks (.slice aA ma cA) rsa, w5.heap.size ≤ g ∧ g < w7.heap.size := hOa7.blocks_low
      obtain ⟨qB, hqB⟩ : ∃ z, z = w8.heap.size := ⟨_, rfl⟩
      obtain ⟨w9, hw9⟩ : ∃ W, W = w8.alloc (.cells #[.int .i64 o3, .slice aB mb cB] 24) := ⟨_, rfl⟩
      rw [← hw9, ← hqB] at Q9
      rw [← hw9] at hOb9 bb9 hOa9 hIa9 Z9
      have y0 : (w8.alloc (.cells #[.int .i64 o3, .slice aB mb cB] 24)).cell? ⟨yB, 0, none⟩ = some (.int .i64 o) := by rw [← hw9]; exact (Y5.later bb9).cell 0
      have y1 : (w8.alloc (.cells #[.int .i64 o3, .slice aB mb cB] 24)).cell? ⟨yB, 1, none⟩ = some (.slice aO n cO) := by rw [← hw9]; exact (Y5.later bb9).cell 1
      have HW9 := Lib.hid hw9; have HQB := Lib.hid hqB
      have h57 : w5.heap.size ≤ w7.heap.size := bb.size
      clear hw9 hqB hOb hOa7 hIa7 Z7 b8 b9 b89
      go_wp2_with fail
      rw [← HW9.out, ← HQB.out]
      clear HW9 HQB y0 y1
      refine (objects_30 o aO l n cO w9 (S5.below bb9) HN.out (by omega)).mono ?_
      obtain ⟨Z, hZ⟩ : ∃ Z, (if check o l = 0 then objs o true l else []) = Z := ⟨_, rfl⟩
      rw [hZ]
      rintro e w10 ⟨vo, rfl, hIo, b10⟩
      obtain ⟨ko, hko⟩ : ∃ k, Z.length = k := ⟨_, rfl⟩
      have hIo : w10.ownsRow w9.heap.size 3 1 vo ko (Z.map (Value.int .i64)) := by unfold OwnI at hIo; rw [hko] at hIo; exact hIo
      obtain ⟨ao, co, rfl, hco1, hco2, _⟩ := own_form hIo
      have hOa10 := Lib.hid (hOa9.later b10)
      have hOb10 := Lib.hid (hOb9.later b10)
      have hIa10 := own_later hIa9 b10
      have Z10 := Z9.later b10
      have Q10 := Q9.later b10
      have bb10 := below_then bb9 b10
      have HKO := Lib.hid hko
      have h95 : w5.heap.size ≤ w9.heap.size := bb9.size
      unfold maxLen at hco2
      have hg1 := own_gs hIa10
      obtain ⟨G1, hG1⟩ : ∃ G, (Value.slice al ka cl).ownBlock.toList = G := ⟨_, rfl⟩
      rw [hG1] at hg1
      have HG1 := Lib.hid hG1
      have HLT := Lib.hid (show ∀ k ∈ G1, k < w9.heap.size from fun k hk => by
        rw [← hG1] at hk
        have hk' : (Value.slice al ka cl).ownBlock = some k := by simpa using hk
        exact (World.ownsRow.lt hIa9 k hk').2)
      have hIo10 := Lib.hid hIo
      clear hZ hko hIo hOa9 hOb9 hIa9 Z9 Q9 bb9 b10 hG1
      go_wp2
      go_loopg [16] ka (fun g i0 wr => ∃ (i : Nat) (L1 : List Int), i + g = ka ∧ i0 = .int .i64 i ∧ wr.ownsRow w5.heap.size 3 1 (.slice al ka cl) ka (L1.map (Value.int .i64)) ∧ Only G1 w10 wr)
      case atStart => exact ⟨0, px, by omega, rfl, hIa10, Only.refl _ _⟩
      case round =>
        clear hIa10
        obtain ⟨i, L1, hig, rfl, hI1, hon1⟩ := hrel
        cases gk with
        | succ g =>
          have hik : i < ka := by omega
          obtain ⟨g1, rfl, _, ⟨y, q0⟩, q1, hI2⟩ := ints_stored hI1 hik (-1)
          have hgm : g1 ∈ G1 := by rw [← HG1.out]; simp [Value.ownBlock]
          have HIG := Lib.hid hig
          clear hig
          go_wp2
          go_roundg g
          case rel => exact ⟨i + 1, _, by have := HIG.out; omega, by go_num, hI2, only_far hon1 hgm⟩
          case measure => omega
        | zero =>
          obtain rfl : i = ka := by omega
          obtain ⟨w11, hw11⟩ : ∃ W, W = wr := ⟨_, rfl⟩
          rw [← hw11] at hon1 ⊢
          have bb11 : Below w5.heap.size w5 w11 := bb10.trans (hon1.below (fun g hg => (hg1 g hg).1) bb10.size)
          have hOa11 := Lib.hid ((hOa10.out).apart_blk hon1 (fun g hg => (hg1 g hg).2))
          have hOb11 := Lib.hid ((hOb10.out).apart_blk hon1 (fun g hg => (hg1 g hg).2))
          have Z11 := blk_only Z10 hon1 (fun hm => by obtain ⟨cs, hb⟩ := (hg1 _ hm).2; exact (Z10.ne_type hb (by decide)) rfl)
          have Q11 := blk_only Q10 hon1 (fun hm => by obtain ⟨cs, hb⟩ := (hg1 _ hm).2; exact (Q10.ne_type hb (by decide)) rfl)
          have hIo11 : w11.ownsRow w9.heap.size 3 1 (.slice ao ko co) ko (Z.map (Value.int .i64)) := own_only1 (hIo10.out) hon1 (fun k hk hm => by
            have h1 := (World.ownsRow.lt (hIo10.out) k hk).1
            have h2 := HLT.out k hm
            omega)
          have hg2 := own_gs hIo11
          obtain ⟨G2, hG2⟩ : ∃ G, (Value.slice ao ko co).ownBlock.toList = G := ⟨_, rfl⟩
          rw [hG2] at hg2
          have HG2 := Lib.hid hG2
          clear hw11 hig hI1 hOa10 hOb10 Z10 Q10 hIo10 hG2
          go_wp2
          go_loopg [17] ko (fun g i0 wr => ∃ (i : Nat) (L1 : List Int), i + g = ko ∧ i0 = .int .i64 i ∧ wr.ownsRow w9.heap.size 3 1 (.slice ao ko co) ko (L1.map (Value.int .i64)) ∧ Only G2 w11 wr)
          case atStart => exact ⟨0, Z, by omega, rfl, hIo11, Only.refl _ _⟩
          case round =>
            clear hIo11
            obtain ⟨i, L1, hig, rfl, hI1, hon1⟩ := hrel
            cases gk with
            | succ g =>
              have hik : i < ko := by omega
              obtain ⟨g1, rfl, _, ⟨y, q0⟩, q1, hI2⟩ := ints_stored hI1 hik (-1)
              have hgm : g1 ∈ G2 := by rw [← HG2.out]; simp [Value.ownBlock]
              have HIG := Lib.hid hig
              clear hig
              go_wp2
              go_roundg g
              case rel => exact ⟨i + 1, _, by have := HIG.out; omega, by go_num, hI2, only_far hon1 hgm⟩
              case measure => omega
            | zero =>
              obtain rfl : i = ko := by omega
              obtain ⟨w12, hw12⟩ : ∃ W, W = wr := ⟨_, rfl⟩
              rw [← hw12] at hon1 ⊢
              have bb12 : Below w5.heap.size w5 w12 := bb11.trans (hon1.below (fun g hg => Nat.le_trans h95 (hg2 g hg).1) bb11.size)
              have hOa12 := (hOa11.out).apart_blk hon1 (fun g hg => (hg2 g hg).2)
              have hOb12 := (hOb11.out).apart_blk hon1 (fun g hg => (hg2 g hg).2)
              have Z12 := blk_only Z11 hon1 (fun hm => by obtain ⟨cs, hb⟩ := (hg2 _ hm).2; exact (Z11.ne_type hb (by decide)) rfl)
              have Q12 := blk_only Q11 hon1 (fun hm => by obtain ⟨cs, hb⟩ := (hg2 _ hm).2; exact (Q11.ne_type hb (by decide)) rfl)
              clear hw12 hig hI1 hOa11 hOb11 Z11 Q11
              have z0 : w12.cell? ⟨zB, 0, none⟩ = some (.int .i64 o2) := Z12.cell 0
              have z1 : w12.cell? ⟨zB, 1, none⟩ = some (.slice aA ma cA) := Z12.cell 1
              have q0 : w12.cell? ⟨qB, 0, none⟩ = some (.int .i64 o3) := Q12.cell 0
              have q1 : w12.cell? ⟨qB, 1, none⟩ = some (.slice aB mb cB) := Q12.cell 1
              have A13 := Blk.new w12 24 #[.int .i64 o2, .slice aA ma cA, .int .i64 o3, .slice aB mb cB] [.int .i64 o2, .slice aA ma cA, .int .i64 o3, .slice aB mb cB] rfl
              have b13 := below_box w12 (.cells #[.int .i64 o2, .slice aA ma cA, .int .i64 o3, .slice aB mb cB] 24)
              have hOa13 := hOa12.later b13
              have hOb13 := hOb12.later b13
              have bb13 : Below w5.heap.size w5 (w12.alloc (.cells #[.int .i64 o2, .slice aA ma cA, .int .i64 o3, .slice aB mb cB] 24)) := below_then bb12 b13
              obtain ⟨w13, hw13⟩ : ∃ W, W = w12.alloc (.cells #[.int .i64 o2, .slice aA ma cA, .int .i64 o3, .slice aB mb cB] 24) := ⟨_, rfl⟩
              obtain ⟨allB, hallB⟩ : ∃ z, z = w12.heap.size := ⟨_, rfl⟩
              rw [← hw13, ← hallB] at A13
              rw [← hw13] at hOa13 hOb13 bb13
              have HW13 := Lib.hid hw13; have HAB := Lib.hid hallB
              clear hw13 hallB hOa12 hOb12 Z12 Q12 b13
              go_wp2
              rw [← HW13.out, ← HAB.out]
              clear HW13 HAB z0 z1 q0 q1
              obtain ⟨Ga, hGa⟩ : ∃ G, blocks (.slice aA ma cA) rsa = G := ⟨_, rfl⟩
              rw [hGa] at hG7
              have HGA := Lib.hid hGa
              clear hGa
              go_loopg [19] 2 (fun g i0 wr => ∃ (i : Nat), i + g = 2 ∧ i0 = .int .i64 i ∧ Below w5.heap.size w5 wr ∧ Blk wr allB 24 [.int .i64 o2, .slice aA ma cA, .int .i64 o3, .slice aB mb cB] ∧ (i = 0 → ∃ rs, OwnC wr w5.heap.size (.slice aA ma cA) rs ∧ rs.length = ma ∧ blocks (.slice aA ma cA) rs = Ga) ∧ ∃ rs, OwnC wr w7.heap.size (.slice aB mb cB) rs ∧ rs.length = mb)
              case atStart => exact ⟨0, by omega, rfl, bb13, A13, fun _ => ⟨rsa, hOa13, HMA.out, HGA.out⟩, rsb, hOb13, HMB.out⟩
              case round =>
                clear A13 hOa13 hOb13
                obtain ⟨i, hig, rfl, hB14, hA14, h0, hb14⟩ := hrel
                cases gk with
                | zero =>
                  obtain rfl : i = 2 := by omega
                  clear hig h0 hb14 hA14
                  have x0 := hB14.cell (p := ⟨w.heap.size, 0, none⟩) X5.lt
                  have x1 := hB14.cell (p := ⟨w.heap.size, 1, none⟩) X5.lt
                  have y0 := hB14.cell (p := ⟨yB, 0, none⟩) Y5.lt
                  have y1 := hB14.cell (p := ⟨yB, 1, none⟩) Y5.lt
                  rw [X5.cell] at x0 x1
                  rw [Y5.cell] at y0 y1
                  simp only [List.getElem?_cons_zero, List.getElem?_cons_succ] at x0 x1 y0 y1
                  have BW := below_then B5 hB14
                  go_wp2_with fail
                  refine (same_18 o aO a l n cO c wr (S5.below hB14) (H.below BW) HN.out (by omega) (fun s hs => by have := hl40'.out s hs; omega)).mono ?_
                  rintro e w15 ⟨rfl, b15⟩
                  have BX := below_then BW b15
                  have I15 := (I5.below hB14).below b15
                  go_wp2_with fail
                  refine (equal_21 (some ⟨gg, 0, none⟩) fa F fm cp fc w15 I15 (HF.below BX) HFM.out (by omega)).mono ?_
                  rintro e w16 ⟨rfl, b16⟩
                  have BY := below_then BX b16
                  clear BX BW hB14 b15 b16
                  go_wp2_with (go_at_call 13; refine (awake_13 _).mono ?_; rintro e w' ⟨rfl, hz⟩)
                  go_ret
                  exact ⟨rfl, (by repeat (first | with_reducible exact Below.refl _ _ | with_reducible assumption | with_reducible refine below_alloc ?_ _ | with_reducible refine Below.drew ?_ | with_reducible refine below_drewN ?_ _ | with_reducible refine below_then ?_ (by with_reducible assumption)))⟩
                | succ g =>
                  have hi2 : i = 0 ∨ i = 1 := by omega
                  rcases hi2 with rfl | rfl
                  · obtain ⟨rs, hO, hlen, hG⟩ := h0 rfl
                    have HIG := Lib.hid hig
                    clear h0 hig
                    obtain ⟨w14, hw14⟩ : ∃ W, W = wr := ⟨_, rfl⟩
                    rw [← hw14] at hB14 hA14 hb14 hO ⊢
                    clear hw14
                    have hnA := hO.blocks_not hA14 (by decide) (by decide)
                    have hlow := hO.blocks_low
                    rw [hG] at hnA hlow
                    have hO14 := Lib.hid hO; have hG14 := Lib.hid hG; have hlen14 := Lib.hid hlen
                    go_wp2
                    go_loopg [20] ma (fun g2 k0 wi => ∃ (k : Nat) (rs : List R), k + g2 = ma ∧ k0 = .int .i64 k ∧ OwnC wi w5.heap.size (.slice aA ma cA) rs ∧ rs.length = ma ∧ blocks (.slice aA ma cA) rs = Ga ∧ Only Ga w14 wi)
                    case atStart => exact ⟨0, rs, by omega, rfl, hO14.out, hlen14.out, hG14.out, Only.refl _ _⟩
                    case round =>
                      clear hO hlen hG
                      obtain ⟨k, rs2, hkg, rfl, hO, hlen, hG, hon⟩ := hrel
                      have hA := blk_only hA14 hon hnA
                      have u1 : wr.cell? ⟨allB, 1, none⟩ = some (.slice aA ma cA) := hA.cell 1
                      cases gk with
                      | zero =>
                        obtain rfl : k = ma := by omega
                        clear hkg
                        go_wp2
                        go_roundg g
                        case rel =>
                          exact ⟨1, by have := HIG.out; omega, by go_num, hB14.trans (hon.below (fun g hg => (hG7 g hg).1) hB14.size), hA, fun h => absurd h (by decide), by obtain ⟨rs, h1, h2⟩ := hb14; exact ⟨rs, h1.apart hon (fun g hg => (hG7 g hg).2), h2⟩⟩
                        case measure => omega
                      | succ g2 =>
                        have hkm : k < ma := by omega
                        obtain ⟨⟨f, u, gr, cr⟩, hr⟩ := get_some hlen hkm
                        obtain ⟨g0, hV, _, _, _⟩ := hO.frame hlen hr (-1)
                        subst hV
                        obtain ⟨_, _, hV1, _, s1⟩ := hO.at hr
                        cases hV1
                        obtain ⟨um, hum⟩ : ∃ z, u.length = z := ⟨_, rfl⟩
                        simp only [hum, Nat.zero_add] at s1
                        have HKG := Lib.hid hkg; have HUM := Lib.hid hum; have HR := Lib.hid hr; have HLEN := Lib.hid hlen; have HGG := Lib.hid hG; have HO2 := Lib.hid hO
                        have hon2 := hon
                        clear hkg hum hr hlen hG hO hon
                        have hc0 := (cap_own ((HO2.out).inn _ (List.mem_of_getElem? (HR.out))))
                        rw [HUM.out] at hc0
                        obtain ⟨hc1, hc2⟩ := hc0
                        unfold maxLen at hc2
                        go_wp2
                        go_loopg [21] um (fun g3 j0 wj => ∃ (j : Nat) (u2 : List Bool) (rs3 : List R), j + g3 = um ∧ j0 = .int .i64 j ∧ rs3[k]? = some (f, u2, gr, cr) ∧ u2.length = um ∧ OwnC wj w5.heap.size (.slice (some ⟨g0, 0, none⟩) ma cA) rs3 ∧ rs3.length = ma ∧ blocks (.slice (some ⟨g0, 0, none⟩) ma cA) rs3 = Ga ∧ Only Ga w14 wj)
                        case atStart => exact ⟨0, u, rs2, by omega, rfl, HR.out, HUM.out, HO2.out, HLEN.out, HGG.out, hon2⟩
                        case round =>
                          clear hA u1 s1
                          obtain ⟨j, u2, rs3, hjg, rfl, hr3, hu2, hO, hlen, hG, hon⟩ := hrel
                          have hA := blk_only hA14 hon hnA
                          have u1 : wr.cell? ⟨allB, 1, none⟩ = some (.slice (some ⟨g0, 0, none⟩) ma cA) := hA.cell 1
                          obtain ⟨_, _, hV1, _, s1⟩ := hO.at hr3
                          cases hV1
                          simp only [hu2, Nat.zero_add] at s1
                          cases gk with
                          | zero =>
                            obtain rfl : j = um := by omega
                            obtain ⟨g0', hV, q0, q1, hOF⟩ := hO.frame hlen hr3 (-1)
                            cases hV
                            have HR3 := Lib.hid hr3; have HL3 := Lib.hid hlen; have HG3 := Lib.hid hG
                            have hgm : g0 ∈ Ga := by rw [← hG]; simp [blocks, Value.ownBlock]
                            clear hjg hr3 hlen hG hu2
                            go_wp2
                            go_roundg g2
                            case rel =>
                              exact ⟨k + 1, _, by have := HKG.out; omega, by go_num, hOF, by rw [List.length_set]; exact HL3.out, by rw [blocks_flag HR3.out]; exact HG3.out, only_far hon hgm⟩
                            case measure => omega
                          | succ g3 =>
                            have hju : j < um := by omega
                            obtain ⟨f0, f1, _, _⟩ := hO.flag_at hr3 (j := j) (by rw [hu2]; exact hju)
                            obtain ⟨bv, hbv⟩ : ∃ z, u2.getD j false = z := ⟨_, rfl⟩
                            rw [hbv] at f0
                            have HR3 := Lib.hid hr3; have HL3 := Lib.hid hlen; have HG3 := Lib.hid hG; have HU2 := Lib.hid hu2; have HJG := Lib.hid hjg; have HO3 := Lib.hid hO
                            have hgm : gr ∈ Ga := by rw [← hG]; exact List.mem_append.2 (.inr (List.mem_map.2 ⟨_, List.mem_of_getElem? hr3, rfl⟩))
                            clear hjg hr3 hlen hG hu2 hbv hO
                            go_wp2
                            refine wp_region_in (fun W => Below wr.heap.size wr W) [(true, 24), (false, 1)] [0, 1, 2, 3, 4, 5, 6, 7, 8, 9, 10, 11, 12, 13, 14, 15, 16, 17, 18, 19, 20, 21, 22, 23, 24] 24 (by kernel_rfl) (by kernel_rfl) (Below.refl _ _).drew ?_
                            intro W hW hWe
                            clear hWe
                            simp only [wpSegsL, inOrder, List.filterMap_cons, List.filterMap_nil, List.getElem?_cons_zero, List.getElem?_cons_succ, List.take_succ_cons, List.take_zero, List.drop_succ_cons, List.drop_zero]
                            have q0 := fun z => cell_later (hold_ok (S0 := fun W => Below wr.heap.size wr W) hW z) u1
                            have q1 := fun z => cell_later (hold_ok (S0 := fun W => Below wr.heap.size wr W) hW z) s1
                            have q2 := fun z => cell_later (hold_ok (S0 := fun W => Below wr.heap.size wr W) hW z) f0
                            repeat (go_big_quiet_step (fail))
                            refine wpQuiet_nil ?_
                            clear q0 q1 q2 f0 f1
                            have hOW := (HO3.out).later hW
                            obtain ⟨f0, f1, _, _⟩ := hOW.flag_at HR3.out (j := j) (by rw [HU2.out]; exact hju)
                            have honW := hon.then hW
                            go_wp2
                            refine ⟨trivial, NoPanic.normal ?_⟩
                            go_wp2
                            go_roundg g3
                            case rel =>
                              refine ⟨j + 1, u2.set j (!bv), _, by have := HJG.out; omega, by go_num, ?_, by rw [List.length_set]; exact HU2.out, hOW.flag HR3.out j (!bv), by rw [List.length_set]; exact HL3.out, by rw [blocks_flag HR3.out]; exact HG3.out, only_far honW hgm⟩
                              rw [List.getElem?_set_self (by have := HR3.out; rw [List.getElem?_eq_some_iff] at this; exact this.1)]
                            case measure => omega
                  · obtain ⟨rs, hO, hlen⟩ := hb14
                    obtain ⟨Gb, hG⟩ : ∃ G, blocks (.slice aB mb cB) rs = G := ⟨_, rfl⟩
                    have HIG := Lib.hid hig
                    clear h0 hig
                    obtain ⟨w14, hw14⟩ : ∃ W, W = wr := ⟨_, rfl⟩
                    rw [← hw14] at hB14 hA14 hO ⊢
                    clear hw14
                    have hnA := hO.blocks_not hA14 (by decide) (by decide)
                    have hlow := hO.blocks_low
                    rw [hG] at hnA hlow
                    have hO14 := Lib.hid hO; have hG14 := Lib.hid hG; have hlen14 := Lib.hid hlen
                    go_wp2
                    go_loopg [20] mb (fun g2 k0 wi => ∃ (k : Nat) (rs : List R), k + g2 = mb ∧ k0 = .int .i64 k ∧ OwnC wi w7.heap.size (.slice aB mb cB) rs ∧ rs.length = mb ∧ blocks (.slice aB mb cB) rs = Gb ∧ Only Gb w14 wi)
                    case atStart => exact ⟨0, rs, by omega, rfl, hO14.out, hlen14.out, hG14.out, Only.refl _ _⟩
                    case round =>
                      clear hO hlen hG
                      obtain ⟨k, rs2, hkg, rfl, hO, hlen, hG, hon⟩ := hrel
                      have hA := blk_only hA14 hon hnA
                      have u1 : wr.cell? ⟨allB, 3, none⟩ = some (.slice aB mb cB) := hA.cell 3
                      cases gk with
                      | zero =>
                        obtain rfl : k = mb := by omega
                        clear hkg
                        go_wp2
                        go_roundg g
                        case rel =>
                          exact ⟨2, by have := HIG.out; omega, by go_num, hB14.trans (hon.below (fun g hg => Nat.le_trans h57 (hlow g hg).1) hB14.size), hA, fun h => absurd h (by decide), rs2, hO, hlen⟩
                        case measure => omega
                      | succ g2 =>
                        have hkm : k < mb := by omega
                        obtain ⟨⟨f, u, gr, cr⟩, hr⟩ := get_some hlen hkm
                        obtain ⟨g0, hV, _, _, _⟩ := hO.frame hlen hr (-1)
                        subst hV
                        obtain ⟨_, _, hV1, _, s1⟩ := hO.at hr
                        cases hV1
                        obtain ⟨um, hum⟩ : ∃ z, u.length = z := ⟨_, rfl⟩
                        simp only [hum, Nat.zero_add] at s1
                        have HKG := Lib.hid hkg; have HUM := Lib.hid hum; have HR := Lib.hid hr; have HLEN := Lib.hid hlen; have HGG := Lib.hid hG; have HO2 := Lib.hid hO
                        have hon2 := hon
                        clear hkg hum hr hlen hG hO hon
                        have hc0 := (cap_own ((HO2.out).inn _ (List.mem_of_getElem? (HR.out))))
                        rw [HUM.out] at hc0
                        obtain ⟨hc1, hc2⟩ := hc0
                        unfold maxLen at hc2
                        go_wp2
                        go_loopg [21] um (fun g3 j0 wj => ∃ (j : Nat) (u2 : List Bool) (rs3 : List R), j + g3 = um ∧ j0 = .int .i64 j ∧ rs3[k]? = some (f, u2, gr, cr) ∧ u2.length = um ∧ OwnC wj w7.heap.size (.slice (some ⟨g0, 0, none⟩) mb cB) rs3 ∧ rs3.length = mb ∧ blocks (.slice (some ⟨g0, 0, none⟩) mb cB) rs3 = Gb ∧ Only Gb w14 wj)
                        case atStart => exact ⟨0, u, rs2, by omega, rfl, HR.out, HUM.out, HO2.out, HLEN.out, HGG.out, hon2⟩
                        case round =>
                          clear hA u1 s1
                          obtain ⟨j, u2, rs3, hjg, rfl, hr3, hu2, hO, hlen, hG, hon⟩ := hrel
                          have hA := blk_only hA14 hon hnA
                          have u1 : wr.cell? ⟨allB, 3, none⟩ = some (.slice (some ⟨g0, 0, none⟩) mb cB) := hA.cell 3
                          obtain ⟨_, _, hV1, _, s1⟩ := hO.at hr3
                          cases hV1
                          simp only [hu2, Nat.zero_add] at s1
                          cases gk with
                          | zero =>
                            obtain rfl : j = um := by omega
                            obtain ⟨g0', hV, q0, q1, hOF⟩ := hO.frame hlen hr3 (-1)
                            cases hV
                            have HR3 := Lib.hid hr3; have HL3 := Lib.hid hlen; have HG3 := Lib.hid hG
                            have hgm : g0 ∈ Gb := by rw [← hG]; simp [blocks, Value.ownBlock]
                            clear hjg hr3 hlen hG hu2
                            go_wp2
                            go_roundg g2
                            case rel =>
                              exact ⟨k + 1, _, by have := HKG.out; omega, by go_num, hOF, by rw [List.length_set]; exact HL3.out, by rw [blocks_flag HR3.out]; exact HG3.out, only_far hon hgm⟩
                            case measure => omega
                          | succ g3 =>
                            have hju : j < um := by omega
                            obtain ⟨f0, f1, _, _⟩ := hO.flag_at hr3 (j := j) (by rw [hu2]; exact hju)
                            obtain ⟨bv, hbv⟩ : ∃ z, u2.getD j false = z := ⟨_, rfl⟩
                            rw [hbv] at f0
                            have HR3 := Lib.hid hr3; have HL3 := Lib.hid hlen; have HG3 := Lib.hid hG; have HU2 := Lib.hid hu2; have HJG := Lib.hid hjg; have HO3 := Lib.hid hO
                            have hgm : gr ∈ Gb := by rw [← hG]; exact List.mem_append.2 (.inr (List.mem_map.2 ⟨_, List.mem_of_getElem? hr3, rfl⟩))
                            clear hjg hr3 hlen hG hu2 hbv hO
                            go_wp2
                            refine wp_region_in (fun W => Below wr.heap.size wr W) [(true, 24), (false, 1)] [0, 1, 2, 3, 4, 5, 6, 7, 8, 9, 10, 11, 12, 13, 14, 15, 16, 17, 18, 19, 20, 21, 22, 23, 24] 24 (by kernel_rfl) (by kernel_rfl) (Below.refl _ _).drew ?_
                            intro W hW hWe
                            clear hWe
                            simp only [wpSegsL, inOrder, List.filterMap_cons, List.filterMap_nil, List.getElem?_cons_zero, List.getElem?_cons_succ, List.take_succ_cons, List.take_zero, List.drop_succ_cons, List.drop_zero]
                            have q0 := fun z => cell_later (hold_ok (S0 := fun W => Below wr.heap.size wr W) hW z) u1
                            have q1 := fun z => cell_later (hold_ok (S0 := fun W => Below wr.heap.size wr W) hW z) s1
                            have q2 := fun z => cell_later (hold_ok (S0 := fun W => Below wr.heap.size wr W) hW z) f0
                            repeat (go_big_quiet_step (fail))
                            refine wpQuiet_nil ?_
                            clear q0 q1 q2 f0 f1
                            have hOW := (HO3.out).later hW
                            obtain ⟨f0, f1, _, _⟩ := hOW.flag_at HR3.out (j := j) (by rw [HU2.out]; exact hju)
                            have honW := hon.then hW
                            go_wp2
                            refine ⟨trivial, NoPanic.normal ?_⟩
                            go_wp2
                            go_roundg g3
                            case rel =>
                              refine ⟨j + 1, u2.set j (!bv), _, by have := HJG.out; omega, by go_num, ?_, by rw [List.length_set]; exact HU2.out, hOW.flag HR3.out j (!bv), by rw [List.length_set]; exact HL3.out, by rw [blocks_flag HR3.out]; exact HG3.out, only_far honW hgm⟩
                              rw [List.getElem?_set_self (by have := HR3.out; rw [List.getElem?_eq_some_iff] at this; exact this.1)]
                            case measure => omega
end Go.Proofs.Ythhdiiboblaclaa
