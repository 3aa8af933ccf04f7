/- The decoding of matches, of the program. -/
import Derived.Test.YtaapgfhcnfaemaaRURuns
namespace Go.Proofs.Ytaapgfhcnfaemaa
open Go.RowKit Go.Over Go.Zip Go.Seg
theorem copyN_succ (out : List Int) (o n : Nat) : copyN out o (n + 1) = copyN (out ++ [get out (out.length - o)]) o n := rfl
theorem copyN_last (o : Nat) : ∀ (n : Nat) (out : List Int), copyN out o (n + 1) = copyN out o n ++ [get (copyN out o n) ((copyN out o n).length - o)]
  | 0, _ => rfl
  | n + 1, out => by rw [copyN_succ, copyN_last o n, copyN_succ]
theorem get_bytes {l : List Int} (h : ∀ x ∈ l, 0 ≤ x ∧ x ≤ 255) (i : Nat) : 0 ≤ get l i ∧ get l i ≤ 255 := by
  by_cases hi : i < l.length
  · rw [get_lt hi]; exact h _ (List.getElem_mem hi)
  · have : get l i = 0 := by simp only [Zip.get, List.getD_eq_getElem?_getD]; rw [List.getElem?_eq_none (by omega)]; rfl
    rw [this]; omega
theorem copyN_bytes (o : Nat) : ∀ (n : Nat) (out : List Int), (∀ x ∈ out, 0 ≤ x ∧ x ≤ 255) → ∀ x ∈ copyN out o n, 0 ≤ x ∧ x ≤ 255
  | 0, _, h => h
  | n + 1, out, h => by
    rw [copyN_succ]
    refine copyN_bytes o n _ fun x hx => ?_
    rcases List.mem_append.1 hx with hx | hx
    · exact h x hx
    · rw [List.mem_singleton.1 hx]; exact get_bytes h _
theorem owns_row {w : World} {base t : Nat} {v : Value} {l : List Int} (h : Owns w base v l) (ht : l.length = t) (h0 : 0 < t) : ∃ g cap, v = .slice (some ⟨g, 0, none⟩) t cap ∧ ∀ s, s < t → w.cell? ⟨g, s, none⟩ = some (.int .u8 (get l s)) := by
  subst ht
  obtain ⟨k, hk⟩ : ∃ k, l.length = k + 1 := ⟨l.length - 1, by omega⟩
  have h2 := h
  unfold Owns at h2
  rw [hk] at h2
  obtain ⟨g, cap, rfl⟩ := ownsRow_succ h2
  refine ⟨g, cap, by rw [hk], fun s hs => ?_⟩
  have := World.ownsRow.cells h (g := g) rfl s (.int .u8 (get l s)) (by rw [List.getElem?_map, List.getElem?_eq_getElem hs, get_lt hs]; rfl)
  rw [show (⟨g, 0, none⟩ : Addr).add s = ⟨g, s, none⟩ by unfold Addr.add; split <;> simp_all] at this
  exact this
set_option maxRecDepth 100000 in set_option maxHeartbeats 6400000 in
theorem unmats_27 (a : Option Addr) (d : List Int) (n c : Nat) (w : World) (H : Bytes w a d) (hn : d.length = n) (h80 : n ≤ 80) (hc : n ≤ c) (hcm : c ≤ maxLen) :
    Calls Try.prog 27 #[.slice a n c] w (Ans w (UM (n + 65) d [])) := by
  obtain ⟨i0, hi0, hz0, hz1, hz2⟩ := info_parts Try.info5
  unfold maxLen at hcm
  have HN := Lib.hid hn; clear hn
  obtain ⟨R, hR⟩ : ∃ R, R = UM (n + 65) d [] := ⟨_, rfl⟩
  rw [← hR]
  have HR := Lib.hid hR; clear hR
  go_enter Try.func27, Try.ntmps27
  go_wp2
  go_loopg [0, 4] 32 (fun g s0 v0 wr => ∃ (a' : Option Addr) (d' out : List Int) (v : Value) (n' c' m f : Nat), m + g = 32 ∧ 65 ≤ f + m ∧ d'.length = n' ∧ out.length = m ∧ s0 = .slice a' n' c' ∧ v = v0 ∧ n' ≤ c' ∧ c' ≤ c ∧ n' ≤ n ∧ Bytes w a' d' ∧ Owns wr w.heap.size v out ∧ (∀ x ∈ out, 0 ≤ x ∧ x ≤ 255) ∧ R = UM f d' out ∧ Below w.heap.size w wr)
  case atStart => exact ⟨a, d, [], _, n, c, 0, n + 65, by omega, by omega, HN.out, rfl, rfl, rfl, hc, Nat.le_refl _, Nat.le_refl _, H, Owns.nil _ _, by simp, HR.out, Below.refl _ _⟩
  case round =>
    obtain ⟨a', d', out, v, n', c', m, f, hg, hf, hn', hm, rfl, rfl, hc', hcc, hnn, hB, hO, hob, hU, hbel⟩ := hrel
    obtain ⟨bo, co, rfl⟩ := owns_len hO hm
    obtain ⟨f, rfl⟩ : ∃ k, f = k + 1 := ⟨f - 1, by omega⟩
    rw [UM_succ, hm, hn'] at hU
    have HFU := Lib.hid hf; clear hf
    cases gk with
    | zero =>
      obtain rfl : m = 32 := by omega
      rw [if_neg (by omega)] at hU
      have HM := Lib.hid hm; clear hm
      by_cases h0 : n' = 0
      · rw [if_pos h0] at hU
        have HU := Lib.hid hU; clear hU
        subst h0
        clear hn' hg
        go_wp2
        go_ret2
        exact Ans.yes _ out rfl HU.out hO (by have := HM.out; omega) hob hbel
      · rw [if_neg h0] at hU
        have HU := Lib.hid hU; clear hU
        have hb : ((n' : Int) == 0) = false := by simp; omega
        clear hn' hg
        go_wp2
        go_ret2
        exact Ans.no _ rfl HU.out hbel
    | succ g =>
      have hm32 : m < 32 := by omega
      rw [if_pos hm32] at hU
      have HM := Lib.hid hm; clear hm
      by_cases h2 : n' < 2
      · rw [if_pos (.inl h2)] at hU
        have HU := Lib.hid hU; clear hU
        clear hn' hg
        go_wp2
        go_ret2
        exact Ans.no _ rfl HU.out hbel
      · obtain ⟨b', off', rfl, hcell⟩ := (hB.below hbel).2.1 (by omega)
        have hy := hB.bound (i := 0) (by omega)
        obtain ⟨k, hk⟩ : ∃ k : Nat, get d' 0 = (k : Int) := ⟨(get d' 0).toNat, by omega⟩
        have c0 : wr.cell? ⟨b', off', none⟩ = some (.int .u8 (get d' 0)) := hcell 0 (by omega)
        have c1 : wr.cell? ⟨b', off' + 1, none⟩ = some (.int .u8 (get d' 1)) := hcell 1 (by omega)
        have hy1 := hB.bound (i := 1) (by omega)
        obtain ⟨o, ho⟩ : ∃ o : Nat, get d' 1 = (o : Int) := ⟨(get d' 1).toNat, by omega⟩
        rw [hk] at hU hy c0
        rw [ho] at hU hy1 c1
        clear hcell hk ho
        have hk9 : (k : Int) ≤ 255 := hy.2
        have ho9 : (o : Int) ≤ 255 := hy1.2
        have HN' := Lib.hid hn'; clear hn'
        have HG := Lib.hid hg; clear hg
        by_cases h61 : k > 61
        · rw [if_pos (.inr (by omega))] at hU
          have HU := Lib.hid hU; clear hU
          go_wp2
          go_ret2
          exact Ans.no _ rfl HU.out hbel
        · rw [if_neg (by omega)] at hU
          by_cases h31 : k ≤ 31
          · rw [if_pos (by omega)] at hU
            by_cases hl : 32 < k + 1 + m
            · rw [if_pos (.inl (by omega))] at hU
              have HU := Lib.hid hU; clear hU
              go_wp2
              go_ret2
              exact Ans.no _ rfl HU.out hbel
            · by_cases hl2 : n' < k + 2
              · rw [if_pos (.inr (by omega))] at hU
                have HU := Lib.hid hU; clear hU
                go_wp2
                go_ret2
                exact Ans.no _ rfl HU.out hbel
              · rw [if_neg (by omega)] at hU
                have HU := Lib.hid hU; clear hU
                have hB1 : Bytes w (some ⟨b', off' + 1, none⟩) ((d'.drop 1).take (k + 1)) := (hB.drop 1).take (k + 1)
                have hB2 : Bytes w (some ⟨b', off' + (k + 2), none⟩) (d'.drop (k + 2)) := hB.drop (k + 2)
                have hl1 : ((d'.drop 1).take (k + 1)).length = k + 1 := by have := HN'.out; simp; omega
                have HL1 := Lib.hid hl1; clear hl1
                have hob2 : ∀ z ∈ out ++ (d'.drop 1).take (k + 1), 0 ≤ z ∧ z ≤ 255 := by
                  intro z hz
                  rcases List.mem_append.1 hz with h | h
                  · exact hob z h
                  · exact hB1.2.2 z h
                have HL2 := Lib.hid (show (out ++ (d'.drop 1).take (k + 1)).length = m + (k + 1) by rw [List.length_append, HL1.out, HM.out])
                have HO2 := Lib.hid hob2
                have HU2 := Lib.hid (show R = UM f (d'.drop (k + 2)) (out ++ (d'.drop 1).take (k + 1)) from HU.out)
                have HD := Lib.hid (show (d'.drop (k + 2)).length = n' - (k + 2) by rw [List.length_drop, HN'.out])
                clear hob2 hob
                by_cases hz : c' = k + 2
                · subst hz
                  obtain rfl : n' = k + 2 := by omega
                  have HNIL := Lib.hid (show d'.drop (k + 2) = [] from List.eq_nil_of_length_eq_zero (by rw [HD.out]; omega))
                  go_wp2
                  refine wp_region_in (fun _ => True) [(true, 9), (false, 1), (true, 2)] [0, 1, 2, 3, 4, 6, 7, 8, 9, 5, 10, 11] 99 (by kernel_rfl) (by kernel_rfl) trivial ?_
                  intro W _ hWe
                  simp only [wpSegsL, inOrder, List.filterMap_cons, List.filterMap_nil, List.getElem?_cons_zero, List.getElem?_cons_succ, List.take_succ_cons, List.take_zero, List.drop_succ_cons, List.drop_zero]
                  have hOW : Owns W w.heap.size (.slice bo m co) out := by rw [hWe]; exact hO
                  have hbW : Below w.heap.size w W := by rw [hWe]; exact hbel.drew
                  clear hWe
                  repeat (go_big_quiet_step (fail))
                  refine wpQuiet_nil ?_
                  refine wpList_append_where rfl (.tmp 41) (.tmp 45) rfl hi0 hz0 hz1 hz2 _ out rfl hOW ⟨b', off' + 1, none⟩ _ _ ((d'.drop 1).take (k + 1)) rfl (by rw [HL1.out]; omega) (Bytes.cells (hB1.below hbW)) ?c1 ?c2 ?_
                  case c1 => have := HM.out; omega
                  case c2 => exact hbW.size
                  intro v3 w3 hown hgrow _
                  have hb3 : Below w.heap.size w w3 := hbW.grown hgrow hbW.size (fun q hq => (hOW.lt q hq).1)
                  clear hgrow hOW hbW
                  refine wpList_nil ⟨⟨w3, by simp [hold]⟩, ?_⟩
                  simp only [Act.put, List.setIfInBounds_toArray, List.set_cons_succ, List.set_cons_zero]
                  repeat (go_big_quiet_step (fail))
                  refine wpQuiet_nil ?_
                  refine NoPanic.normal ?_
                  go_wp2
                  go_roundg (g - k)
                  case rel => exact ⟨_, _, _, _, _, _, m + (k + 1), f, by have := HG.out; omega, by have := HFU.out; omega, HD.out, HL2.out, rfl, rfl, by omega, by omega, by omega, (by first | exact hB2 | (rw [HNIL.out]; exact Bytes.empty _ _)), hown, HO2.out, HU2.out, hb3⟩
                  case measure => omega
                · go_wp2
                  refine wp_region_in (fun _ => True) [(true, 9), (false, 1), (true, 2)] [0, 1, 2, 3, 4, 6, 7, 8, 9, 5, 10, 11] 99 (by kernel_rfl) (by kernel_rfl) trivial ?_
                  intro W _ hWe
                  simp only [wpSegsL, inOrder, List.filterMap_cons, List.filterMap_nil, List.getElem?_cons_zero, List.getElem?_cons_succ, List.take_succ_cons, List.take_zero, List.drop_succ_cons, List.drop_zero]
                  have hOW : Owns W w.heap.size (.slice bo m co) out := by rw [hWe]; exact hO
                  have hbW : Below w.heap.size w W := by rw [hWe]; exact hbel.drew
                  clear hWe
                  repeat (go_big_quiet_step (fail))
                  refine wpQuiet_nil ?_
                  refine wpList_append_where rfl (.tmp 41) (.tmp 45) rfl hi0 hz0 hz1 hz2 _ out rfl hOW ⟨b', off' + 1, none⟩ _ _ ((d'.drop 1).take (k + 1)) rfl (by rw [HL1.out]; omega) (Bytes.cells (hB1.below hbW)) ?c1 ?c2 ?_
                  case c1 => have := HM.out; omega
                  case c2 => exact hbW.size
                  intro v3 w3 hown hgrow _
                  have hb3 : Below w.heap.size w w3 := hbW.grown hgrow hbW.size (fun q hq => (hOW.lt q hq).1)
                  clear hgrow hOW hbW
                  refine wpList_nil ⟨⟨w3, by simp [hold]⟩, ?_⟩
                  simp only [Act.put, List.setIfInBounds_toArray, List.set_cons_succ, List.set_cons_zero]
                  repeat (go_big_quiet_step (fail))
                  refine wpQuiet_nil ?_
                  refine NoPanic.normal ?_
                  go_wp2
                  go_roundg (g - k)
                  case rel => exact ⟨_, _, _, _, _, _, m + (k + 1), f, by have := HG.out; omega, by have := HFU.out; omega, HD.out, HL2.out, rfl, rfl, by omega, by omega, by omega, (by first | exact hB2 | (rw [HNIL.out]; exact Bytes.empty _ _)), hown, HO2.out, HU2.out, hb3⟩
                  case measure => omega
          · rw [if_neg (by omega)] at hU
            by_cases ho1 : o < 1
            · rw [if_pos (.inl (by omega))] at hU
              have HU := Lib.hid hU; clear hU
              go_wp2
              go_ret2
              exact Ans.no _ rfl HU.out hbel
            · by_cases ho2 : m < o
              · rw [if_pos (.inr (.inl (by omega)))] at hU
                have HU := Lib.hid hU; clear hU
                go_wp2
                go_ret2
                exact Ans.no _ rfl HU.out hbel
              · by_cases hkm : 61 < k + m
                · rw [if_pos (.inr (.inr (by omega)))] at hU
                  have HU := Lib.hid hU; clear hU
                  go_wp2
                  go_ret2
                  exact Ans.no _ rfl HU.out hbel
                · rw [if_neg (by omega)] at hU
                  have HU := Lib.hid (show R = UM f (d'.drop 2) (copyN out o (k - 29)) by rw [hU]; congr 2; omega); clear hU
                  have hB2 : Bytes w (some ⟨b', off' + 2, none⟩) (d'.drop 2) := hB.drop 2
                  have HL2 := Lib.hid (show (copyN out o (k - 29)).length = m + (k - 29) by rw [copyN_length, HM.out])
                  have HO2 := Lib.hid (copyN_bytes o (k - 29) out hob)
                  have HD := Lib.hid (show (d'.drop 2).length = n' - 2 by rw [List.length_drop, HN'.out])
                  clear hob
                  go_wp2
                  go_loopg [4, 71] (k - 29) (fun g2 v0 x0 wi => ∃ (j : Nat) (v : Value), j + g2 = k - 29 ∧ v = v0 ∧ x0 = .int .i64 j ∧ Owns wi w.heap.size v (copyN out o j) ∧ Below w.heap.size w wi)
                  case atStart => exact ⟨0, _, by omega, rfl, rfl, hO, hbel⟩
                  case round =>
                    obtain ⟨j, v, hjg, rfl, rfl, hO3, hb2⟩ := hrel
                    clear hO hbel c0 c1
                    obtain ⟨t, ht⟩ : ∃ t, t = m + j := ⟨_, rfl⟩
                    have hlt : (copyN out o j).length = t := by rw [copyN_length, HM.out, ht]
                    obtain ⟨g', cap, rfl, hcell⟩ := owns_row hO3 hlt (by omega)
                    cases gk with
                    | zero =>
                      obtain rfl : j = k - 29 := by omega
                      clear hcell hlt ht hjg
                      by_cases hz : c' = 2
                      · subst hz
                        obtain rfl : n' = 2 := by omega
                        have HNIL := Lib.hid (show d'.drop 2 = [] from List.eq_nil_of_length_eq_zero (by rw [HD.out]))
                        go_wp2
                        go_roundg (g + 1 - (k - 29))
                        case rel => exact ⟨_, _, _, _, _, _, m + (k - 29), f, by have := HG.out; omega, by have := HFU.out; omega, HD.out, HL2.out, rfl, rfl, by omega, by omega, by omega, (by rw [HNIL.out]; exact Bytes.empty _ _), hO3, HO2.out, HU.out, hb2⟩
                        case measure => omega
                      · go_wp2
                        go_roundg (g + 1 - (k - 29))
                        case rel => exact ⟨_, _, _, _, _, _, m + (k - 29), f, by have := HG.out; omega, by have := HFU.out; omega, HD.out, HL2.out, rfl, rfl, by omega, by omega, by omega, hB2, hO3, HO2.out, HU.out, hb2⟩
                        case measure => omega
                    | succ g2 =>
                      obtain ⟨s, hs⟩ : ∃ s, s = t - o := ⟨_, rfl⟩
                      have cs := hcell s (by omega)
                      have hsI : (t : Int) - (o : Int) = (s : Int) := by omega
                      have hs1 : s < t := by omega
                      have HLT := Lib.hid hlt; have HT := Lib.hid ht; have HS := Lib.hid hs; have HJG := Lib.hid hjg; clear hlt ht hs hjg hcell
                      have ht9 : (t : Int) ≤ 32 := by have := HT.out; have := HJG.out; omega
                      have hjk : (j : Int) < (k : Int) - 29 := by have := HJG.out; omega
                      have HCL := Lib.hid (copyN_last o j out)
                      go_wp2_with (at_builtin; refine wpList_append_where rfl (.tmp 73) (.tmp 81) rfl hi0 hz0 hz1 hz2 _ (copyN out o j) rfl (hO3.alloc _) ⟨wr.heap.size, 0, none⟩ 1 1 [get (copyN out o j) s] rfl rfl (one_cell wr _) ?q1 ?q2 ?_)
                      case q1 => have := HLT.out; omega
                      case q2 => have := hb2.size; simp; omega
                      intro v3 w3 hown hgrow _
                      have hb3 : Below w.heap.size w w3 := (below_alloc hb2 _).grown hgrow (by have := hb2.size; simp; omega) (fun q hq => (hO3.lt q hq).1)
                      have hO4 : Owns w3 w.heap.size v3 (copyN out o (j + 1)) := by
                        rw [HCL.out, HLT.out, ← HS.out]
                        exact hown
                      clear hown hgrow
                      go_wp2
                      go_roundg g2
                      case rel => exact ⟨j + 1, v3, by have := HJG.out; omega, rfl, by go_num, hO4, hb3⟩
                      case measure => omega
end Go.Proofs.Ytaapgfhcnfaemaa
