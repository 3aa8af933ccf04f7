/- The decoding of matches, of the reference. -/
import Derived.Test.YtaapgfhcnfaemaaUMats
namespace Go.Proofs.Ytaapgfhcnfaemaa
open Go.RowKit Go.Over Go.Zip Go.Seg
theorem get_drop (d : List Int) (i j : Nat) : get (d.drop i) j = get d (i + j) := by simp only [Zip.get, List.getD_eq_getElem?_getD, List.getElem?_drop]
set_option maxRecDepth 100000 in set_option maxHeartbeats 6400000 in
theorem unmats_30 (a : Option Addr) (d : List Int) (n c : Nat) (w : World) (H : Bytes w a d) (hn : d.length = n) (h80 : n ≤ 80) (hc : n ≤ c) (hcm : c ≤ maxLen) :
    Calls Try.prog 30 #[.slice a n c] w (Ans w (UM (n + 65) d [])) := by
  obtain ⟨i0, hi0, hz0, hz1, hz2⟩ := info_parts Try.info5
  unfold maxLen at hcm
  have HN := Lib.hid hn; clear hn
  obtain ⟨R, hR⟩ : ∃ R, R = UM (n + 65) d [] := ⟨_, rfl⟩
  rw [← hR]
  have HR := Lib.hid hR; clear hR
  go_enter Try.func30, Try.ntmps30
  go_wp2
  go_loopg [4, 5] 32 (fun g v0 x0 wr => ∃ (out : List Int) (v : Value) (i m f : Nat), m + g = 32 ∧ 65 ≤ f + m ∧ i ≤ n ∧ out.length = m ∧ v = v0 ∧ x0 = .int .i64 i ∧ Owns wr w.heap.size v out ∧ (∀ x ∈ out, 0 ≤ x ∧ x ≤ 255) ∧ R = UM f (d.drop i) out ∧ Below w.heap.size w wr)
  case atStart => exact ⟨[], _, 0, 0, n + 65, by omega, by omega, by omega, rfl, rfl, rfl, Owns.nil _ _, by simp, HR.out, Below.refl _ _⟩
  case round =>
    obtain ⟨out, v, i, m, f, hg, hf, hin, hm, rfl, rfl, hO, hob, hU, hbel⟩ := hrel
    obtain ⟨bo, co, rfl⟩ := owns_len hO hm
    obtain ⟨f, rfl⟩ : ∃ k, f = k + 1 := ⟨f - 1, by omega⟩
    have hdl : (d.drop i).length = n - i := by rw [List.length_drop, HN.out]
    rw [UM_succ, hm, hdl, get_drop, get_drop] at hU
    have HFU := Lib.hid hf; clear hf
    have HDL := Lib.hid hdl; clear hdl
    cases gk with
    | zero =>
      obtain rfl : m = 32 := by omega
      rw [if_neg (by omega)] at hU
      have HM := Lib.hid hm; clear hm
      by_cases h0 : i = n
      · rw [if_pos (by omega)] at hU
        have HU := Lib.hid hU; clear hU
        subst h0
        clear hg
        go_wp2
        go_ret2
        exact Ans.yes _ out rfl HU.out hO (by have := HM.out; omega) hob hbel
      · rw [if_neg (by omega)] at hU
        have HU := Lib.hid hU; clear hU
        have hb : ((i : Int) == (n : Int)) = false := by simp; omega
        clear hg
        go_wp2
        go_ret2
        exact Ans.no _ rfl HU.out hbel
    | succ g =>
      have hm32 : m < 32 := by omega
      rw [if_pos hm32] at hU
      have HM := Lib.hid hm; clear hm
      by_cases h2 : n < i + 2
      · rw [if_pos (.inl (by omega))] at hU
        have HU := Lib.hid hU; clear hU
        clear hg
        go_wp2
        go_ret2
        exact Ans.no _ rfl HU.out hbel
      · obtain ⟨b', off', rfl, hcell⟩ := (H.below hbel).2.1 (by rw [HN.out]; omega)
        have hy := H.bound (i := i) (by rw [HN.out]; omega)
        obtain ⟨k, hk⟩ : ∃ k : Nat, get d i = (k : Int) := ⟨(get d i).toNat, by omega⟩
        have c0 := hcell i (by rw [HN.out]; omega)
        have c1 := hcell (i + 1) (by rw [HN.out]; omega)
        have hy1 := H.bound (i := i + 1) (by rw [HN.out]; omega)
        obtain ⟨o, ho⟩ : ∃ o : Nat, get d (i + 1) = (o : Int) := ⟨(get d (i + 1)).toNat, by omega⟩
        rw [Nat.add_zero, hk, ho] at hU
        rw [hk] at hy c0
        rw [ho] at hy1 c1
        clear hcell hk ho
        have hk9 : (k : Int) ≤ 255 := hy.2
        have ho9 : (o : Int) ≤ 255 := hy1.2
        have HG := Lib.hid hg; clear hg
        by_cases h31 : k ≤ 31
        · rw [if_neg (by omega), if_pos (by omega)] at hU
          by_cases hl : 32 < k + 1 + m
          · rw [if_pos (.inl (by omega))] at hU
            have HU := Lib.hid hU; clear hU
            go_wp2
            go_ret2
            exact Ans.no _ rfl HU.out hbel
          · by_cases hl2 : n < i + k + 2
            · rw [if_pos (.inr (by omega))] at hU
              have HU := Lib.hid hU; clear hU
              go_wp2
              go_ret2
              exact Ans.no _ rfl HU.out hbel
            · rw [if_neg (by omega)] at hU
              have HU := Lib.hid hU; clear hU
              have hB1 : Bytes w (some ⟨b', off' + (i + 1), none⟩) ((d.drop (i + 1)).take (k + 1)) := (H.drop (i + 1)).take (k + 1)
              have hl1 : ((d.drop (i + 1)).take (k + 1)).length = k + 1 := by have := HN.out; simp; omega
              have hob2 : ∀ z ∈ out ++ (d.drop (i + 1)).take (k + 1), 0 ≤ z ∧ z ≤ 255 := by
                intro z hz
                rcases List.mem_append.1 hz with h | h
                · exact hob z h
                · exact hB1.2.2 z h
              have HL1 := Lib.hid hl1; clear hl1
              have HL2 := Lib.hid (show (out ++ (d.drop (i + 1)).take (k + 1)).length = m + (k + 1) by rw [List.length_append, HL1.out, HM.out])
              have HO2 := Lib.hid hob2
              have HU2 := Lib.hid (show R = UM f (d.drop (i + (k + 2))) (out ++ (d.drop (i + 1)).take (k + 1)) by have := HU.out; simp only [List.drop_drop] at this; exact this)
              clear hob2 hob
              have e1 : IntKind.i64.wrap ((i : Int) + 1) = ((i + 1 : Nat) : Int) := by rw [IntWalk.i64_in _ (by omega)]; omega
              obtain ⟨j, hj⟩ : ∃ j, j = i + k + 2 := ⟨_, rfl⟩
              have e2 : IntKind.i64.wrap ((i : Int) + (k : Int) + 2) = (j : Int) := by rw [IntWalk.i64_in _ (by omega)]; omega
              go_wp2_with (at_builtin; refine wpList_append_where rfl (.tmp 41) (.tmp 49) rfl hi0 hz0 hz1 hz2 _ out rfl hO _ _ _ ((d.drop (i + 1)).take (k + 1)) rfl ?q0 ?q3 ?q1 hbel.size ?_)
              case q0 => rw [HL1.out]; omega
              case q3 =>
                have := Bytes.cells (hB1.below hbel)
                exact this
              case q1 => have := HM.out; omega
              intro v3 w3 hown hgrow _
              have hb3 : Below w.heap.size w w3 := hbel.grown hgrow hbel.size (fun q hq => (hO.lt q hq).1)
              clear hgrow hO
              go_wp2
              go_roundg (g - k)
              case rel => exact ⟨_, _, i + (k + 2), m + (k + 1), f, by have := HG.out; omega, by have := HFU.out; omega, by omega, HL2.out, rfl, by go_num, hown, HO2.out, HU2.out, hb3⟩
              case measure => omega
        · have d1 : (i : Int) + 1 < (n : Int) := by omega
          have e1 : IntKind.i64.wrap ((i : Int) + 1) = ((i + 1 : Nat) : Int) := by rw [IntWalk.i64_in _ (by omega)]; omega
          have e2 : IntKind.i64.wrap ((k : Int) - 29) = (k : Int) - 29 := IntWalk.i64_in _ (by omega)
          have hko : ¬ (k > 61 ∨ 61 < k + m ∨ o < 1 ∨ m < o) ∨ (k > 61 ∨ 61 < k + m ∨ o < 1 ∨ m < o) := by omega
          rcases hko with hko | hko
          · rw [if_neg (by omega), if_neg (by omega), if_neg (by omega)] at hU
            have hk61 : k ≤ 61 := by omega
            have hkm : k + m ≤ 61 := by omega
            have ho1 : 1 ≤ o := by omega
            have hom : o ≤ m := by omega
            clear hko
            have HU := Lib.hid (show R = UM f (d.drop (i + 2)) (copyN out o (k - 29)) by rw [hU, List.drop_drop]; congr 2; omega); clear hU
            have HL2 := Lib.hid (show (copyN out o (k - 29)).length = m + (k - 29) by rw [copyN_length, HM.out])
            have HO2 := Lib.hid (copyN_bytes o (k - 29) out hob)
            clear hob
            have d31 : decide ((k : Int) ≤ 31) = false := by simp; omega
            have d32 : decide (61 < (k : Int)) = false := by simp; omega
            have d33 : decide (32 - (m : Int) < (k : Int) - 29) = false := by simp; omega
            have d34 : decide ((o : Int) < 1) = false := by simp; omega
            have d35 : decide (m < o) = false := by simp; omega
            have d36 : decide ((m : Int) < 32) = true := by simp; omega
            go_wp2
            go_quiet (fail)
            clear e1 e2
            go_wp2
            go_loopg [4, 9] (k - 29) (fun g2 v0 x0 wi => ∃ (j : Nat) (v : Value), j + g2 = k - 29 ∧ v = v0 ∧ x0 = .int .i64 j ∧ Owns wi w.heap.size v (copyN out o j) ∧ Below w.heap.size w wi)
            case atStart => exact ⟨0, _, by omega, rfl, rfl, hO, below_drewN hbel _⟩
            case round =>
              obtain ⟨j, v, hjg, rfl, rfl, hO3, hb2⟩ := hrel
              clear hO hbel c0 c1
              obtain ⟨t, ht⟩ : ∃ t, t = m + j := ⟨_, rfl⟩
              have hlt : (copyN out o j).length = t := by rw [copyN_length, HM.out, ht]
              obtain ⟨g', cap, rfl, hcell⟩ := owns_row hO3 hlt (by omega)
              cases gk with
              | zero =>
                obtain rfl : j = k - 29 := by omega
                clear hcell hlt ht hjg
                have q1 : ((k - 29 : Nat) : Int) = (k : Int) - 29 := by omega
                have q2 : decide (((k - 29 : Nat) : Int) < (k : Int) - 29) = false := by simp; omega
                go_wp2
                go_roundg (g + 1 - (k - 29))
                case rel => exact ⟨_, _, i + 2, m + (k - 29), f, by have := HG.out; omega, by have := HFU.out; omega, by omega, HL2.out, rfl, by go_num, hO3, HO2.out, HU.out, hb2⟩
                case measure => omega
              | succ g2 =>
                obtain ⟨s, hs⟩ : ∃ s, s = t - o := ⟨_, rfl⟩
                have cs := hcell s (by omega)
                have hsI : (t : Int) - (o : Int) = (s : Int) := by omega
                have hs1 : s < t := by omega
                have HLT := Lib.hid hlt; have HT := Lib.hid ht; have HS := Lib.hid hs; have HJG := Lib.hid hjg; clear hlt ht hs hjg hcell
                have ht9 : (t : Int) ≤ 32 := by have := HT.out; have := HJG.out; omega
                have hjk : (j : Int) < (k : Int) - 29 := by have := HJG.out; omega
                have HCL := Lib.hid (copyN_last o j out)
                go_wp2_with (at_builtin; refine wpList_append_where rfl (.tmp 87) (.tmp 95) rfl hi0 hz0 hz1 hz2 _ (copyN out o j) rfl (hO3.alloc _) ⟨wr.heap.size, 0, none⟩ 1 1 [get (copyN out o j) s] rfl rfl (one_cell wr _) ?q1 ?q2 ?_)
                case q1 => have := HLT.out; omega
                case q2 => have := hb2.size; simp; omega
                intro v3 w3 hown hgrow _
                have hb3 : Below w.heap.size w w3 := (below_alloc hb2 _).grown hgrow (by have := hb2.size; simp; omega) (fun q hq => (hO3.lt q hq).1)
                have hO4 : Owns w3 w.heap.size v3 (copyN out o (j + 1)) := by
                  rw [HCL.out, HLT.out, ← HS.out]
                  exact hown
                clear hown hgrow
                go_wp2
                go_roundg g2
                case rel => exact ⟨j + 1, v3, by have := HJG.out; omega, rfl, by go_num, hO4, hb3⟩
                case measure => omega
          · have HU := Lib.hid (show R = none by
              rw [hU]
              by_cases h : k > 61
              · rw [if_pos (.inr (by omega))]
              · rw [if_neg (by omega), if_neg (by omega), if_pos (by omega)])
            clear hU
            go_wp2
            go_quiet (fail)
            clear e1 e2
            by_cases h1 : k > 61
            · go_wp2
              go_ret2
              exact Ans.no _ rfl HU.out (below_drewN hbel _)
            · by_cases h2 : 61 < k + m
              · go_wp2
                go_ret2
                exact Ans.no _ rfl HU.out (below_drewN hbel _)
              · by_cases h3 : o < 1
                · go_wp2
                  go_ret2
                  exact Ans.no _ rfl HU.out (below_drewN hbel _)
                · have h4 : m < o := by omega
                  clear hko
                  go_wp2
                  go_ret2
                  exact Ans.no _ rfl HU.out (below_drewN hbel _)
end Go.Proofs.Ytaapgfhcnfaemaa
