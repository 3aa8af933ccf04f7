/- The decoding of runs, of the reference. -/
import Derived.Test.YtaapgfhcnfaemaaURuns
namespace Go.Proofs.Ytaapgfhcnfaemaa
open Go.RowKit Go.Over Go.Zip Go.Seg
def only32 : Option (List Int) → Option (List Int)
  | some p => if p.length = 32 then some p else none
  | none => none
theorem UR_odd : ∀ (d out : List Int), d.length % 2 = 1 → UR d out = none
  | [], _, h => by simp at h
  | [_], _, _ => rfl
  | y :: x :: rest, out, h => by
    rw [UR_two]
    split
    · rfl
    · exact UR_odd rest _ (by simp at h; omega)
theorem drop_two {d : List Int} {i : Nat} (h : i + 1 < d.length) : d.drop i = get d i :: get d (i + 1) :: d.drop (i + 2) := by
  rw [List.drop_eq_getElem_cons (by omega), List.drop_eq_getElem_cons h, get_lt (by omega), get_lt h]
set_option maxHeartbeats 6400000 in
theorem unruns_29 (a : Option Addr) (d : List Int) (n c : Nat) (w : World) (H : Bytes w a d) (hn : d.length = n) (h80 : n ≤ 80) :
    Calls Try.prog 29 #[.slice a n c] w (Ans w (only32 (UR d []))) := by
  obtain ⟨i0, hi0, hz0, hz1, hz2⟩ := info_parts Try.info5
  have HN := Lib.hid hn; clear hn
  by_cases hodd : n % 2 = 1
  · have ho := UR_odd d [] (by rw [HN.out]; exact hodd)
    have HO := Lib.hid (show only32 (UR d []) = none by rw [ho]; rfl)
    have e1 : (n : Int).tmod 2 = 1 := by rw [Int.tmod_eq_emod_of_nonneg (by omega)]; omega
    clear ho
    go_enter Try.func29, Try.ntmps29
    go_wp2
    go_ret2
    exact Ans.no _ rfl HO.out (Below.refl _ _)
  · have e1 : (n : Int).tmod 2 = 0 := by rw [Int.tmod_eq_emod_of_nonneg (by omega)]; omega
    have HE := Lib.hid (show n % 2 = 0 by omega)
    clear hodd
    go_enter Try.func29, Try.ntmps29
    go_wp2
    go_loopg [4, 5] 80 (fun g v0 x0 wr => ∃ (i m : Nat) (out : List Int) (v : Value), n ≤ i + g ∧ i ≤ n ∧ i % 2 = 0 ∧ out.length = m ∧ v = v0 ∧ x0 = .int .i64 i ∧ Owns wr w.heap.size v out ∧ m ≤ 32 ∧ (∀ x ∈ out, 0 ≤ x ∧ x ≤ 255) ∧ UR d [] = UR (d.drop i) out ∧ Below w.heap.size w wr)
    case atStart => exact ⟨0, 0, [], _, by omega, by omega, rfl, rfl, rfl, rfl, Owns.nil _ _, by omega, by simp, rfl, Below.refl _ _⟩
    case round =>
      obtain ⟨i, m, out, v, hg, hin, hev, hm, rfl, rfl, hO, hm32, hob, hU, hbel⟩ := hrel
      obtain ⟨bo, co, rfl⟩ := owns_len hO hm
      have HEV := Lib.hid hev; clear hev
      by_cases h2 : i < n
      · have hi1 : i + 1 < n := by have := HEV.out; have := HE.out; omega
        rw [drop_two (by rw [HN.out]; exact hi1), UR_two] at hU
        obtain ⟨b', off', rfl, hcell⟩ := (H.below hbel).2.1 (by rw [HN.out]; omega)
        have hy := H.bound (i := i) (by rw [HN.out]; omega)
        have hx := H.bound (i := i + 1) (by rw [HN.out]; omega)
        obtain ⟨k, hk⟩ : ∃ k : Nat, get d i = (k : Int) := ⟨(get d i).toNat, by omega⟩
        obtain ⟨x, hxe⟩ : ∃ x, get d (i + 1) = x := ⟨_, rfl⟩
        have c0 := hcell i (by rw [HN.out]; omega)
        rw [hk] at hU hy c0
        rw [hxe] at hU hx
        clear hcell hk
        have hk9 : (k : Int) ≤ 255 := hy.2
        have HM := Lib.hid hm; clear hm
        have HX := Lib.hid hxe; clear hxe
        by_cases hk : k < 1
        · rw [if_pos (by omega)] at hU
          have HU := Lib.hid hU; clear hU
          go_wp2
          go_ret2
          exact Ans.no _ rfl (by rw [HU.out]; rfl) hbel
        · by_cases hk2 : 32 < k + m
          · rw [if_pos (by have := HM.out; omega)] at hU
            have HU := Lib.hid hU; clear hU
            go_wp2
            go_ret2
            exact Ans.no _ rfl (by rw [HU.out]; rfl) hbel
          · rw [if_neg (by have := HM.out; omega)] at hU
            have HU := Lib.hid hU; clear hU
            cases gk with
            | zero => omega
            | succ g =>
            cases g with
            | zero => omega
            | succ g =>
            go_wp2
            go_loopg [4, 7] k (fun g2 v0 x0 wi => ∃ (j : Nat) (v : Value), j + g2 = k ∧ v = v0 ∧ x0 = .int .i64 j ∧ Owns wi w.heap.size v (out ++ List.replicate j x) ∧ Below w.heap.size w wi)
            case atStart => exact ⟨0, _, by omega, rfl, rfl, by simpa using hO, hbel⟩
            case round =>
              obtain ⟨j, v, hjg, rfl, rfl, hO2, hb2⟩ := hrel
              clear hO hbel c0
              cases gk with
              | zero =>
                obtain rfl : j = k := by omega
                have hob2 : ∀ z ∈ out ++ List.replicate j x, 0 ≤ z ∧ z ≤ 255 := by
                  intro z hz
                  rcases List.mem_append.1 hz with h | h
                  · exact hob z h
                  · rw [List.eq_of_mem_replicate h]; exact hx
                have HL2 := Lib.hid (show (out ++ List.replicate j x).length = m + j by rw [List.length_append, List.length_replicate, HM.out])
                have HO2 := Lib.hid hob2
                have HU2 := Lib.hid (show UR d [] = UR (d.drop (i + 2)) (out ++ List.replicate j x) from HU.out)
                clear hob2 hob hjg
                go_wp2
                go_roundg g
                case rel => exact ⟨i + 2, m + j, _, _, by omega, by omega, by have := HEV.out; omega, HL2.out, rfl, by go_num, hO2, by omega, HO2.out, HU2.out, hb2⟩
                case measure => omega
              | succ g2 =>
                obtain ⟨b9, off9, hab, hcell⟩ := (H.below hb2).2.1 (by rw [HN.out]; omega)
                cases hab
                have cx := hcell (i + 1) (by rw [HN.out]; omega)
                rw [HX.out] at cx
                clear hcell
                have HJG := Lib.hid hjg; clear hjg
                have hjk : j < k := by have := HJG.out; omega
                have hll : (out ++ List.replicate j x).length = m + j := by rw [List.length_append, List.length_replicate, HM.out]
                have HLL := Lib.hid hll; clear hll
                go_wp2_with (at_builtin; refine wpList_append_where rfl (.tmp 37) (.tmp 43) rfl hi0 hz0 hz1 hz2 v _ rfl (hO2.alloc _) ⟨wr.heap.size, 0, none⟩ 1 1 [x] rfl rfl (one_cell wr _) ?c1 ?c2 ?_)
                case c1 => have := HLL.out; omega
                case c2 => have := hb2.size; simp; omega
                intro v3 w3 hown hgrow _
                have hb3 : Below w.heap.size w w3 := (below_alloc hb2 _).grown hgrow (by have := hb2.size; simp; omega) (fun q hq => (hO2.lt q hq).1)
                have hO3 : Owns w3 w.heap.size v3 (out ++ List.replicate (j + 1) x) := by
                  rw [List.replicate_succ', ← List.append_assoc]
                  simpa using hown
                clear hown hgrow
                go_wp2
                go_roundg g2
                case rel => exact ⟨j + 1, v3, by have := HJG.out; omega, rfl, by go_num, hO3, hb3⟩
                case measure => omega
      · obtain rfl : i = n := by omega
        have hd : d.drop i = [] := List.drop_eq_nil_of_le (by rw [HN.out]; exact Nat.le_refl _)
        rw [hd] at hU
        have HU := Lib.hid (show UR d [] = some out from hU)
        clear hU hd
        by_cases hm0 : m = 32
        · subst hm0
          have HM := Lib.hid hm; clear hm
          go_wp2
          go_ret2
          exact Ans.yes _ out rfl (by rw [HU.out]; simp only [only32]; rw [if_pos HM.out]) hO (by have := HM.out; omega) hob hbel
        · have hb : ((m : Int) == 32) = false := by simp; omega
          have HM := Lib.hid hm; clear hm
          go_wp2
          go_ret2
          exact Ans.no _ rfl (by rw [HU.out]; simp only [only32]; rw [if_neg (by rw [HM.out]; exact hm0)]) hbel
end Go.Proofs.Ytaapgfhcnfaemaa
